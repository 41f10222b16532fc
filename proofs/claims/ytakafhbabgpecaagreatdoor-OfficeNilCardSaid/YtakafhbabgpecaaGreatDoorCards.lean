/-
  DERIVED. GIVEN WITH THE SEED: THE CARDS: each row of YtakafhbabgpecaaGreatDoorRows.lean that lists a variable, with what it lists TIED to the program's text (the seventh form; the later family's looks); each row that meets fmt, with fmt's text TOLD by the authors' own Lean function (tested against real Go, not proved from fmt's source: count such statements apart). THE CARD IS WHAT COUNTS. Prove the row's statement (the work); the ties are given (YtakafhbabgpecaaGreatDoorTie.lean); close each card by the builder's one call (the guide's Derived/Test/ToyasCard.lean, 'card_holds'). Laid BY PROGRAM, IN A SANDBOX (cutbox-door.mjs). By AI agents, Wed Nov 11 2026. No macro, syntax, notation, axiom, sorry.
-/
import Derived.Test.YtakafhbabgpecaaGreatDoorRows
import GoSem.ClaimSeven
namespace Go.Proofs.YtakafhbabgpecaaGreatDoor
namespace Rows

/-- THE TIED CARD OF 'mortsafelaw10.OfficeNil'. -/
def officeNilCard : Claim7 := { stood := { row := officeNilRow, standIns := [], harness := (true, "d2c100bd14df602cda4b4b5625a31b42fadb7d1564e7b75b556bced25637d1cd"), looks := true }, kinds := [], alts := [], laidByText := true, laidKinds := [.data, .data, .data, .data, .sentinel, .sentinel, .data, .data, .mapped, .pinned], laidTests := true, laidLooks := .later }
def OfficeNilCardSaid : Prop := Claim7.holds Tryz.pinned (.plain (OpenSpec.ofChange officeNilSpec)) officeNilCard

/-- THE SECOND FORM's CARD OF 'mortsafelaw10.OfficeNil'. -/
def officeNilUptoCard : Claim7 := { stood := { row := officeNilUptoRow, standIns := [], harness := (true, "d2c100bd14df602cda4b4b5625a31b42fadb7d1564e7b75b556bced25637d1cd"), looks := true }, kinds := [], alts := [], laidByText := true, laidKinds := [.data, .data, .data, .data, .sentinel, .sentinel, .data, .data, .mapped, .pinned], laidTests := true, laidLooks := .later }
def OfficeNilUptoCardSaid : Prop := Claim7.holds Tryz.pinned (.plain (OpenSpec.upto officeNilSpec)) officeNilUptoCard
end Rows
end Go.Proofs.YtakafhbabgpecaaGreatDoor
