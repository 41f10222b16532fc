/- Part of the proof of this claim (no condition). -/
import Derived.Test.YtakafhbabgpecaaGreatDoorTie
import Derived.ProofKit
import Derived.LaidMore
import Derived.Lay
import Derived.KernelRfl
namespace Go.MaT
open Go.Proofs Go.Proofs.YtakafhbabgpecaaGreatDoor
open Go.ChangeShapes Go.WideShapes Go.ChangeAt Go.WideMaps Go.WideElems Go.RowKit
set_option maxRecDepth 100000
def lds : List (String × DataW Unit) := Rows.officeNilRow.laid
def great : List String := ["math/bits.deBruijn32tab", "math/bits.deBruijn64tab", "internal/strconv.uint64pow10", "unicode/utf8.acceptRanges", "strconv.ErrRange", "strconv.ErrSyntax", "mortsafe/rule.lengths", "mortsafe/right.forms", "unicode/utf8.first"]
def bytesOf (l : List UInt8) : ByteArray := ⟨l.toArray⟩
def kindEntries : Array MapEntry := #[⟨.string (bytesOf [98, 97, 108, 97, 110, 99, 101]), .int .i64 4, 0⟩, ⟨.string (bytesOf [99, 108, 97, 115, 115]), .int .i64 5, 1⟩, ⟨.string (bytesOf [104, 111, 108, 100, 101, 114, 115]), .int .i64 2, 2⟩,
  ⟨.string (bytesOf [114, 101, 109, 97, 105, 110]), .int .i64 0, 3⟩, ⟨.string (bytesOf [115, 105, 116, 101]), .int .i64 1, 4⟩, ⟨.string (bytesOf [118, 97, 108, 117, 101]), .int .i64 3, 5⟩]
/-- The start: the map of kinds laid by hand; the other listed variables by the kit's function. -/
noncomputable def wk (os : Os) : World := { World.holding Tryz.prog os ⟨#[], #[], []⟩ with heap := ((World.holding Tryz.prog os ⟨#[], #[], []⟩).heap.setIfInBounds 0 (.cells #[.map (some 16)] 129)).push (.map kindEntries 6) }
noncomputable def w0 (os : Os) : World := (wk os).layVars Tryz.prog (lds.filter fun x => great.contains x.1)
theorem w0_os (os : Os) : (w0 os).os = os := World.layVars_os _ _ _
def nilArgs : Array Value := #[.int .i64 0, .string ByteArray.empty, .slice none 0 0]
theorem met (os : Os) : laidMetH Tryz.prog lds ((w0 os).forCall (fun _ _ => 0) ⟨#[], nilArgs, []⟩).memory := by
  rw [MakeChecks.laidMetH_plain _ _ _ (by kernel_rfl)]
  refine laidMet_layVars (w0 := wk os) great [0, 16] (by simp [World.memory, World.forCall, Input.heap, w0]) (by kernel_rfl) (by kernel_rfl) ?_
  exact LaidIn.of_run [0, 16] 8 (by kernel_rfl) (by kernel_rfl) (by kernel_rfl) (by kernel_rfl)
theorem shaped (os : Os) : ((w0 os).forCall (fun _ _ => 0) ⟨#[], nilArgs, []⟩).Shaped Tryz.prog := World.shaped_of_ZipB (by kernel_rfl) (by kernel_rfl)
end Go.MaT
