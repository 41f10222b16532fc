/- OfficeNil: the row and its card. -/
import Derived.Test.YtakafhbabgpecaaGreatDoorMtRow
import Derived.Test.YtakafhbabgpecaaGreatDoorMtFactC
import Derived.Test.YtakafhbabgpecaaGreatDoorMtFactD
import Derived.Test.YtakafhbabgpecaaGreatDoorMtFactE
import Derived.Test.YtakafhbabgpecaaGreatDoorMtFactF
import Derived.Test.YtakafhbabgpecaaGreatDoorCards
import Derived.Test.YtakafhbabgpecaaGreatDoorTie
import Derived.SevenTiedAt
namespace Go.MaT
open Go.Ma Go.Proofs Go.Proofs.YtakafhbabgpecaaGreatDoor
set_option maxRecDepth 100000
theorem said : Rows.OfficeNilSaid :=
  OpenClaim.holds_of_wide 3 Tryz.f3 rfl rfl rfl rfl rfl rfl rfl ⟨rfl, rfl, rfl, rfl, rfl⟩ rfl rfl rfl rfl rfl fnNamed Tryz.func3 facts isInst isWrap
    (fun os started H enc _ => lifted os started H enc)
theorem card : Rows.OfficeNilCardSaid :=
  Claim7.holds_tied_plain_at .later [] [.data, .data, .data, .data, .sentinel, .sentinel, .data, .data, .mapped, .pinned] true (true, "d2c100bd14df602cda4b4b5625a31b42fadb7d1564e7b75b556bced25637d1cd") true
    said (fun _ h => by cases h) wfByText (fun _ h => by cases h) officeNil_row_tie rfl ⟨rfl, rfl⟩ mainIs rfl
    (fun f fn hf hfn => by
      obtain rfl : f = 3 := Option.some.inj (fnNamed.symm.trans hf) |>.symm
      obtain rfl : fn = Tryz.f3 := (Option.some.inj (Tryz.func3.symm.trans hfn)).symm
      exact ⟨looksIs, fun j t ht => by
        rw [Tryz.params3] at ht
        have hm : t ∈ [3, 9, 22] := by simpa using Array.mem_of_getElem? ht
        exact (show Tryz.prog.wantsStandIn t = false by simpa using List.all_eq_true.1 noStandIns t hm)⟩)
    goesBy
end Go.MaT
