/- Closed facts of the row: the rest. -/
import Derived.Test.YtakafhbabgpecaaGreatDoorTie
import Derived.JoinedOf
import Derived.Stop.Joined
import Derived.KernelRfl
import Derived.Test.YtakafhbabgpecaaGreatDoorMtFactA
import Derived.Test.YtakafhbabgpecaaGreatDoorMtFactB
namespace Go.MaT
open Go.Proofs Go.Proofs.YtakafhbabgpecaaGreatDoor
set_option maxRecDepth 100000
theorem andT {a b : Bool} (h : a = true) (k : b = true) : (a && b) = true := by rw [h, k]; rfl
theorem k1 : Rows.officeNilRow.wf (OpenSpec.ofChange Rows.officeNilSpec) = true := by kernel_rfl
theorem k2 : laidOutB Tryz.prog = true := by kernel_rfl
theorem k3 : mapsRowed Tryz.prog = true := by kernel_rfl
theorem k23b : Tryz.prog.stopsHeard = true := by kernel_rfl
theorem k24 : Tryz.prog.mayEnter = true := by kernel_rfl
theorem facts : joinedFacts Tryz.prog 3 Tryz.f3 Rows.officeNilSpec Rows.officeNilRow = true := by
  unfold joinedFacts
  exact andT (andT (andT (andT (andT (andT (andT (andT (andT (andT (andT (andT (andT (andT (andT (andT (andT (andT (andT (andT (andT (andT (andT (andT (andT (andT (andT (andT (andT (andT (andT k1 k2) k3) (by kernel_rfl)) (by kernel_rfl)) (by kernel_rfl)) (by kernel_rfl)) (by kernel_rfl)) (by kernel_rfl)) k10) k11) k12) k13) (by kernel_rfl)) (by kernel_rfl)) (by kernel_rfl)) (by kernel_rfl)) (by kernel_rfl)) (by kernel_rfl)) (by kernel_rfl)) (by kernel_rfl)) (by kernel_rfl)) (by kernel_rfl)) (by kernel_rfl)) k23b) k24) (by kernel_rfl)) (by kernel_rfl)) (by kernel_rfl)) (by kernel_rfl)) (by kernel_rfl)) (by kernel_rfl)
theorem fnNamed : Tryz.prog.funcNamed Rows.officeNilRow.func = some 3 := by kernel_rfl
theorem isInst : Tryz.f3.isInstance Tryz.prog Rows.officeNilRow.origin Rows.officeNilRow.targs := of_decide_eq_true (by kernel_rfl)
theorem isWrap : Tryz.f3.isWrapper Tryz.prog Rows.officeNilRow.wrapper Rows.officeNilRow.mainSum := by
  unfold Func.isWrapper; first | (rw [if_pos (by decide +kernel)]; kernel_rfl) | (rw [if_neg (by decide +kernel)]; exact ⟨rfl, rfl⟩)
end Go.MaT
