/- Part of the proof of this claim (no condition). -/
import Derived.Test.YtakafhbabgpecaaGreatDoorMtOcc
import Derived.Test.YtakafhbabgpecaaGreatDoorMtAwake
import Derived.Test.YtakafhbabgpecaaGreatDoorJoin
namespace Go.MaT
open Go.Ma Go.Proofs
theorem join_ok : JoinOk Tryz.prog 62 where
  fn := ⟨_, _, Tryz.func62, rfl, rfl⟩
  jnone := Tryz.strings_Join_none
  jsome := Tryz.strings_Join
theorem base_ok : CallOk Tryz.prog ctx base := orBase_ok (joinBase_ok join_ok) (occBase_ok occ_ok)
theorem mixed_ok : Tryz.prog.follows .mixedOrders = true := by kernel_rfl
theorem run_ok (f : Nat) (args : List AV) (v : AV) (s : Heap) (n : Nat) (h : run f args = some (v, s, n)) : ACalls Tryz.prog ctx.G f args [] 0 (fun x s' n' => x = v ∧ s' = s ∧ n' = n) :=
  (acall_sound (ctxOf_ok mixed_ok) fnsOf_ok base_ok 60 _ _ _ _ _ _ _ h).2
theorem awake_run : run 4 [] = some (.bool true, [], 0) := by
  have h := awake
  revert h
  generalize run 4 [] = o
  intro h
  split at h
  · rfl
  · cases h
theorem awake_ok : ACalls Tryz.prog ctx.G 4 [] [] 0 (fun v s n => v = .bool true ∧ s = [] ∧ n = 0) := run_ok 4 [] _ _ _ awake_run
end Go.MaT
