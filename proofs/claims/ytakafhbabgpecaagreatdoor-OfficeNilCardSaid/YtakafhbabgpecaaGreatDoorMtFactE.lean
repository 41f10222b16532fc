/- Closed facts of the row: the card's. -/
import Derived.Test.YtakafhbabgpecaaGreatDoorTie
import Derived.JoinedOf
import Derived.Stop.Joined
import Derived.KernelRfl
namespace Go.MaT
open Go.Proofs Go.Proofs.YtakafhbabgpecaaGreatDoor
set_option maxRecDepth 100000
theorem noneGoes : Tryz.prog.funcs.toList.all (fun fn => !Func.goes fn) = true := by kernel_rfl
theorem goes_none (f : FuncId) : Tryz.prog.goes f = false := by
  have h : ∀ fn ∈ Tryz.prog.funcs.toList, Func.goes fn = false := fun fn hf => by simpa using List.all_eq_true.1 noneGoes fn hf
  have one : ∀ g : Nat, (Tryz.prog.funcs[g]?).any Func.goes = false := fun g => by
    cases hg : Tryz.prog.funcs[g]? with
    | none => rfl
    | some fn => exact h fn (by simpa using Array.mem_of_getElem? hg)
  unfold Program.goes
  have h1 : ((Tryz.prog.closure f).any fun g => (Tryz.prog.funcs[g]?).any Func.goes) = false := by
    rw [List.any_eq_false]
    intro g _
    rw [one g]
    simp
  have h2 : Tryz.prog.funcs.any Func.goes = false := by
    rw [← Array.any_toList, List.any_eq_false]
    intro fn hf
    rw [h fn hf]
    simp
  rw [h1, h2, Bool.and_false, Bool.or_false]
theorem any_goes : ∀ o : Option FuncId, o.any Tryz.prog.goes = false
  | none => rfl
  | some f => goes_none f
theorem goesBy : false = Rows.officeNilRow.goesBy Tryz.prog :=
  show false = ((Tryz.prog.funcNamed Rows.officeNilRow.func).any Tryz.prog.goes || false) by rw [any_goes]; rfl
end Go.MaT
