/- Package-level tables of integers, as abstract values. -/
import Derived.Test.YtakafhbabgpecaaGreatDoorMaOpen
import Derived.Lib.LaidTab
import Derived.FnData
import Derived.MakeChecks
namespace Go.Ma
open Go.RowKit

variable {P : Program} {W : World}

theorem laidVars_at : ∀ {laid : List (String × DataW Unit)} {ps : List MemPlace}, DataW.LaidVars P W laid ps → ∀ (i : Nat) (name : String) (k : IntKind) (zs : List Int), laid[i]? = some (name, Lib.tabData k zs) →
    ∃ g t cs fuel p, P.globalNamed name = some g ∧ (P.globals[g]?).map (·.type) = some t ∧ W.var? P name = some cs ∧ DataW.trod (fun _ => ()) P W 0 (fun _ => true) false fuel t cs.toList = some (Lib.tabData k zs, p) := by
  intro laid
  induction laid with
  | nil => intro ps _ i name k zs h; simp at h
  | cons x laid ih =>
    intro ps h i name k zs hi
    obtain ⟨n, d⟩ := x
    cases i with
    | zero =>
      simp only [List.getElem?_cons_zero, Option.some.injEq, Prod.mk.injEq] at hi
      obtain ⟨rfl, rfl⟩ := hi
      obtain ⟨g, t, cs, fuel, p, q, h1, h2, h3, h4, _⟩ := h
      exact ⟨g, t, cs, fuel, p, h1, h2, h3, h4⟩
    | succ i =>
      obtain ⟨g, t, cs, fuel, p, q, h1, h2, h3, h4, h5, _⟩ := h
      exact ih h5 i name k zs (by simpa using hi)

theorem tabIs_at {laid : List (String × DataW Unit)} {i : Nat} {name : String} {k : IntKind} {zs : List Int} {g : Nat} {t e : TypeId} {n : Nat} (hi : laid[i]? = some (name, Lib.tabData k zs))
    (hg : P.globalNamed name = some g) (hty : (P.globals[g]?).map (·.type) = some t) (ht : P.underlying t = some (.array n e)) (he : P.underlying e = some (.int k)) (hce : P.cellsOf e = 1) (hct : P.cellsOf t = n)
    (hplain : (laid.all fun x => x.2.handleName?.isNone) = true) (h : laidMetH P laid W) : Lib.TabIs P W name k zs := by
  rw [MakeChecks.laidMetH_plain _ _ _ hplain] at h
  obtain ⟨ps, hl, _⟩ := h
  obtain ⟨g', t', cs, fuel, p, hg', ht', hvar, hd⟩ := laidVars_at hl i name k zs hi
  obtain rfl := Option.some.inj (hg.symm.trans hg')
  obtain rfl := Option.some.inj (hty.symm.trans ht')
  unfold Lib.TabIs
  rw [hvar, ← Lib.cells_of_tab ht he hce hct hd]

theorem tab_fp {name : String} {k : IntKind} {zs : List Int} {g : Nat} (h : Lib.TabIs P W name k zs) (hg : P.globalNamed name = some g) : VR (fun _ => none) (allF W) (.fp (zs.map fun z => .int k z) 0) (.pointer (some ⟨g, 0, none⟩)) := by
  unfold Lib.TabIs World.var? at h
  rw [hg] at h
  simp only [Option.bind_some] at h
  split at h
  · rename_i cs T fr hw
    cases h
    refine VR.fp (s := 0) 0 (allF_some.2 ⟨T, fr, hw⟩) (by simp) fun j x v hx hv => ?_
    simp only [Nat.zero_add, List.getElem?_toArray, List.getElem?_map, Option.map_eq_some_iff] at hx hv
    obtain ⟨z, hz, rfl⟩ := hx
    obtain ⟨z', hz', rfl⟩ := hv
    rw [hz] at hz'
    cases hz'
    exact .int _ _
  · cases h
end Go.Ma
