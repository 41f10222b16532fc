/- Part of the proof of this claim (no condition). -/
import Derived.Test.YtakafhbabgpecaaGreatDoorMtReal
import Derived.Test.YtakafhbabgpecaaGreatDoorMtLaw
import Derived.Test.YtakafhbabgpecaaGreatDoorMtWit
import Derived.Test.YtakafhbabgpecaaGreatDoorMaGlob
import Derived.OpenShut
import Derived.ChangeMaps5
import Derived.Stop.Joined
import Derived.SevenTiedAt
namespace Go.MaT
open Go.Ma Go.Proofs Go.Proofs.YtakafhbabgpecaaGreatDoor
open Go.ChangeShapes Go.WideShapes Go.ChangeAt Go.WideMaps Go.WideElems Go.RowKit Go.ChangeMaps
set_option maxRecDepth 100000

theorem own : ownKnob Tryz.prog.godebug = none := by kernel_rfl
theorem laidOut : laidOutB Tryz.prog = true := by kernel_rfl

theorem globals_ok {W : World} (h : laidMetH Tryz.prog lds W) : GR (allF W) ctx.G := by
  intro g x hx
  have t5 : Lib.TabIs Tryz.prog W "internal/strconv.uint64pow10" .u64 ((List.range 20).map fun i => ((10 ^ i : Nat) : Int)) :=
    tabIs_at (i := 2) (g := 5) rfl (by kernel_rfl) rfl rfl rfl (by kernel_rfl) (by kernel_rfl) (by kernel_rfl) h
  have t10 : Lib.TabIs Tryz.prog W "mortsafe/rule.lengths" .i64 [31,28,31,30,31,30,31,31,30,31,30,31] :=
    tabIs_at (i := 6) (g := 10) rfl (by kernel_rfl) rfl rfl rfl (by kernel_rfl) (by kernel_rfl) (by kernel_rfl) h
  have hx' : gl g = some x := hx
  unfold gl at hx'
  split at hx'
  · cases hx'
    exact tab_fp t5 (by kernel_rfl)
  · cases hx'
    exact tab_fp t10 (by kernel_rfl)
  · cases hx'

theorem ent_of_typed {k : Nat} {r : List AV} (h : Typed Tryz.prog (k + 2) 59 r) : IsEnt r := by
  obtain ⟨ls, rfl, hlen, hf⟩ := typed_struct Tryz.underlying59 h
  match ls, hlen with
  | [l0, l1, l2, l3, l4], _ =>
    obtain ⟨s, rfl, _⟩ := typed_string Tryz.underlying9 (hf 0 _ l0 rfl rfl)
    obtain ⟨a, rfl, _⟩ := typed_int Tryz.underlying3 (hf 1 _ l1 rfl rfl)
    obtain ⟨b, rfl, _⟩ := typed_int Tryz.underlying3 (hf 2 _ l2 rfl rfl)
    obtain ⟨c, rfl, _⟩ := typed_int Tryz.underlying3 (hf 3 _ l3 rfl rfl)
    obtain ⟨t, rfl, _⟩ := typed_string Tryz.underlying9 (hf 4 _ l4 rfl rfl)
    exact ⟨s, a, b, c, t, rfl⟩

/-- The law at the model, over whatever lies. -/
theorem run_law (W : World) (hL : laidMetH Tryz.prog lds W) (day : Int) (text : ByteArray) (v : Value) (els : List (List AV)) (hv : VR (fun _ => none) (allF W) (.fs els) v) (hels : ∀ r ∈ els, IsEnt r) (hlen : els.length ≤ 140737488355328) :
    Calls Tryz.prog 3 #[.int .i64 day, .string text, v] W fun e W' => e = .returned (.bool true) ∧ Below W.heap.size W W' := by
  refine (law_ok awake_ok day text els hels hlen (fun _ => none) (allF W) W #[.int .i64 day, .string text, v] (rel0 W) (globals_ok hL) ⟨rfl, fun j x u hx hu => ?_⟩).mono ?_
  · match j, hx, hu with
    | 0, hx, hu => cases hx; cases hu; exact .int _ _
    | 1, hx, hu => cases hx; cases hu; exact .str _
    | 2, hx, hu => cases hx; cases hu; exact hv
  · rintro e W' ⟨v', σ', n', ρ', Φ', cv, rfl, rfl, hcv, _, hs⟩
    cases hcv
    exact ⟨rfl, hs.below0⟩

theorem lifted (os : Os) (started : os.Started) (H : Type) (enc : TypeId × Value → H) :
    ReturnsInHanded {} Tryz.checked os 3 .any (fun w args => (Rows.officeNilSpec.pre enc Tryz.prog Tryz.f3 [] false w args ∧ laidMetH Tryz.prog lds w) ∧ sizedMet enc Tryz.prog Tryz.f3 (OpenSpec.ofChange Rows.officeNilSpec) false w args)
      (Rows.officeNilSpec.post enc Tryz.prog Tryz.f3 false true false false) := by
  refine returnsInHanded_of_change_and (C := Tryz.checked) (X := fun w _ => laidMetH Tryz.prog lds w) (fun _ _ _ hh h => h.of_heap hh) own started (by kernel_rfl) Tryz.func3
    (ChangeSpec.witness_shaped (enc := enc) (C := Tryz.checked) (os := os) (X := fun w _ => laidMetH Tryz.prog lds w) false (w0 os) nilArgs 8 (w0_os os) (shaped os) (by kernel_rfl) (by kernel_rfl) (by kernel_rfl) (met os)) ?_
  intro W base args ds gs before hval0 hW _ hwt hL _
  have hval : ∀ (j : Nat) t v, Tryz.f3.params[j]? = some t → args[j]? = some v → Value.okWide Tryz.prog W .any base t v := hval0
  have hW' := hW
  obtain ⟨p, q, hA0, hV, rfl, hfz, hnd⟩ := hW
  have hA : DataW.TrodAll enc Tryz.prog W 0 (fun _ => true) true Tryz.f3.params.toList args.toList ds p := hA0
  rw [Tryz.params3] at hA hval
  obtain ⟨v0, v1, v2, d0, d1, d2, p0, p1, p2, rfl, rfl, rfl, h0, h1, h2⟩ := trodAll_three hA
  obtain ⟨rfl, rfl⟩ := trodVars_none hV
  have k0 := h0
  have k1 := h1
  have k2 := h2
  obtain ⟨day, rfl, _, _, _⟩ := open_int Tryz.underlying3 (hval 0 3 v0 rfl rfl) h0
  obtain ⟨text, rfl, _, _, _⟩ := open_string Tryz.underlying9 (hval 1 9 v1 rfl rfl) h1
  obtain ⟨a, len, cap, rfl⟩ := okWide_slice Tryz.underlying22 (hval 2 22 v2 rfl rfl)
  obtain ⟨fuel, hf⟩ := h2
  obtain ⟨l, ⟨hl1, hl2⟩, hT⟩ := open_typed 5 fuel 22 _ _ (by kernel_rfl) hf (fun n hn => of_decide_eq_true (List.all_eq_true.1 hwt n (DataW.weights_mem_each (j := 2) (t := 22) (d := d2) (by rw [Tryz.params3]; rfl) rfl n hn)))
  obtain ⟨els, hv, hels, hlen⟩ : ∃ els, VR (fun _ => none) (allF W) (.fs els) (.slice a len cap) ∧ (∀ r ∈ els, IsEnt r) ∧ els.length ≤ 140737488355328 := by
    rcases typed_slice Tryz.underlying22 hT with rfl | ⟨els, rfl, hle, hel⟩
    · have := hl2 0 .nils (.slice a len cap) rfl rfl
      cases this
      exact ⟨[], .fs0 _ _, fun r hr => (by cases hr), Nat.zero_le _⟩
    · have hle' : els.length ≤ 140737488355328 := by
        rw [show Tryz.prog.bytesOf 59 = 56 by kernel_rfl] at hle
        unfold reachBytes at hle
        omega
      exact ⟨els, hl2 0 _ (.slice a len cap) rfl rfl, fun r hr => ent_of_typed (hel r hr).2, hle'⟩
  refine (run_law W hL day text _ els hv hels hlen).mono fun e W' ⟨he, hB⟩ => ?_
  subst he
  have hlt : ∀ x ∈ p0 ++ p1 ++ p2, x.block < W.heap.size := fun x hx => hW'.lt x (by simpa using hx)
  refine ⟨_, rfl, [d0, d1, d2], [], _, [], p0 ++ (p1 ++ p2), [], hW', trodAll_mk1 (shut_bool Tryz.underlying4 _), ?_, rfl, hB.frame _, fun h => by cases h⟩
  exact trodAll_mk3 (Below.trod laidOut (by kernel_rfl) (of_decide_eq_true (by kernel_rfl)) k0 hB (fun x hx => hlt x (by simp [hx]))) (Below.trod laidOut (by kernel_rfl) (of_decide_eq_true (by kernel_rfl)) k1 hB (fun x hx => hlt x (by simp [hx])))
    (Below.trod laidOut (by kernel_rfl) (of_decide_eq_true (by kernel_rfl)) k2 hB (fun x hx => hlt x (by simp [hx])))
end Go.MaT
