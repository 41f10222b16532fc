/- (*book).occupied: its walk. -/
import Derived.RangeFuncBox
import Derived.RangeFuncLeaves
import Derived.RangeFuncCalls
import Derived.Shelf.Abstract
import Derived.WalkKit
import Derived.OwnWalkIn
import Derived.TacticsInMore
import Derived.LoopNIn
import Derived.LoopIn
import Derived.Test.YtakafhbabgpecaaGreatDoorMaOcc
import Derived.Test.YtakafhbabgpecaaGreatDoorProg
namespace Go.Proofs
open Go.RowKit Go.Shelf
open Go.Ma (hit)

attribute [local go_sem] Oper.semAt_some undef

set_option maxRecDepth 100000 in
set_option maxHeartbeats 2000000 in
theorem lots_in (F : Fence) (n : Nat) (h313 : F.fn 313) (hro : F.round = none) (hn : 1 ≤ n) (l Bp po n₀ b off len cap : Nat) (hBp : Bp < n₀) (hb : b < n₀) (hlen : len ≤ 140737488351232)
    (v0 v2 : Nat → ByteArray) (v1 v3 v4 v5 v6 : Nat → Int)
    (J : Nat → World → Prop) (Jx : World → Prop) (hJ : ∀ k A B, J k A → Below A.heap.size A B → J k B) (hskip : ∀ k A, J k A → ¬ v6 k < 0 → J (k + 1) A)
    (hY : ∀ k W, J k W → k < len → v6 k < 0 → YieldAt F (n - 1) Tryz.prog l #[.agg #[.string (v0 k), .int .i64 (v1 k), .string (v2 k), .int .i64 (v3 k), .int .i64 (v4 k), .int .i64 (v5 k)]] W fun e W' =>
      (e = .returned (.bool true) ∧ J (k + 1) W' ∧ Below n₀ W W') ∨ (e = .returned (.bool false) ∧ Jx W'))
    (W : World) (hn₀ : n₀ ≤ W.heap.size) (a : Option Addr) (ha : 0 < len → a = some ⟨b, off, none⟩) (hp : W.cell? ⟨Bp, po + 5, none⟩ = some (.slice a len cap))
    (c0 : ∀ k, k < len → W.cell? ⟨b, off + k * 7, none⟩ = some (.string (v0 k)))
    (c1 : ∀ k, k < len → W.cell? ⟨b, off + k * 7 + 1, none⟩ = some (.int .i64 (v1 k)))
    (c2 : ∀ k, k < len → W.cell? ⟨b, off + k * 7 + 2, none⟩ = some (.string (v2 k)))
    (c3 : ∀ k, k < len → W.cell? ⟨b, off + k * 7 + 3, none⟩ = some (.int .i64 (v3 k)))
    (c4 : ∀ k, k < len → W.cell? ⟨b, off + k * 7 + 4, none⟩ = some (.int .i64 (v4 k)))
    (c5 : ∀ k, k < len → W.cell? ⟨b, off + k * 7 + 5, none⟩ = some (.int .i64 (v5 k)))
    (c6 : ∀ k, k < len → W.cell? ⟨b, off + k * 7 + 6, none⟩ = some (.int .i64 (v6 k)))
    (h0 : J 0 W) :
    CallsIn F n Tryz.prog 313 #[.pointer (some ⟨Bp, po, none⟩), .func (.yield l) #[] #[]] W fun e W' => (∃ v, e = .returned v) ∧ (J len W' ∨ Jx W') := by
  refine callsIn_of_wp Tryz.func313 rfl h313 ?_ hro
  simp only [Tryz.ntmps313, List.size_toArray, List.length_cons, List.length_nil, Nat.reduceAdd, Nat.reduceSub, Array.replicate_succ, Array.replicate_zero, List.push_toArray, List.append_toArray, List.nil_append, List.cons_append]
  gi_wp2
  gi_loopw [11, 5] (fun i _ wr => ∃ k : Nat, k ≤ len ∧ i = .int .i64 k ∧ J k wr ∧ Below n₀ W wr)
    (fun i _ _ => len - (intOf i).toNat)
  case atStart => exact ⟨0, Nat.zero_le _, rfl, h0, Below.refl _ _⟩
  case round =>
    obtain ⟨k, hk, rfl, hJs, hnx⟩ := hrel
    have hw0 : n₀ ≤ wr.heap.size := Nat.le_trans hn₀ hnx.size
    by_cases hlt : k < len
    · obtain rfl := ha (by omega)
      have d0 : wr.cell? ⟨b, off + k * 7, none⟩ = some (.string (v0 k)) := (hnx.cell (p := ⟨b, _, none⟩) hb).trans (c0 k hlt)
      have d1 : wr.cell? ⟨b, off + k * 7 + 1, none⟩ = some (.int .i64 (v1 k)) := (hnx.cell (p := ⟨b, _, none⟩) hb).trans (c1 k hlt)
      have d2 : wr.cell? ⟨b, off + k * 7 + 2, none⟩ = some (.string (v2 k)) := (hnx.cell (p := ⟨b, _, none⟩) hb).trans (c2 k hlt)
      have d3 : wr.cell? ⟨b, off + k * 7 + 3, none⟩ = some (.int .i64 (v3 k)) := (hnx.cell (p := ⟨b, _, none⟩) hb).trans (c3 k hlt)
      have d4 : wr.cell? ⟨b, off + k * 7 + 4, none⟩ = some (.int .i64 (v4 k)) := (hnx.cell (p := ⟨b, _, none⟩) hb).trans (c4 k hlt)
      have d5 : wr.cell? ⟨b, off + k * 7 + 5, none⟩ = some (.int .i64 (v5 k)) := (hnx.cell (p := ⟨b, _, none⟩) hb).trans (c5 k hlt)
      have d6 : wr.cell? ⟨b, off + k * 7 + 6, none⟩ = some (.int .i64 (v6 k)) := (hnx.cell (p := ⟨b, _, none⟩) hb).trans (c6 k hlt)
      by_cases hto : v6 k < 0
      · obtain ⟨fn, tmps, assign, body, hy, hR⟩ := hY k (wr.alloc (Obj.cells #[.string (v0 k), .int .i64 (v1 k), .string (v2 k), .int .i64 (v3 k), .int .i64 (v4 k), .int .i64 (v5 k), .int .i64 (v6 k)] 368)) (hJ _ _ _ hJs ((Below.refl _ _).alloc (Nat.le_refl _) _)) hlt hto
        gi_wp2
        refine hR.mono ?_
        rintro e W3 (⟨rfl, hJ3, hk3⟩ | ⟨rfl, hJx3⟩)
        · gi_wp2
          go_roundw
          case rel => exact ⟨k + 1, by omega, by simp, hJ3, (hnx.alloc hw0 _).trans hk3⟩
          case measure => simp [intOf]; omega
        · gi_wp2
          refine bodyPost_ret (results_none rfl _ _ _) rfl ?_
          exact ⟨⟨_, rfl⟩, .inr hJx3⟩
      · gi_wp2
        go_roundw
        case rel => exact ⟨k + 1, by omega, by simp, hskip _ _ (hJ _ _ _ hJs ((Below.refl _ _).alloc (Nat.le_refl _) _)) (by omega), hnx.alloc hw0 _⟩
        case measure => simp [intOf]; omega
    · obtain rfl : k = len := by omega
      gi_wp2
      go_end0
      exact ⟨⟨_, rfl⟩, .inl hJs⟩

set_option maxHeartbeats 1000000 in
theorem within_in (F : Fence) (n : Nat) (h238 : F.fn 238) (hro : F.round = none) (a lo hi : Int) (w : World) :
    CallsIn F n Tryz.prog 238 #[.int .i64 a, .int .i64 lo, .int .i64 hi] w fun e w' => e = .returned (.bool (decide (lo ≤ a) && decide (a ≤ hi))) ∧ w' = w := by
  refine callsIn_of_wp Tryz.func238 rfl h238 ?_ hro
  simp only [Tryz.ntmps238, List.size_toArray, List.length_cons, List.length_nil, Nat.reduceAdd, Nat.reduceSub, Array.replicate_succ, Array.replicate_zero, List.push_toArray, List.append_toArray, List.nil_append, List.cons_append]
  by_cases h1 : lo ≤ a
  · by_cases h2 : a ≤ hi
    · gi_wp2
      go_ret
      simp [h1, h2]
    · gi_wp2
      go_ret
      simp [h1, h2]
  · gi_wp2
    go_ret
    simp; omega

/-- What holds of the boxes of occupied. -/
structure OccI (w : World) (site : ByteArray) (lo hi : Int) (r : Bool) (rec : Loop) (W : World) : Prop where
  below : Below w.heap.size w W
  site : W.cell? ⟨w.heap.size, 0, none⟩ = some (.string site)
  lo : W.cell? ⟨w.heap.size + 1, 0, none⟩ = some (.int .i64 lo)
  hi : W.cell? ⟨w.heap.size + 2, 0, none⟩ = some (.int .i64 hi)
  res : W.cell? ⟨w.heap.size + 3, 0, none⟩ = some (.bool r)
  frz : W.frozen? ⟨w.heap.size + 3, 0, none⟩ = false
  dfr : W.heap[w.heap.size + 4]? = some (.deferred (some []))
  lrec : W.heap[w.heap.size + 5]? = some (.loop rec)

theorem OccI.later {w : World} {site : ByteArray} {lo hi : Int} {r : Bool} {rec : Loop} {A B : World} (h : OccI w site lo hi r rec A) (hB : Below A.heap.size A B) : OccI w site lo hi r rec B := by
  have hl : w.heap.size + 5 < A.heap.size := (Array.getElem?_eq_some_iff.1 h.lrec).1
  exact ⟨h.below.trans (hB.mono (by omega)), (hB.cell (p := ⟨_, 0, none⟩) (by simp; omega)).trans h.site, (hB.cell (p := ⟨_, 0, none⟩) (by simp; omega)).trans h.lo, (hB.cell (p := ⟨_, 0, none⟩) (by simp; omega)).trans h.hi,
    (hB.cell (p := ⟨_, 0, none⟩) (by simp; omega)).trans h.res, (by
      have := hB.block (w.heap.size + 3) (by omega)
      have hf := h.frz
      unfold World.frozen? at hf ⊢
      simp only [this] at hf ⊢
      exact hf), (hB.block _ (by omega)).trans h.dfr, (hB.block _ hl).trans h.lrec⟩

theorem OccI.put {w : World} {site : ByteArray} {lo hi : Int} {r : Bool} {rec : Loop} {A : World} (h : OccI w site lo hi r rec A) (rec' : Loop) : OccI w site lo hi r rec' (A.putObj (w.heap.size + 5) (.loop rec')) := by
  have hl : w.heap.size + 5 < A.heap.size := (Array.getElem?_eq_some_iff.1 h.lrec).1
  have hB : Below (w.heap.size + 5) A (A.putObj (w.heap.size + 5) (.loop rec')) := (Below.refl _ _).grown (grownBy_putObj' _ _ _) (by omega) (fun k hk => by cases hk; exact Nat.le_refl _)
  exact ⟨h.below.trans (hB.mono (by omega)), (hB.cell (p := ⟨_, 0, none⟩) (by simp)).trans h.site, (hB.cell (p := ⟨_, 0, none⟩) (by simp)).trans h.lo, (hB.cell (p := ⟨_, 0, none⟩) (by simp)).trans h.hi,
    (hB.cell (p := ⟨_, 0, none⟩) (by simp)).trans h.res, (hB.frozen (p := ⟨_, 0, none⟩) (by simp)).trans h.frz, (hB.block _ (by omega)).trans h.dfr, World.putObj_heap_same hl⟩

theorem OccI.setRes {w : World} {site : ByteArray} {lo hi : Int} {r : Bool} {rec : Loop} {A : World} (h : OccI w site lo hi r rec A) (r' : Bool) : OccI w site lo hi r' rec (A.setCell ⟨w.heap.size + 3, 0, none⟩ (.bool r')) := by
  have hk : ∀ k, k ≠ w.heap.size + 3 → (A.setCell ⟨w.heap.size + 3, 0, none⟩ (.bool r')).heap[k]? = A.heap[k]? := fun k hk => Below.heap_setCell _ _ _ _ hk
  exact ⟨h.below.setCell (p := ⟨w.heap.size + 3, 0, none⟩) (Nat.le_add_right _ 3) _, (World.cell?_of_block (w := A) (hk _ (by simp))).trans h.site, (World.cell?_of_block (w := A) (hk _ (by simp))).trans h.lo, (World.cell?_of_block (w := A) (hk _ (by simp))).trans h.hi,
    World.cell?_setCell_same' _ _ _ (by rw [h.res]; rfl), by rw [World.frozen?_setCell]; exact h.frz, (hk _ (by simp)).trans h.dfr, (hk _ (by simp)).trans h.lrec⟩

theorem OccI.taken {w : World} {site : ByteArray} {lo hi : Int} {r : Bool} {rec : Loop} {A : World} (h : OccI w site lo hi r rec A) :
    A.heap[w.heap.size + 4]? = some (.deferred (some [])) ∧ (A.putObj (w.heap.size + 4) (.deferred none)).cell? ⟨w.heap.size + 3, 0, none⟩ = some (.bool r) ∧ Below w.heap.size w (A.putObj (w.heap.size + 4) (.deferred none)) := by
  have hl : w.heap.size + 4 < A.heap.size := (Array.getElem?_eq_some_iff.1 h.dfr).1
  have hB : Below (w.heap.size + 4) A (A.putObj (w.heap.size + 4) (.deferred none)) := (Below.refl _ _).grown (grownBy_putObj' _ _ _) (by omega) (fun k hk => by cases hk; exact Nat.le_refl _)
  exact ⟨h.dfr, (hB.cell (p := ⟨_, 0, none⟩) (by simp)).trans h.res, h.below.trans (hB.mono (by omega))⟩

theorem wpIn_rangeFunc_first {F : Fence} {n : Nat} {P : Program} {g : Operand} {ps : Array Tmp} {assign body : Code} {Q : Exit → Act → World → Prop} {a : Act} {w : World} (hro : F.round = none) (h1 : 1 ≤ n) {gf : Nat} {first : Array Value}
    (hg : a.eval g = .func (.func gf) first #[]) (hFg : F.fn gf) (eg : ∀ args w, (callFunc gf args).run P w = .ok (.enter gf args) w)
    (h : ∀ fn, F.fn fn → CallsIn F (n - 1) P gf (first.push (.func (.yield (w.heap.size + 1)) #[] #[])) ((w.alloc (.deferred (some []))).alloc (.loop { state := .ready, pending := none, fn, tmps := a.tmps, params := ps, assign, body, defers := w.heap.size }))
      (rangePost F n P (w.heap.size + 1) Q { a with defers := { target := .collected w.heap.size, args := #[] } :: a.defers })) :
    (Code.rangeFunc g ps assign body).wpIn F n P Q a w := by
  refine wpIn_rangeFunc ?_
  intro fn hfn
  rw [hro]
  have h' := h fn hfn
  obtain ⟨W1, hW1⟩ : ∃ W1, (w.alloc (.deferred (some []))).alloc (.loop { state := .ready, pending := none, fn, tmps := a.tmps, params := ps, assign, body, defers := w.heap.size }) = W1 := ⟨_, rfl⟩
  rw [hW1] at h'
  refine ⟨w.heap.size + 1, [{ target := .collected w.heap.size, args := #[] }], W1, { target := .fn (.func gf) #[], args := first.push (.func (.yield (w.heap.size + 1)) #[] #[]) }, W1, gf, first.push (.func (.yield (w.heap.size + 1)) #[] #[]), W1, by rw [← hW1]; exact run_enterLoop_outer _ _ _ _ _, ?_, ?_, ?_, fun _ => h1, h'⟩
  · simp only [resolve, hg]
    simp [go_sem]
  · intro f' hf'; simp [Target.leads] at hf'; subst hf'; exact hFg
  · simp [invoke, go_sem, eg]

theorem cell_new_o (W : World) (v : Value) (t : TypeId) : (W.alloc (.cells #[v] t)).cell? ⟨W.heap.size, 0, none⟩ = some v ∧ (W.alloc (.cells #[v] t)).frozen? ⟨W.heap.size, 0, none⟩ = false := by
  have h : (W.alloc (.cells #[v] t)).heap[W.heap.size]? = some (.cells #[v] t (0, 0)) := World.alloc_heap_new W _
  constructor <;> simp only [World.cell?, World.frozen?, h] <;> simp

set_option maxRecDepth 100000 in
set_option maxHeartbeats 4000000 in
theorem occ_in (F : Fence) (n : Nat) (h294 : F.fn 294) (h313 : F.fn 313) (h238 : F.fn 238) (hro : F.round = none) (hn : 3 ≤ n) (Bp po b off len cap : Nat) (hlen : len ≤ 140737488351232)
    (v0 v2 : Nat → ByteArray) (v1 v3 v4 v5 v6 : Nat → Int) (site : ByteArray) (lo hi : Int)
    (w : World) (hBp : Bp < w.heap.size) (hb : b < w.heap.size) (a : Option Addr) (ha : 0 < len → a = some ⟨b, off, none⟩) (hp : w.cell? ⟨Bp, po + 5, none⟩ = some (.slice a len cap))
    (c0 : ∀ k, k < len → w.cell? ⟨b, off + k * 7, none⟩ = some (.string (v0 k)))
    (c1 : ∀ k, k < len → w.cell? ⟨b, off + k * 7 + 1, none⟩ = some (.int .i64 (v1 k)))
    (c2 : ∀ k, k < len → w.cell? ⟨b, off + k * 7 + 2, none⟩ = some (.string (v2 k)))
    (c3 : ∀ k, k < len → w.cell? ⟨b, off + k * 7 + 3, none⟩ = some (.int .i64 (v3 k)))
    (c4 : ∀ k, k < len → w.cell? ⟨b, off + k * 7 + 4, none⟩ = some (.int .i64 (v4 k)))
    (c5 : ∀ k, k < len → w.cell? ⟨b, off + k * 7 + 5, none⟩ = some (.int .i64 (v5 k)))
    (c6 : ∀ k, k < len → w.cell? ⟨b, off + k * 7 + 6, none⟩ = some (.int .i64 (v6 k))) :
    CallsIn F n Tryz.prog 294 #[.pointer (some ⟨Bp, po, none⟩), .string site, .int .i64 lo, .int .i64 hi] w fun e w' => e = .returned (.bool ((List.range len).any (hit site lo hi v2 v1 v3 v6))) ∧ Below w.heap.size w w' := by
  refine callsIn_of_wp_marks Tryz.func294 rfl h294 ?_ hro
  simp only [Tryz.ntmps294, List.size_toArray, List.length_cons, List.length_nil, Nat.reduceAdd, Nat.reduceSub, Array.replicate_succ, Array.replicate_zero, List.push_toArray, List.append_toArray, List.nil_append, List.cons_append]
  gi_wp2
  refine wpIn_rangeFunc_first hro (by omega) (gf := 313) (first := #[.pointer (some ⟨Bp, po, none⟩)]) rfl h313 (enters_of Tryz.func313 (by kernel_rfl) rfl) fun fn hfn => ?_
  simp only [World.size_alloc, Nat.add_assoc, Nat.reduceAdd]
  generalize htm : (#[_, _, _, _, _, _, _, _, _, _, _, _, _, _, _, _, _, _, _, _, _, _, _, _, _, _, _, _, _] : Array Value) = tm
  generalize hasg : Code.region 2 _ false = asg
  generalize hbod : Code.block 1 _ = bod
  obtain ⟨rec, hrec⟩ : ∃ rec : LoopState → Option Code → Loop, rec = fun st pe => { state := st, pending := pe, fn, tmps := tm, params := #[12], assign := asg, body := bod, defers := w.heap.size + 4 } := ⟨_, rfl⟩
  rw [show ({ state := .ready, pending := none, fn, tmps := tm, params := #[12], assign := asg, body := bod, defers := w.heap.size + 4 } : Loop) = rec .ready none by rw [hrec]]
  generalize hW1 : World.alloc _ (Obj.loop (rec .ready none)) = W1
  have hB1 : Below w.heap.size w W1 := by
    rw [← hW1]
    exact ((((((Below.refl _ w).alloc (Nat.le_refl _) _).alloc (by simp only [World.size_alloc]; omega) _).alloc (by simp only [World.size_alloc]; omega) _).alloc (by simp only [World.size_alloc]; omega) _).alloc (by simp only [World.size_alloc]; omega) _).alloc (by simp only [World.size_alloc]; omega) _
  have hI : OccI w site lo hi false (rec .ready none) W1 := by
    have ce : ∀ (A : World) (v : Value) (t : TypeId) (B : World) (k : Nat), A.heap.size = k → Below (k + 1) (A.alloc (.cells #[v] t)) B → B.cell? ⟨k, 0, none⟩ = some v ∧ B.frozen? ⟨k, 0, none⟩ = false := fun A v t B k hk hB => by
      subst hk
      exact ⟨(hB.cell (p := ⟨_, 0, none⟩) (by simp)).trans (cell_new_o A v t).1, (hB.frozen (p := ⟨_, 0, none⟩) (by simp)).trans (cell_new_o A v t).2⟩
    refine ⟨hB1, (ce w (.string site) 9 W1 _ rfl ?_).1, (ce (w.alloc (.cells #[.string site] 9)) (.int .i64 lo) 3 W1 _ (by simp) ?_).1, (ce ((w.alloc (.cells #[.string site] 9)).alloc (.cells #[.int .i64 lo] 3)) (.int .i64 hi) 3 W1 _ (by simp) ?_).1,
      (ce (((w.alloc (.cells #[.string site] 9)).alloc (.cells #[.int .i64 lo] 3)).alloc (.cells #[.int .i64 hi] 3)) (.bool false) 4 W1 _ (by simp) ?_).1, (ce (((w.alloc (.cells #[.string site] 9)).alloc (.cells #[.int .i64 lo] 3)).alloc (.cells #[.int .i64 hi] 3)) (.bool false) 4 W1 _ (by simp) ?_).2, ?_, ?_⟩
    · rw [← hW1]; exact (((((Below.refl _ _).alloc (by simp) _).alloc (by simp) _).alloc (by simp) _).alloc (by simp) _).alloc (by simp) _
    · rw [← hW1]; exact ((((Below.refl _ _).alloc (by simp) _).alloc (by simp) _).alloc (by simp) _).alloc (by simp) _
    · rw [← hW1]; exact (((Below.refl _ _).alloc (by simp) _).alloc (by simp) _).alloc (by simp) _
    · rw [← hW1]; exact ((Below.refl _ _).alloc (by simp) _).alloc (by simp) _
    · rw [← hW1]; exact ((Below.refl _ _).alloc (by simp) _).alloc (by simp) _
    · rw [← hW1, Below.heap_alloc _ _ _ (by simp)]
      have := World.alloc_heap_new ((((w.alloc (Obj.cells #[.string site] 9)).alloc (Obj.cells #[.int .i64 lo] 3)).alloc (Obj.cells #[.int .i64 hi] 3)).alloc (Obj.cells #[.bool false] 4)) (.deferred (some []))
      simpa using this
    · rw [← hW1]
      have := World.alloc_heap_new (((((w.alloc (Obj.cells #[.string site] 9)).alloc (Obj.cells #[.int .i64 lo] 3)).alloc (Obj.cells #[.int .i64 hi] 3)).alloc (Obj.cells #[.bool false] 4)).alloc (.deferred (some []))) (.loop (rec .ready none))
      simpa using this
  have kc : ∀ o, W1.cell? ⟨b, o, none⟩ = w.cell? ⟨b, o, none⟩ := fun o => hB1.cell (p := ⟨b, o, none⟩) hb
  refine (lots_in F (n - 1) h313 hro (by omega) (w.heap.size + 5) Bp po w.heap.size b off len cap hBp hb hlen v0 v2 v1 v3 v4 v5 v6
    (fun k W => OccI w site lo hi false (rec .ready none) W ∧ ∀ j, j < k → hit site lo hi v2 v1 v3 v6 j = false)
    (fun W => OccI w site lo hi true (rec .done (some .ret)) W ∧ ∃ j, j < len ∧ hit site lo hi v2 v1 v3 v6 j = true)
    (fun k A B hA hB => ⟨hA.1.later hB, hA.2⟩) (fun k A hA hto => ⟨hA.1, fun j hj => ?_⟩) (fun k W hJ hk hto => ?_) W1 hB1.size a ha ((hB1.cell (p := ⟨Bp, _, none⟩) hBp).trans hp)
    (fun k hk => (kc _).trans (c0 k hk)) (fun k hk => (kc _).trans (c1 k hk)) (fun k hk => (kc _).trans (c2 k hk)) (fun k hk => (kc _).trans (c3 k hk)) (fun k hk => (kc _).trans (c4 k hk)) (fun k hk => (kc _).trans (c5 k hk)) (fun k hk => (kc _).trans (c6 k hk))
    ⟨hI, fun j hj => absurd hj (Nat.not_lt_zero j)⟩).mono ?_
  · rcases Nat.lt_or_ge j k with h | h
    · exact hA.2 j h
    · obtain rfl : j = k := by omega
      simp [hit, hto]
  · obtain ⟨hJ, hno⟩ := hJ
    have hlt : w.heap.size + 5 < W.heap.size := (Array.getElem?_eq_some_iff.1 hJ.lrec).1
    have hy := run_yield (P := Tryz.prog) (args := #[.agg #[.string (v0 k), .int .i64 (v1 k), .string (v2 k), .int .i64 (v3 k), .int .i64 (v4 k), .int .i64 (v5 k)]]) hJ.lrec (by rw [hrec]; rfl)
    rw [hrec] at hy
    obtain ⟨R, hR⟩ : ∃ R : Ending → World → Prop, R = fun e W' => ∃ r : Bool, e = .returned (.bool !r) ∧ r = hit site lo hi v2 v1 v3 v6 k ∧ OccI w site lo hi r (rec (if r then .done else .ready) (if r then some .ret else none)) W' ∧ Below w.heap.size W W' := ⟨_, rfl⟩
    refine ⟨fn, _, asg, bod, hy, (roundIn_of_wpIn (R := R) hfn ?_).mono ?_⟩
    · have fin : ∀ (r : Bool) (W3 : World), Below w.heap.size W W3 → OccI w site lo hi r (rec .busy none) W3 → r = hit site lo hi v2 v1 v3 v6 k →
          ∃ v W4, (Instr.endRound (w.heap.size + 5) (if r then some .ret else none)).run Tryz.prog W3 = .ok v W4 ∧ R (.returned v) W4 := fun r W3 hb3 h3 hr => by
        have he := run_endRound (P := Tryz.prog) (if r then some .ret else none) h3.lrec
        have hput := h3.put (rec (if r then .done else .ready) (if r then some .ret else none))
        refine ⟨_, _, he, ?_⟩
        rw [hR]
        refine ⟨r, by cases r <;> rfl, hr, ?_, hb3.trans ((Below.refl _ _).grown (grownBy_putObj' _ _ _) (Nat.le_trans (Nat.le_add_right _ 5) (Nat.le_of_lt (Array.getElem?_eq_some_iff.1 h3.lrec).1)) (fun k hk => by cases hk; omega))⟩
        rw [hrec] at hput ⊢
        cases r <;> exact hput
      clear hR
      have hbr : ∀ o, ∃ W3, (Instr.beginRound (w.heap.size + 5)).run Tryz.prog (W.alloc o) = .ok () W3 ∧ OccI w site lo hi false (rec .busy none) W3 ∧ Below w.heap.size W W3 ∧ W3.heap[W.heap.size]? = some o := fun o => by
        have hJ2 := hJ.later ((Below.refl _ _).alloc (Nat.le_refl _) o)
        have hb := run_beginRound (P := Tryz.prog) hJ2.lrec (by rw [hrec])
        refine ⟨_, hb, by have := hJ2.put (rec .busy none); rw [hrec] at this ⊢; exact this, ((Below.refl _ _).alloc (by omega) o).trans ((Below.refl _ _).grown (grownBy_putObj' _ _ _) (by simp; omega) (fun k hk => by cases hk; omega)), ?_⟩
        rw [World.putObj_heap_other (by omega)]
        exact World.alloc_heap_new W o
      subst hasg htm
      dsimp only
      gi_wp2
      obtain ⟨W3, hbg, h3, hB3, hW3⟩ := hbr (.cells #[.string (v0 k), .int .i64 (v1 k), .string (v2 k), .int .i64 (v3 k), .int .i64 (v4 k), .int .i64 (v5 k)] 222)
      refine ⟨W3, hbg, ?_⟩
      clear hbr hbg hJ
      have l1 : W3.cell? ⟨W.heap.size, 1, none⟩ = some (.int .i64 (v1 k)) := by simp [World.cell?, hW3]
      have l2 : W3.cell? ⟨W.heap.size, 2, none⟩ = some (.string (v2 k)) := by simp [World.cell?, hW3]
      have l3 : W3.cell? ⟨W.heap.size, 3, none⟩ = some (.int .i64 (v3 k)) := by simp [World.cell?, hW3]
      have g1 := h3.site
      have g2 := h3.lo
      have g3 := h3.hi
      have g4 := h3.res
      have g5 := h3.frz
      subst hbod
      have hdep : 1 ≤ n - 1 - 1 := by omega
      by_cases e1 : v1 k = 1
      · by_cases e2 : ((v2 k).toList == site.toList) = true
        · by_cases e3 : (decide (lo ≤ v3 k) && decide (v3 k ≤ hi)) = true
          · gi_wp2_with (gi_at_call 238; refine (CallsIn.inRound _ (within_in F _ h238 hro _ _ _ _)).mono ?_; rintro e w' ⟨rfl, hw⟩; rw [hw]; clear hw w')
            obtain ⟨v, W4, he, hR4⟩ := fin true _ (hB3.setCell (p := ⟨w.heap.size + 3, 0, none⟩) (Nat.le_add_right _ 3) (.bool true)) (h3.setRes true) (by simp [hit, hto, e1, e2, e3])
            exact ⟨v, W4, he, hR4⟩
          · gi_wp2_with (gi_at_call 238; refine (CallsIn.inRound _ (within_in F _ h238 hro _ _ _ _)).mono ?_; rintro e w' ⟨rfl, hw⟩; rw [hw]; clear hw w')
            obtain ⟨v, W4, he, hR4⟩ := fin false _ hB3 h3 (by simp [hit, e3])
            exact ⟨v, W4, he, hR4⟩
        · gi_wp2
          obtain ⟨v, W4, he, hR4⟩ := fin false _ hB3 h3 (by simp [hit, e2])
          exact ⟨v, W4, he, hR4⟩
      · gi_wp2
        obtain ⟨v, W4, he, hR4⟩ := fin false _ hB3 h3 (by simp [hit, e1])
        exact ⟨v, W4, he, hR4⟩
    · rw [hR]
      rintro e W' ⟨r, rfl, hr, ho, hB⟩
      cases r with
      | false =>
        refine .inl ⟨rfl, ⟨ho, fun j hj => ?_⟩, hB⟩
        rcases Nat.lt_or_ge j k with h | h
        · exact hno j h
        · obtain rfl : j = k := by omega
          exact hr.symm
      | true => exact .inr ⟨rfl, ho, k, hk, hr.symm⟩
  · rintro e W2 ⟨⟨v, rfl⟩, (⟨hI2, hno⟩ | ⟨hI2, j, hj, hh⟩)⟩
    · have hany : (List.range len).any (hit site lo hi v2 v1 v3 v6) = false := by
        rw [List.any_eq_false]
        intro j hj
        rw [hno j (List.mem_range.1 hj)]
        simp
      obtain ⟨W4, r4, he, hput⟩ : ∃ W4 r4, (Instr.endLoop (w.heap.size + 5)).run Tryz.prog W2 = .ok none W4 ∧ OccI w site lo hi false r4 W4 := by
        have he := run_endLoop (P := Tryz.prog) hI2.lrec (by rw [hrec]; simp)
        subst hrec
        exact ⟨_, _, he, hI2.put _⟩
      refine ⟨none, W4, he, ?_⟩
      dsimp only
      have g4 := hput.res
      have g5 := hput.frz
      subst htm
      gi_wp2
      obtain ⟨hd, hc5, hB5⟩ := (hput.setRes false).taken
      refine ⟨by simp, .inl ⟨_, _, rfl, run_takeDeferred hd, ?_⟩⟩
      refine ⟨.bool false, ?_, by rw [hany], hB5⟩
      simp [results, Tryz.f294, go_sem, hc5]
    · have hany : (List.range len).any (hit site lo hi v2 v1 v3 v6) = true := List.any_eq_true.2 ⟨j, List.mem_range.2 hj, hh⟩
      obtain ⟨W4, r4, he, hput⟩ : ∃ W4 r4, (Instr.endLoop (w.heap.size + 5)).run Tryz.prog W2 = .ok (some .ret) W4 ∧ OccI w site lo hi true r4 W4 := by
        have he := run_endLoop (P := Tryz.prog) hI2.lrec (by rw [hrec]; simp)
        subst hrec
        exact ⟨_, _, he, hI2.put _⟩
      refine ⟨some .ret, W4, he, ?_⟩
      dsimp only
      have g4 := hput.res
      subst htm
      gi_wp2
      obtain ⟨hd, hc5, hB5⟩ := hput.taken
      refine ⟨by simp, .inl ⟨_, _, rfl, run_takeDeferred hd, ?_⟩⟩
      refine ⟨.bool true, ?_, by rw [hany], hB5⟩
      simp [results, Tryz.f294, go_sem, hc5]

end Go.Proofs
namespace Go.MaT
open Go.Ma Go.Proofs
theorem occ_ok : OccOk Tryz.prog 294 where
  fn := ⟨_, _, Tryz.func294, rfl, rfl⟩
  run := fun Bp po b off len cap hlen v0 v2 v1 v3 v4 v5 v6 site lo hi w hBp hb a ha hp c0 c1 c2 c3 c4 c5 c6 =>
    callsIn_wide.1 (occ_in Fence.wide 3 trivial trivial trivial rfl (Nat.le_refl 3) Bp po b off len cap hlen v0 v2 v1 v3 v4 v5 v6 site lo hi w hBp hb a ha hp c0 c1 c2 c3 c4 c5 c6)
end Go.MaT
