/- Rows made: boxes that nobody writes, slice literals, append. -/
import Derived.Test.YtakafhbabgpecaaGreatDoorMaWeak
namespace Go.Ma
section
variable {P : Program} {TT : Types} {G : Globals} {N n0 : Nat}

def azeros (z : List AV) (m : Nat) : List AV := (List.range m).map fun i => z.getD (i % z.length) (.bool false)

theorem CR_zeros {ρ : Ren} {Φ : Frz} {z : List AV} {c : Array Value} (h : CR ρ Φ z c) (m : Nat) (hz : m = 0 ∨ 0 < z.length) : CR ρ Φ (azeros z m) ((Array.range m).map fun i => c[i % c.size]!) := by
  refine ⟨by simp [azeros], fun j x v hx hv => ?_⟩
  simp only [azeros, List.getElem?_map] at hx
  simp only [Array.getElem?_map] at hv
  rcases Nat.lt_or_ge j m with hj | hj
  · have hzl : 0 < z.length := by omega
    have e1 : (List.range m)[j]? = some j := by simp [hj]
    have e2 : (Array.range m)[j]? = some j := by simp [hj]
    simp only [e1, Option.map_some, Option.some.injEq] at hx
    simp only [e2, Option.map_some, Option.some.injEq] at hv
    subst hx; subst hv
    have hlt : j % z.length < z.length := Nat.mod_lt _ hzl
    have hs := h.1
    refine h.2 (j % z.length) _ _ (by rw [List.getD_eq_getElem?_getD]; simp [hlt]) ?_
    rw [← hs]
    have : j % z.length < c.size := by omega
    simp [this]
  · simp [hj] at hx

/-- The cells of a slice literal: the size of an element, the cells. -/
def abuildSlice (TT : Types) (t : TypeId) (len : Nat) (ps : List (Nat × AV)) : Option (Nat × List AV) :=
  match TT t with
  | some { desc := .slice e, .. } => match TT e with
    | some ei => if len * ei.size ≤ 16777216 ∧ (len * ei.size = 0 ∨ 0 < ei.zero.length) then (afill (fun i => some (i * ei.size, ei.size)) (azeros ei.zero (len * ei.size)) ps).map fun l => (ei.size, l) else none
    | none => none
  | _ => none

theorem length_afill {place : Nat → Option (Nat × Nat)} : ∀ {ps : List (Nat × AV)} {l m : List AV}, afill place l ps = some m → m.length = l.length := by
  intro ps
  induction ps with
  | nil => intro l m h; simp only [afill, Option.some.injEq] at h; rw [h]
  | cons p ps ih =>
    intro l m h
    obtain ⟨i, x⟩ := p
    simp only [afill] at h
    split at h
    · cases h
    · split at h
      · cases h
      · rw [ih h, length_lputs]

theorem abuildSlice_sound (hT : TOk P TT) {ρ : Ren} {Φ : Frz} (w : World) {t : TypeId} {len : Nat} {ps : List (Nat × AV)} {vs : Array (Nat × Value)} (hl : ps.length = vs.size)
    (hv : ∀ (j : Nat) (p : Nat × AV) (q : Nat × Value), ps[j]? = some p → vs[j]? = some q → p.1 = q.1 ∧ VR ρ Φ p.2 q.2) {size : Nat} {l : List AV} (h : abuildSlice TT t len ps = some (size, l)) :
    ∃ c e, CR ρ Φ l c ∧ l.length = len * size ∧ (Instr.buildSlice t len vs).run P w = .ok (.slice (some ⟨w.heap.size, 0, none⟩) len len) (w.alloc (.cells c e)) := by
  unfold abuildSlice at h
  split at h
  · rename_i e sz by_ ze eq_ hi
    split at h
    · rename_i ei hei
      split at h
      · rename_i hb
        cases hf : afill (fun i => some (i * ei.size, ei.size)) (azeros ei.zero (len * ei.size)) ps with
        | none => simp [hf] at h
        | some m =>
          simp only [hf, Option.map_some, Option.some.injEq, Prod.mk.injEq] at h
          obtain ⟨rfl, rfl⟩ := h
          have h1 := hT.run_und hi w
          obtain ⟨z, hz, hzs⟩ := hT.run_zero hei w
          have hlen : m.length = len * ei.size := by rw [length_afill hf]; simp [azeros]
          by_cases h0 : len * ei.size = 0
          · obtain ⟨d, hd1, hd2⟩ := afill_sound (vs := vs.toList) (l := azeros ei.zero (len * ei.size)) (c := (Array.range (len * ei.size)).map fun i => (#[] : Array Value)[i % (#[] : Array Value).size]!) (by simpa using hl)
              (fun j p q hp hq => hv j p q hp (by simpa using hq)) ⟨by simp [azeros], fun j x v hx => by simp [azeros, h0] at hx⟩ hf
            refine ⟨d, e, hd2, hlen, ?_⟩
            have hn : ¬ len * ei.size > 2 ^ 24 := by omega
            simp only [Instr.buildSlice, Sem.run_bind, h1, Result.andThen_ok, hT.run_size hei, Sem.run_ite, if_neg hn, if_pos h0, Sem.run_pure, hd1, newRow, run_newObj, World.alloc_eq]
          · obtain ⟨d, hd1, hd2⟩ := afill_sound (vs := vs.toList) (l := azeros ei.zero (len * ei.size)) (c := (Array.range (len * ei.size)).map fun i => z.cells[i % z.cells.size]!) (by simpa using hl)
              (fun j p q hp hq => hv j p q hp (by simpa using hq)) (CR_zeros (CR_scalars hzs) _ hb.2) hf
            refine ⟨d, e, hd2, hlen, ?_⟩
            have hn : ¬ len * ei.size > 2 ^ 24 := by omega
            simp only [Instr.buildSlice, Sem.run_bind, h1, Result.andThen_ok, hT.run_size hei, Sem.run_ite, if_neg hn, if_neg h0, Sem.run_pure, hz, hd1, newRow, run_newObj, World.alloc_eq]
      · cases h
    · cases h
  · cases h

/-- Cells cut into rows. -/
def chunk (z : Nat) : Nat → List AV → List (List AV)
  | 0, _ => []
  | k + 1, l => l.take z :: chunk z k (l.drop z)

theorem chunk_length (z : Nat) : ∀ (k : Nat) (l : List AV), (chunk z k l).length = k := by
  intro k
  induction k with
  | zero => intro l; rfl
  | succ k ih => intro l; simp [chunk, ih]

theorem chunk_get (z : Nat) : ∀ (k : Nat) (l : List AV) (i : Nat) (x : List AV), l.length = k * z → (chunk z k l)[i]? = some x → x.length = z ∧ ∀ (j : Nat) (y : AV), x[j]? = some y → l[i * z + j]? = some y := by
  intro k
  induction k with
  | zero => intro l i x _ h; simp [chunk] at h
  | succ k ih =>
    intro l i x hl h
    rw [Nat.succ_mul] at hl
    cases i with
    | zero =>
      simp only [chunk, List.getElem?_cons_zero, Option.some.injEq] at h
      subst h
      refine ⟨by simp; omega, fun j y hy => ?_⟩
      rw [List.getElem?_take] at hy
      split at hy
      · rw [Nat.zero_mul, Nat.zero_add]; exact hy
      · cases hy
    | succ i =>
      simp only [chunk, List.getElem?_cons_succ] at h
      obtain ⟨h1, h2⟩ := ih (l.drop z) i x (by simp; omega) h
      refine ⟨h1, fun j y hy => ?_⟩
      have := h2 j y hy
      rw [List.getElem?_drop] at this
      rw [← this]; congr 1; rw [Nat.succ_mul]; omega

/-- Operations that make a row that nobody will write. -/
def afrz (TT : Types) (G : Globals) (e : Env) (o : Oper) : Option AV :=
  match o.op with
  | .box _ x => match aeval G e x with
    | some v => some (.fp v.cells 0)
    | none => none
  | .buildSlice t len ps => match aparts G e ps.toList with
    | some l => match abuildSlice TT t len l with
      | some (size, cells) => some (.fs (chunk size len cells))
      | none => none
    | none => none
  | _ => none

theorem OpOk.frz (hT : TOk P TT) {o : Oper} {e : Env} {σ : Heap} {n : Nat} {y : AV} {Q : AV → Heap → Nat → Prop} (h : afrz TT G e o = some y) (hq : Q y σ n) : OpOk P G o e σ n Q := by
  intro ρ Φ w ca K Qx hR hg he hK
  unfold afrz at h
  split at h <;> rename_i ho
  · split at h
    · rename_i t x _ v hv
      cases h
      have hc := CR_cells (aeval_sound hg he hv)
      obtain ⟨h1, h2, h3⟩ := hR.newFrz (ca.eval x).cells t
      unfold Oper.wp
      have : (execOp ca.eval o).run P w = .ok (.value (.pointer (some ⟨w.heap.size, 0, none⟩))) (w.alloc (.cells (ca.eval x).cells t)) := by
        simp [execOp, ho, Instr.box, newVar, newRow]
      rw [this, Oper.upon_value]
      refine hK _ _ _ _ _ _ _ hq ?_ h1 h2
      have hΦ : (fun b => if b = w.heap.size then some (ca.eval x).cells else Φ b) w.heap.size = some (ca.eval x).cells := by simp
      have := VR.fp (ρ := ρ) (s := 0) (l := v.cells) 0 hΦ (by have := hc.1; omega) (fun j y u hy hu => (hc.2 j y u hy (by simpa using hu)).mono (fun _ _ h => h) h3)
      simpa using this
    · cases h
  · split at h
    · rename_i t len ps _ l hl
      split at h
      · rename_i size cells hb
        cases h
        obtain ⟨k1, k2⟩ := aparts_sound hg he hl
        obtain ⟨c, ty, g1, g2, g3⟩ := abuildSlice_sound hT w (vs := ps.map fun (p : Nat × Operand) => (p.1, ca.eval p.2)) (by simpa using k1) (fun j p q hp hq => k2 j p q hp (by simpa using hq)) hb
        obtain ⟨h1, h2, h3⟩ := hR.newFrz c ty
        unfold Oper.wp
        have : (execOp ca.eval o).run P w = .ok (.value (.slice (some ⟨w.heap.size, 0, none⟩) len len)) (w.alloc (.cells c ty)) := by
          simp [execOp, ho, g3]
        rw [this, Oper.upon_value]
        refine hK _ _ _ _ _ _ _ hq ?_ h1 h2
        have hΦ : (fun b => if b = w.heap.size then some c else Φ b) w.heap.size = some c := by simp
        have hlen := chunk_length size len cells
        have := VR.fs (ρ := ρ) (s := 0) (z := size) (cap := len) (c := c) (els := chunk size len cells) hΦ (by omega) (fun x hx => by
            obtain ⟨i, hi⟩ := List.mem_iff_getElem?.1 hx
            exact (chunk_get size len cells i x g2 hi).1) (by rw [hlen, ← g2]; have := g1.1; omega) (fun i x j y u hx hy hu => by
            have := (chunk_get size len cells i x g2 hx).2 j y hy
            exact (g1.2 _ y u this (by simpa using hu)).mono (fun _ _ h => h) h3)
        rw [hlen] at this
        exact this
      · cases h
    · cases h
  · cases h

/-- A slice literal in the heap. -/
def alit (TT : Types) (G : Globals) (e : Env) (σ : Heap) (n : Nat) (o : Oper) : Option (AV × Heap × Nat) :=
  match o.op with
  | .buildSlice t len ps => match aparts G e ps.toList with
    | some l => match abuildSlice TT t len l with
      | some (size, cells) => some (.sl n 0 len, (n, .cells size cells) :: σ, n + 1)
      | none => none
    | none => none
  | .makeMap t none => match TT t with
    | some _ => some (.map n, (n, .map []) :: σ, n + 1)
    | none => none
  | _ => none

theorem OpOk.lit (hT : TOk P TT) {o : Oper} {e : Env} {σ σ' : Heap} {n n' : Nat} {y : AV} {Q : AV → Heap → Nat → Prop} (h : alit TT G e σ n o = some (y, σ', n')) (hq : Q y σ' n') : OpOk P G o e σ n Q := by
  intro ρ Φ w ca K Qx hR hg he hK
  unfold alit at h
  split at h <;> rename_i ho
  · split at h
    · rename_i t len ps _ l hl
      split at h
      · rename_i size cells hb
        cases h
        obtain ⟨k1, k2⟩ := aparts_sound hg he hl
        obtain ⟨c, ty, g1, g2, g3⟩ := abuildSlice_sound hT w (vs := ps.map fun (p : Nat × Operand) => (p.1, ca.eval p.2)) (by simpa using k1) (fun j p q hp hq => k2 j p q hp (by simpa using hq)) hb
        obtain ⟨h1, h2⟩ := hR.new (.cells c ty) (.cells size cells) ⟨w.heap.size, 0, c.size, size⟩ rfl (CR_new ty g1 hR.low)
        unfold Oper.wp
        have : (execOp ca.eval o).run P w = .ok (.value (.slice (some ⟨w.heap.size, 0, none⟩) len len)) (w.alloc (.cells c ty)) := by
          simp [execOp, ho, g3]
        rw [this, Oper.upon_value]
        refine hK _ _ _ _ _ _ _ hq ?_ h1 h2
        have := VR.sl (ρ := upd ρ n ⟨w.heap.size, 0, c.size, size⟩) (Φ := Φ) (i := n) (L := ⟨w.heap.size, 0, c.size, size⟩) (len := len) (cap := len) 0 (by simp [upd]) (Nat.le_refl _) (by simp; have := g1.1; omega)
        simpa using this
      · cases h
    · cases h
  · split at h
    · cases h
      obtain ⟨h1, h2⟩ := hR.new (.map #[] 0) (.map []) ⟨w.heap.size, 0, 0, 0⟩ rfl ⟨#[], 0, heap_alloc_new w _, rfl, fun j x e hx => by simp at hx⟩
      unfold Oper.wp
      have : (execOp ca.eval o).run P w = .ok (.value (.map (some w.heap.size))) (w.alloc (.map #[] 0)) := by
        simp [execOp, ho, Instr.makeMap]
      rw [this, Oper.upon_value]
      exact hK _ _ _ _ _ _ _ hq (VR.map (L := ⟨w.heap.size, 0, 0, 0⟩) (by simp [upd])) h1 h2
    · cases h
  · cases h
end
end Go.Ma
