/- Operations that make or turn memory; judgements on operations, regions, code and calls; their rules. -/
import Derived.Test.YtakafhbabgpecaaGreatDoorMaOps5
namespace Go.Ma

def upd (ρ : Ren) (n : Nat) (p : Loc) : Ren := fun i => if i = n then some p else ρ i

section
variable {P : Program} {TT : Types} {G : Globals}

theorem upd_mono {ρ : Ren} {n : Nat} {p : Loc} (h : ∀ i b, ρ i = some b → i < n) : ∀ i b, ρ i = some b → upd ρ n p i = some b := by
  intro i b hi
  have := h i b hi
  simp only [upd]
  rw [if_neg (by omega)]
  exact hi

theorem heap_push_old (w : World) (O : Obj) {b : Nat} (h : b < w.heap.size) : (w.alloc O).heap[b]? = w.heap[b]? := heap_alloc_old w O b h

theorem lt_of_heap {w : World} {b : Nat} {O : Obj} (h : w.heap[b]? = some O) : b < w.heap.size := by
  rcases Nat.lt_or_ge b w.heap.size with hh | hh
  · exact hh
  · simp [Array.getElem?_eq_none hh] at h

theorem OR.lt {ρ : Ren} {Φ : Frz} {w : World} {L : Loc} {o : AObj} (h : OR ρ Φ w L o) : L.b < w.heap.size := by
  cases o with
  | cells z l => obtain ⟨_, c, T, fr, h1, _⟩ := h; exact lt_of_heap h1
  | map es => obtain ⟨es', clock, h1, _⟩ := h; exact lt_of_heap h1

theorem Rel.owns_lt {ρ : Ren} {Φ : Frz} {σ : Heap} {n : Nat} {w : World} (hR : Rel ρ Φ σ n w) {b : Nat} (h : Owns ρ σ b) : b < w.heap.size := by
  obtain ⟨i, o, L, h1, h2, rfl⟩ := h
  obtain ⟨M, h3, h4⟩ := hR.heap i o h1
  rw [h2] at h3
  cases h3
  exact h4.lt

theorem Rel.dom {ρ : Ren} {Φ : Frz} {σ : Heap} {n : Nat} {w : World} (hR : Rel ρ Φ σ n w) {i : Nat} {o : AObj} (h : hget σ i = some o) : i < n := by
  obtain ⟨L, h1, _⟩ := hR.heap i o h
  exact hR.low i _ h1

/-- A new object. -/
theorem Rel.new {ρ : Ren} {Φ : Frz} {σ : Heap} {n : Nat} {w : World} (hR : Rel ρ Φ σ n w) (O : Obj) (o : AObj) (L : Loc) (hL : L.b = w.heap.size) (hO : OR (upd ρ n L) Φ (w.alloc O) L o) :
    Rel (upd ρ n L) Φ ((n, o) :: σ) (n + 1) (w.alloc O) ∧ Step ρ Φ σ w (upd ρ n L) Φ ((n, o) :: σ) (w.alloc O) := by
  have hm := upd_mono (p := L) hR.low
  have hlt : ∀ i o M, hget σ i = some o → ρ i = some M → M.b < w.heap.size := fun i o M hi hb => hR.owns_lt ⟨i, o, M, hi, hb, rfl⟩
  have updn : ∀ i, i ≠ n → upd ρ n L i = ρ i := fun i hi => by simp only [upd]; rw [if_neg hi]
  have updeq : upd ρ n L n = some L := by simp [upd]
  have getn : hget ((n, o) :: σ) n = some o := by simp [hget_cons, hget_nil]
  have geto : ∀ i, i ≠ n → hget ((n, o) :: σ) i = hget σ i := fun i hi => by
    simp only [hget_cons, hget_nil]
    rw [if_neg (by omega)]
  refine ⟨⟨?_, ?_, ?_, ?_, ?_⟩, ⟨⟨fun i M _ => hm i M, fun _ _ h => h, rfl, rfl, rfl, by simp, fun b hb _ => heap_push_old w O hb, ?_, fun b c h => .inl ⟨c, h⟩⟩, hm⟩⟩
  · intro i p hp
    by_cases hi : i = n
    · subst hi
      rw [getn] at hp
      cases hp
      exact ⟨_, updeq, hO⟩
    · rw [geto i hi] at hp
      obtain ⟨M, h1, h2⟩ := hR.heap i p hp
      exact ⟨M, (updn i hi).trans h1, h2.mono hm (fun _ _ h => h) (heap_push_old w O h2.lt)⟩
  · intro i j p q M M' hp hq hb hb' hbb
    by_cases hi : i = n
    · by_cases hj : j = n
      · exact hi.trans hj.symm
      · rw [geto j hj] at hq
        rw [updn j hj] at hb'
        subst hi
        rw [updeq] at hb
        cases hb
        have := hlt j q _ hq hb'
        omega
    · rw [geto i hi] at hp
      rw [updn i hi] at hb
      by_cases hj : j = n
      · subst hj
        rw [updeq] at hb'
        cases hb'
        have := hlt i p _ hp hb
        omega
      · rw [geto j hj] at hq
        rw [updn j hj] at hb'
        exact hR.inj i j p q M M' hp hq hb hb' hbb
  · intro i p M hp hb
    by_cases hi : i = n
    · subst hi
      rw [updeq] at hb
      cases hb
      cases hΦ : Φ L.b with
      | none => rfl
      | some c =>
        obtain ⟨T, fr, h⟩ := hR.frz _ _ hΦ
        have := lt_of_heap h
        omega
    · rw [geto i hi] at hp
      rw [updn i hi] at hb
      exact hR.dis i p M hp hb
  · intro b c h
    obtain ⟨T, fr, h1⟩ := hR.frz b c h
    exact ⟨T, fr, (heap_push_old w O (lt_of_heap h1)).trans h1⟩
  · intro i M hb
    by_cases hi : i = n
    · omega
    · rw [updn i hi] at hb
      have := hR.low i M hb
      omega
  · rintro b ⟨i, p, M, hp, hb, rfl⟩
    by_cases hi : i = n
    · subst hi
      rw [updeq] at hb
      cases hb
      exact .inl (by omega)
    · rw [geto i hi] at hp
      rw [updn i hi] at hb
      exact .inr ⟨i, p, M, hp, hb, rfl⟩

/-- A row that nobody will write is made. -/
theorem Rel.newFrz {ρ : Ren} {Φ : Frz} {σ : Heap} {n : Nat} {w : World} (hR : Rel ρ Φ σ n w) (c : Array Value) (T : TypeId) :
    Rel ρ (fun b => if b = w.heap.size then some c else Φ b) σ n (w.alloc (.cells c T)) ∧ Step ρ Φ σ w ρ (fun b => if b = w.heap.size then some c else Φ b) σ (w.alloc (.cells c T)) ∧
      (∀ b d, Φ b = some d → (fun b => if b = w.heap.size then some c else Φ b) b = some d) := by
  have hΦ : ∀ b d, Φ b = some d → (fun b => if b = w.heap.size then some c else Φ b) b = some d := fun b d h => by
    obtain ⟨T, fr, h1⟩ := hR.frz b d h
    have := lt_of_heap h1
    show (if b = w.heap.size then some c else Φ b) = some d
    rw [if_neg (by omega)]
    exact h
  refine ⟨⟨?_, hR.inj, ?_, ?_, hR.low⟩, ⟨⟨fun _ _ _ h => h, hΦ, rfl, rfl, rfl, by simp, fun b hb _ => heap_push_old w _ hb, fun b h => .inr h, ?_⟩, fun _ _ h => h⟩, hΦ⟩
  · intro i o hi
    obtain ⟨L, h1, h2⟩ := hR.heap i o hi
    exact ⟨L, h1, h2.mono (fun _ _ h => h) hΦ (heap_push_old w _ h2.lt)⟩
  · intro i o L hi hb
    have := hR.owns_lt ⟨i, o, L, hi, hb, rfl⟩
    show (if L.b = w.heap.size then some c else Φ L.b) = none
    rw [if_neg (by omega)]
    exact hR.dis i o L hi hb
  · intro b d h
    have h : (if b = w.heap.size then some c else Φ b) = some d := h
    split at h
    · rename_i hb
      cases h
      subst hb
      exact ⟨T, (0, 0), heap_alloc_new w _⟩
    · obtain ⟨T, fr, h1⟩ := hR.frz b d h
      exact ⟨T, fr, (heap_push_old w _ (lt_of_heap h1)).trans h1⟩
  · intro b d h
    have h : (if b = w.heap.size then some c else Φ b) = some d := h
    split at h
    · rename_i hb
      exact .inr (.inl (by omega))
    · exact .inl ⟨d, h⟩

/-- A block turns that is one object's, which then holds something else. -/
theorem Rel.turn {ρ : Ren} {Φ : Frz} {σ : Heap} {n : Nat} {w w' : World} (hR : Rel ρ Φ σ n w) {i : Nat} {o o' : AObj} {L : Loc} (hi : hget σ i = some o) (hb : ρ i = some L) (hother : ∀ d, d ≠ L.b → w'.heap[d]? = w.heap[d]?)
    (hos : w'.os = w.os) (htape : w'.tape = w.tape) (hout : w'.output = w.output) (hsz : w'.heap.size = w.heap.size) (hO : OR ρ Φ w' L o') :
    Rel ρ Φ (hset σ i o') n w' ∧ Step ρ Φ σ w ρ Φ (hset σ i o') w' := by
  have sub : ∀ j p, hget (hset σ i o') j = some p → ∃ q, hget σ j = some q := fun j p h => by
    rw [hget_hset] at h
    by_cases hij : i = j
    · subst hij; exact ⟨_, hi⟩
    · rw [if_neg hij] at h; exact ⟨p, h⟩
  refine ⟨⟨?_, ?_, ?_, ?_, hR.low⟩, ⟨⟨fun _ _ _ h => h, fun _ _ h => h, hos, htape, hout, by omega, ?_, ?_, fun b c h => .inl ⟨c, h⟩⟩, fun _ _ h => h⟩⟩
  · intro j p hj
    rw [hget_hset] at hj
    by_cases hij : i = j
    · subst hij
      simp only [if_true, Option.some.injEq] at hj
      subst hj
      exact ⟨L, hb, hO⟩
    · rw [if_neg hij] at hj
      obtain ⟨M, h1, h2⟩ := hR.heap j p hj
      have hne : M.b ≠ L.b := fun h => hij (hR.inj i j _ _ _ _ hi hj hb h1 h.symm)
      exact ⟨M, h1, h2.mono (fun _ _ h => h) (fun _ _ h => h) (hother _ hne)⟩
  · intro j j' p q M M' h1 h2 h3 h4
    obtain ⟨p', h1'⟩ := sub j p h1
    obtain ⟨q', h2'⟩ := sub j' q h2
    exact hR.inj j j' p' q' M M' h1' h2' h3 h4
  · intro j p M h1 h2
    obtain ⟨p', h1'⟩ := sub j p h1
    exact hR.dis j p' M h1' h2
  · intro d c' hd
    obtain ⟨T', fr', h1⟩ := hR.frz d c' hd
    have hne : d ≠ L.b := fun h => by
      subst h
      have := hR.dis i _ L hi hb
      rw [this] at hd
      cases hd
    exact ⟨T', fr', (hother d hne).trans h1⟩
  · intro d hd hn
    exact hother d fun h => hn ⟨i, o, L, hi, hb, h.symm⟩
  · rintro d ⟨j, p, M, h1, h2, rfl⟩
    obtain ⟨p', h1'⟩ := sub j p h1
    exact .inr ⟨j, p', M, h1', h2, rfl⟩

/-- Cells of a block, written one after the other. -/
def cputs : Array Value → Nat → List Value → Array Value
  | c, _, [] => c
  | c, o, v :: r => cputs (c.setIfInBounds o v) (o + 1) r

theorem size_cputs : ∀ (r : List Value) (c : Array Value) (o : Nat), (cputs c o r).size = c.size := by
  intro r
  induction r with
  | nil => intro c o; rfl
  | cons v r ih => intro c o; simp [cputs, ih]

theorem get_cputs : ∀ (r : List Value) (c : Array Value) (o j : Nat), o + r.length ≤ c.size → (cputs c o r)[j]? = if o ≤ j ∧ j < o + r.length then r[j - o]? else c[j]? := by
  intro r
  induction r with
  | nil => intro c o j _; simp only [cputs, List.length_nil]; rw [if_neg (by omega)]
  | cons v r ih =>
    intro c o j h
    simp only [List.length_cons] at h
    simp only [cputs, List.length_cons]
    rw [ih _ _ _ (by simp; omega)]
    by_cases hj : j = o
    · subst hj
      rw [if_neg (by omega), if_pos (by omega), Array.getElem?_setIfInBounds, if_pos rfl, if_pos (by omega)]
      simp
    · by_cases h1 : o + 1 ≤ j ∧ j < o + 1 + r.length
      · rw [if_pos h1, if_pos (by omega)]
        rw [show j - o = (j - (o + 1)) + 1 by omega]
        simp
      · rw [if_neg h1, if_neg (by omega)]
        rw [Array.getElem?_setIfInBounds, if_neg (by omega)]

theorem run_storeCells_block (P : Program) : ∀ (vs : List Value) (k : Nat) (w : World) {b o : Nat} {c : Array Value} {T : TypeId} {fr : Nat × Nat}, w.heap[b]? = some (.cells c T fr) → o + k + vs.length ≤ c.size →
    (∀ j, j < c.size → ¬ (fr.1 ≤ j ∧ j < fr.2)) → (∀ v ∈ vs, v.oneCell' = true) →
    ∃ w', (storeCells ⟨b, o, none⟩ vs k).run P w = .ok () w' ∧ w'.heap[b]? = some (.cells (cputs c (o + k) vs) T fr) ∧ (∀ d, d ≠ b → w'.heap[d]? = w.heap[d]?) ∧ w'.os = w.os ∧ w'.tape = w.tape ∧ w'.output = w.output ∧
      w'.heap.size = w.heap.size := by
  intro vs
  induction vs with
  | nil => intro k w b o c T fr hw _ _ _; exact ⟨w, by simp [storeCells], hw, fun _ _ => rfl, rfl, rfl, rfl, rfl⟩
  | cons v vs ih =>
    intro k w b o c T fr hw hl hfr hone
    simp only [List.length_cons] at hl
    have hcell : w.cell? ⟨b, o + k, none⟩ = some c[o + k] := by rw [cell_of_row w b (o + k) c T fr hw]; simp
    have hfz : w.frozen? ⟨b, o + k, none⟩ = false := by
      have := hfr (o + k) (by omega)
      simp only [World.frozen?, hw]
      simp
      intro h1
      rcases Nat.lt_or_ge (o + k) fr.2 with h2 | h2
      · exact absurd ⟨h1, h2⟩ this
      · exact h2
    have hnew : (w.setCell ⟨b, o + k, none⟩ v).heap[b]? = some (.cells (c.setIfInBounds (o + k) v) T fr) := by
      simp [World.setCell, Array.getElem?_modify, hw]
    obtain ⟨w', h1, h2, h3, h4, h5, h6, h7⟩ := ih (k + 1) (w.setCell ⟨b, o + k, none⟩ v) (o := o) hnew (by simp; omega) (by simpa using hfr) (fun u hu => hone u (by simp [hu]))
    refine ⟨w', ?_, ?_, ?_, h4, h5, h6, by simpa [World.setCell] using h7⟩
    · simp only [storeCells, Sem.run_bind, addr_add]
      rw [run_store P w _ v _ (hone v (by simp)), hcell, hfz]
      exact h1
    · rw [h2]; simp [cputs, Nat.add_assoc]
    · intro d hd
      rw [h3 d hd]
      exact heap_setCell_other w _ d v hd

theorem get_lputs : ∀ (r l : List AV) (o j : Nat), o + r.length ≤ l.length → (lputs l o r)[j]? = if o ≤ j ∧ j < o + r.length then r[j - o]? else l[j]? := by
  intro r
  induction r with
  | nil => intro l o j _; simp only [lputs, List.length_nil]; rw [if_neg (by omega)]
  | cons v r ih =>
    intro l o j h
    simp only [List.length_cons] at h
    simp only [lputs, List.length_cons]
    rw [ih _ _ _ (by simp; omega)]
    by_cases hj : j = o
    · subst hj
      rw [if_neg (by omega), if_pos (by omega), List.getElem?_set, if_pos rfl, if_pos (by omega)]
      simp
    · by_cases h1 : o + 1 ≤ j ∧ j < o + 1 + r.length
      · rw [if_pos h1, if_pos (by omega)]
        rw [show j - o = (j - (o + 1)) + 1 by omega]
        simp
      · rw [if_neg h1, if_neg (by omega)]
        rw [List.getElem?_set, if_neg (by omega)]

/-- Cells of an object are written. -/
theorem Rel.sets {ρ : Ren} {Φ : Frz} {σ : Heap} {n : Nat} {w : World} (hR : Rel ρ Φ σ n w) {i z o : Nat} {l r : List AV} {L : Loc} {vs : List Value} (hi : hget σ i = some (.cells z l)) (hb : ρ i = some L) (hlen : o + r.length ≤ l.length)
    (hl : r.length = vs.length) (hone : r.all AV.one = true) (hv : ∀ (j : Nat) (x : AV) (v : Value), r[j]? = some x → vs[j]? = some v → VR ρ Φ x v) :
    ∃ w', (storeCells ⟨L.b, L.s + o, none⟩ vs).run P w = .ok () w' ∧ Rel ρ Φ (hset σ i (.cells z (lputs l o r))) n w' ∧ Step ρ Φ σ w ρ Φ (hset σ i (.cells z (lputs l o r))) w' := by
  obtain ⟨M, h1, h2, c, T, fr, hw, hm, hsz, hval, hfr⟩ := hR.heap i _ hi
  rw [hb] at h1
  cases h1
  have hone' : ∀ v ∈ vs, v.oneCell' = true := fun v hvm => by
    obtain ⟨j, hj⟩ := List.mem_iff_getElem?.1 hvm
    have hlt : j < r.length := by
      rw [hl]
      rcases Nat.lt_or_ge j vs.length with hh | hh
      · exact hh
      · simp [List.getElem?_eq_none hh] at hj
    have hx : r[j]? = some r[j] := by simp
    exact (hv j _ v hx hj).oneCell (List.all_eq_true.1 hone _ (by simp))
  obtain ⟨w', k1, k2, k3, k4, k5, k6, k7⟩ := run_storeCells_block P vs 0 w (o := L.s + o) hw (by omega) hfr hone'
  obtain ⟨g1, g2⟩ := hR.turn (o' := .cells z (lputs l o r)) hi hb k3 k4 k5 k6 k7 ⟨h2, cputs c (L.s + o + 0) vs, T, fr, k2, by rw [size_cputs]; exact hm, by rw [size_cputs, length_lputs]; exact hsz, fun j x v hx hu => by
    rw [get_lputs r l o j (by omega)] at hx
    rw [get_cputs vs c _ _ (by omega)] at hu
    by_cases hj : o ≤ j ∧ j < o + r.length
    · rw [if_pos hj] at hx
      rw [if_pos (by omega)] at hu
      refine hv (j - o) x v hx (by rw [← hu]; congr 1; omega)
    · rw [if_neg hj] at hx
      rw [if_neg (by omega)] at hu
      exact hval j x v hx hu, by rw [size_cputs]; exact hfr⟩
  exact ⟨w', k1, g1, g2⟩

/-- What an operation comes to. -/
def OpOk (P : Program) (G : Globals) (o : Oper) (e : Env) (σ : Heap) (n : Nat) (Q : AV → Heap → Nat → Prop) : Prop :=
  ∀ (ρ : Ren) (Φ : Frz) (w : World) (ca : Act) (K : Act → World → Prop) (Qx : Exit → Act → World → Prop), Rel ρ Φ σ n w → GR Φ G → EnvR ρ Φ e ca.tmps →
    (∀ v σ' n' ρ' Φ' cv w', Q v σ' n' → VR ρ' Φ' v cv → Rel ρ' Φ' σ' n' w' → Step ρ Φ σ w ρ' Φ' σ' w' → K (ca.put o.dst cv) w') → o.wp P ca w K Qx

theorem OpOk.mono {o : Oper} {e : Env} {σ : Heap} {n : Nat} {Q Q' : AV → Heap → Nat → Prop} (h : OpOk P G o e σ n Q) (hq : ∀ v σ' n', Q v σ' n' → Q' v σ' n') : OpOk P G o e σ n Q' :=
  fun ρ Φ w ca K Qx hR hg he hK => h ρ Φ w ca K Qx hR hg he fun v σ' n' ρ' Φ' cv w' q => hK v σ' n' ρ' Φ' cv w' (hq _ _ _ q)

theorem OpOk.pure (hT : TOk P TT) {o : Oper} {e : Env} {σ : Heap} {n : Nat} {y : AV} {Q : AV → Heap → Nat → Prop} (h : apure TT G e σ o = some y) (hq : Q y σ n) : OpOk P G o e σ n Q := by
  intro ρ Φ w ca K Qx hR hg he hK
  obtain ⟨u, h1, h2⟩ := apure_sound hT hR hg he h
  unfold Oper.wp
  rw [h1, Oper.upon_value]
  exact hK y σ n ρ Φ u w hq h2 hR (Step.refl _ _ _ _)

theorem CR_new {ρ : Ren} {Φ : Frz} {w : World} {n z : Nat} {l : List AV} {c : Array Value} (T : TypeId) (hc : CR ρ Φ l c) (hm : ∀ i b, ρ i = some b → i < n) :
    OR (upd ρ n ⟨w.heap.size, 0, c.size, z⟩) Φ (w.alloc (.cells c T)) ⟨w.heap.size, 0, c.size, z⟩ (.cells z l) :=
  ⟨rfl, c, T, (0, 0), heap_alloc_new w _, rfl, by have := hc.1; simp; omega, fun j x v hx hv => (hc.2 j x v hx (by simpa using hv)).mono (upd_mono hm) (fun _ _ h => h), fun j _ h => by omega⟩

/-- How many cells an element of an array's memory has. -/
def arrZ (TT : Types) (t : TypeId) : Nat :=
  match TT t with
  | some { desc := .array _ e, .. } => (match TT e with
    | some ei => ei.size
    | none => 0)
  | _ => 0

/-- The operations that make or turn cells. -/
def amem (TT : Types) (G : Globals) (e : Env) (σ : Heap) (n : Nat) (o : Oper) : Option (AV × Heap × Nat) :=
  match o.op with
  | .alloc t => match TT t with
    | some i => some (.ptr n 0, (n, .cells (arrZ TT t) i.zero) :: σ, n + 1)
    | none => none
  | .box t x => match aeval G e x with
    | some v => some (.ptr n 0, (n, .cells (arrZ TT t) v.cells) :: σ, n + 1)
    | none => none
  | .store t a x => match TT t, aeval G e a, aeval G e x with
    | some i, some (.ptr j off), some v => match hget σ j with
      | some (.cells z l) => if v.cells.length = i.size ∧ off + i.size ≤ l.length ∧ v.cells.all AV.one = true then some (.tup [], hset σ j (.cells z (lputs l off v.cells)), n) else none
      | _ => none
    | _, _, _ => none
  | _ => none

theorem OpOk.mem (hT : TOk P TT) {o : Oper} {e : Env} {σ σ' : Heap} {n n' : Nat} {y : AV} {Q : AV → Heap → Nat → Prop} (h : amem TT G e σ n o = some (y, σ', n')) (hq : Q y σ' n') : OpOk P G o e σ n Q := by
  intro ρ Φ w ca K Qx hR hg he hK
  unfold amem at h
  split at h <;> rename_i ho
  · split at h
    · rename_i t _ i hi
      cases h
      obtain ⟨z, hz, hzs⟩ := hT.run_zero hi w
      obtain ⟨h1, h2⟩ := hR.new (.cells z.cells t) (.cells (arrZ TT t) i.zero) _ rfl (CR_new t (CR_scalars hzs) hR.low)
      unfold Oper.wp
      have : (execOp ca.eval o).run P w = .ok (.value (.pointer (some ⟨w.heap.size, 0, none⟩))) (w.alloc (.cells z.cells t)) := by
        simp [execOp, ho, Instr.alloc, hz, newVar, newRow]
      rw [this, Oper.upon_value]
      exact hK _ _ _ _ _ _ _ hq (.ptr (L := ⟨w.heap.size, 0, _, arrZ TT t⟩) 0 (by simp [upd]; rfl)) h1 h2
    · cases h
  · split at h
    · rename_i t x _ v hv
      cases h
      obtain ⟨h1, h2⟩ := hR.new (.cells (ca.eval x).cells t) (.cells (arrZ TT t) v.cells) _ rfl (CR_new t (CR_cells (aeval_sound hg he hv)) hR.low)
      unfold Oper.wp
      have : (execOp ca.eval o).run P w = .ok (.value (.pointer (some ⟨w.heap.size, 0, none⟩))) (w.alloc (.cells (ca.eval x).cells t)) := by
        simp [execOp, ho, Instr.box, newVar, newRow]
      rw [this, Oper.upon_value]
      exact hK _ _ _ _ _ _ _ hq (.ptr (L := ⟨w.heap.size, 0, _, arrZ TT t⟩) 0 (by simp [upd]; rfl)) h1 h2
    · cases h
  · split at h
    · rename_i t a x _ _ _ i j off v hi ha hx
      split at h
      · rename_i z l hl
        split at h
        · rename_i hc
          cases h
          have hva := aeval_sound hg he ha
          have hvx := aeval_sound hg he hx
          generalize hqa : ca.eval a = qa at hva
          cases hva with
          | ptr _ hr =>
            have hcr := CR_cells hvx
            obtain ⟨w', h1, h2, h3⟩ := Rel.sets (P := P) hR (o := off) (r := v.cells) (vs := (ca.eval x).cells.toList) hl hr (by omega) (by simpa using hcr.1) hc.2.2 (fun j y u hy hu => hcr.2 j y u hy (by simpa using hu))
            unfold Oper.wp
            have : (execOp ca.eval o).run P w = .ok .skip w' := by
              have hsz : (ca.eval x).cells.size = i.size := by rw [← hcr.1]; exact hc.1
              simp [execOp, ho, Instr.storeAt, hqa, Instr.sureAddr, storeVar, hT.run_size hi, hsz, h1]
            rw [this, Oper.upon_skip]
            exact hK _ _ _ _ _ _ _ hq (.tup rfl (fun j x v hx => by simp at hx)) h2 h3
        · cases h
      · cases h
    · cases h
  · cases h
end
end Go.Ma
