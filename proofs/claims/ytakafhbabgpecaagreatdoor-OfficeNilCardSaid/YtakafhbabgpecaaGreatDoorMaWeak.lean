/- Less may be known: ids renamed or forgotten, rows frozen. -/
import Derived.Test.YtakafhbabgpecaaGreatDoorMaRun
namespace Go.Ma
section
variable {P : Program} {TT : Types} {G : Globals} {N n0 : Nat}

/-- One state is seen as another one. -/
def Sees (n0 : Nat) (e : Env) (σ : Heap) (n : Nat) (e' : Env) (σ' : Heap) (n' : Nat) : Prop :=
  ∀ (ρ : Ren) (Φ : Frz) (w : World) (tmps : Array Value), Rel ρ Φ σ n w → EnvR ρ Φ e tmps → ∃ ρ' Φ', Rel ρ' Φ' σ' n' w ∧ EnvR ρ' Φ' e' tmps ∧ (∀ i L, i < n0 → ρ i = some L → ρ' i = some L) ∧
    (∀ b c, Φ b = some c → Φ' b = some c) ∧ (∀ b, Owns ρ' σ' b → Owns ρ σ b) ∧ (∀ b c, Φ' b = some c → (∃ d, Φ b = some d) ∨ Owns ρ σ b)

theorem Sees.step {e e' : Env} {σ σ' : Heap} {n n' : Nat} (h : Sees n0 e σ n e' σ' n') {ρ : Ren} {Φ : Frz} {w : World} {tmps : Array Value} (hR : Rel ρ Φ σ n w) (he : EnvR ρ Φ e tmps) :
    ∃ ρ' Φ', Rel ρ' Φ' σ' n' w ∧ EnvR ρ' Φ' e' tmps ∧ StepN n0 ρ Φ σ w ρ' Φ' σ' w :=
  let ⟨ρ', Φ', h1, h2, h3, h4, h5, h6⟩ := h ρ Φ w tmps hR he
  ⟨ρ', Φ', h1, h2, h3, h4, rfl, rfl, rfl, Nat.le_refl _, fun _ _ _ => rfl, fun b hb => .inr (h5 b hb), fun b c hb => (h6 b c hb).imp id .inr⟩

theorem Sees.trans {e e' e'' : Env} {σ σ' σ'' : Heap} {n n' n'' : Nat} (h : Sees n0 e σ n e' σ' n') (k : Sees n0 e' σ' n' e'' σ'' n'') : Sees n0 e σ n e'' σ'' n'' := by
  intro ρ Φ w tmps hR he
  obtain ⟨ρ', Φ', h1, h2, h3, h4, h5, h6⟩ := h ρ Φ w tmps hR he
  obtain ⟨ρ₂, Φ₂, k1, k2, k3, k4, k5, k6⟩ := k ρ' Φ' w tmps h1 h2
  refine ⟨ρ₂, Φ₂, k1, k2, fun i L hi hL => k3 i L hi (h3 i L hi hL), fun b c hb => k4 b c (h4 b c hb), fun b hb => h5 b (k5 b hb), fun b c hb => ?_⟩
  rcases k6 b c hb with ⟨d, hd⟩ | ho
  · exact h6 b d hd
  · exact .inr (h5 b ho)

theorem AWp.sees {c : Code} {Q : Exit → Env → Heap → Nat → Prop} {e e' : Env} {σ σ' : Heap} {n n' : Nat} (hs : Sees n0 e σ n e' σ' n') (h : AWp P G N n0 c Q e' σ' n') : AWp P G N n0 c Q e σ n := by
  intro ρ Φ w ca hR hg he hN hd
  obtain ⟨ρ', Φ', h1, h2, h3⟩ := hs.step hR he
  exact wp_mono (h ρ' Φ' w ca h1 (hg.mono h3.frz) h2 hN hd) fun _ _ _ hp => Post.step h3 hp

theorem AOps.sees {ops : Array Oper} {l : List Nat} {Q : Exit → Env → Heap → Nat → Prop} {e e' : Env} {σ σ' : Heap} {n n' : Nat} (hs : Sees n0 e σ n e' σ' n') (h : AOps P G N n0 ops l Q e' σ' n') : AOps P G N n0 ops l Q e σ n := by
  intro ρ Φ w ca hR hg he hN hd
  obtain ⟨ρ', Φ', h1, h2, h3⟩ := hs.step hR he
  exact wpOps_mono (fun _ _ _ hp => Post.step h3 hp) _ _ _ (h ρ' Φ' w ca h1 (hg.mono h3.frz) h2 hN hd)

/-- The post condition too may see the state otherwise. -/
theorem AWp.post {c : Code} {Q Q' : Exit → Env → Heap → Nat → Prop} {e : Env} {σ : Heap} {n : Nat} (h : AWp P G N n0 c Q' e σ n) (hq : ∀ x e σ n, Q' x e σ n → ∃ e' σ' n', Sees n0 e σ n e' σ' n' ∧ Q x e' σ' n') : AWp P G N n0 c Q e σ n := by
  intro ρ Φ w ca hR hg he hN hd
  refine wp_mono (h ρ Φ w ca hR hg he hN hd) fun x ca' w' hp => ?_
  obtain ⟨e', σ', n', ρ', Φ', q, h1, h2, h3, h4, h5⟩ := hp
  obtain ⟨e₂, σ₂, n₂, hs, q₂⟩ := hq x e' σ' n' q
  obtain ⟨ρ₂, Φ₂, k1, k2, k3⟩ := hs.step h4 h1
  exact ⟨e₂, σ₂, n₂, ρ₂, Φ₂, q₂, k2, h2, h3, k1, h5.trans k3⟩

/-- A value in which no id of the heap stands. -/
def Pure (x : AV) : Prop := ∀ (ρ ρ' : Ren) (Φ : Frz) (v : Value), VR ρ Φ x v → VR ρ' Φ x v

theorem Pure.bool (b : Bool) : Pure (.bool b) := fun _ _ _ _ h => by cases h; exact .bool b
theorem Pure.int (k : IntKind) (n : Int) : Pure (.int k n) := fun _ _ _ _ h => by cases h; exact .int k n
theorem Pure.str (s : ByteArray) : Pure (.str s) := fun _ _ _ _ h => by cases h; exact .str s
theorem Pure.nilp : Pure .nilp := fun _ _ _ _ h => by cases h; exact .nilp
theorem Pure.nils : Pure .nils := fun _ _ _ _ h => by cases h; exact .nils
theorem Pure.nilm : Pure .nilm := fun _ _ _ _ h => by cases h; exact .nilm
theorem Pure.nilf : Pure .nilf := fun _ _ _ _ h => by cases h; exact .nilf
theorem Pure.niliface : Pure .niliface := fun _ _ _ _ h => by cases h; exact .niliface
theorem Pure.iface {t : TypeId} {x : AV} (hx : Pure x) : Pure (.iface t x) := fun ρ ρ' Φ v h => by cases h with | iface h => exact .iface (hx ρ ρ' Φ _ h)
theorem Pure.agg {l : List AV} (hl : ∀ x ∈ l, Pure x) : Pure (.agg l) := fun ρ ρ' Φ v h => by
  cases h with | agg h1 h2 => exact .agg h1 fun j x v hx hv => hl x (List.mem_of_getElem? hx) ρ ρ' Φ v (h2 j x v hx hv)
theorem Pure.tup {l : List AV} (hl : ∀ x ∈ l, Pure x) : Pure (.tup l) := fun ρ ρ' Φ v h => by
  cases h with | tup h1 h2 => exact .tup h1 fun j x v hx hv => hl x (List.mem_of_getElem? hx) ρ ρ' Φ v (h2 j x v hx hv)
theorem Pure.fp {l : List AV} {off : Nat} (hl : ∀ x ∈ l, Pure x) : Pure (.fp l off) := fun ρ ρ' Φ v h => by
  cases h with | fp _ h1 h2 h3 => exact .fp _ h1 h2 fun j x v hx hv => hl x (List.mem_of_getElem? hx) ρ ρ' Φ v (h3 j x v hx hv)
theorem Pure.fs {els : List (List AV)} (hl : ∀ l ∈ els, ∀ x ∈ l, Pure x) : Pure (.fs els) := fun ρ ρ' Φ v h => by
  generalize hz : AV.fs els = z at h
  cases h with
  | fs0 a cap => cases hz; exact .fs0 a cap
  | fs h1 h2 h3 h4 h5 => cases hz; exact .fs h1 h2 h3 h4 fun i x j y v hx hy hv => hl x (List.mem_of_getElem? hx) y (List.mem_of_getElem? hy) ρ ρ' Φ v (h5 i x j y v hx hy hv)
  | _ => cases hz
theorem Pure.fn {f : FuncId} {l m : List AV} (hl : ∀ x ∈ l, Pure x) (hm : ∀ x ∈ m, Pure x) : Pure (.fn f l m) := fun ρ ρ' Φ v h => by
  cases h with | fn h1 h2 h3 h4 => exact .fn h1 h2 (fun j x v hx hv => hl x (List.mem_of_getElem? hx) ρ ρ' Φ v (h3 j x v hx hv)) (fun j x v hx hv => hm x (List.mem_of_getElem? hx) ρ ρ' Φ v (h4 j x v hx hv))
theorem Pure.cells {x : AV} (h : Pure x) : ∀ y ∈ x.cells, Pure y → Pure y := fun _ _ h => h

/-- Renaming: what id a new name stands for. Below n0 nothing is renamed. -/
def back (n0 : Nat) (r : List (Nat × Nat)) (i : Nat) : Option Nat :=
  if i < n0 then some i else (r.find? fun p => p.1 == i).map (·.2)

def renRen (n0 : Nat) (r : List (Nat × Nat)) (ρ : Ren) : Ren := fun i => (back n0 r i).bind ρ

/-- The value y is x with the new names. -/
def RenV (n0 : Nat) (r : List (Nat × Nat)) (x y : AV) : Prop := ∀ (ρ : Ren) (Φ : Frz) (v : Value), VR ρ Φ x v → VR (renRen n0 r ρ) Φ y v

theorem RenV.pure {r : List (Nat × Nat)} {x : AV} (h : Pure x) : RenV n0 r x x := fun ρ Φ v hv => h _ _ _ _ hv
theorem RenV.ptr {r : List (Nat × Nat)} {i j off : Nat} (h : back n0 r j = some i) : RenV n0 r (.ptr i off) (.ptr j off) := fun ρ Φ v hv => by
  cases hv with | ptr _ hr => exact .ptr _ (by simp [renRen, h, hr])
theorem RenV.sl {r : List (Nat × Nat)} {i j off len : Nat} (h : back n0 r j = some i) : RenV n0 r (.sl i off len) (.sl j off len) := fun ρ Φ v hv => by
  cases hv with
  | sl _ hr h1 h2 => exact .sl _ (by simp [renRen, h, hr]) h1 h2
  | sl0 => exact .sl0 _ _ _
theorem RenV.map {r : List (Nat × Nat)} {i j : Nat} (h : back n0 r j = some i) : RenV n0 r (.map i) (.map j) := fun ρ Φ v hv => by
  cases hv with | map hr => exact .map (by simp [renRen, h, hr])
theorem RenV.list {r : List (Nat × Nat)} {l m : List AV} (hl : l.length = m.length) (h : ∀ (j : Nat) (x y : AV), l[j]? = some x → m[j]? = some y → RenV n0 r x y) {ρ : Ren} {Φ : Frz} {c : Array Value} (hc : CR ρ Φ l c) :
    CR (renRen n0 r ρ) Φ m c := by
  refine ⟨by rw [← hl]; exact hc.1, fun j y v hy hv => ?_⟩
  have hlt : j < l.length := by
    rw [hl]
    rcases Nat.lt_or_ge j m.length with hh | hh
    · exact hh
    · simp [List.getElem?_eq_none hh] at hy
  exact h j l[j] y (by simp) hy ρ Φ v (hc.2 j l[j] v (by simp) hv)
theorem RenV.agg {r : List (Nat × Nat)} {l m : List AV} (hl : l.length = m.length) (h : ∀ (j : Nat) (x y : AV), l[j]? = some x → m[j]? = some y → RenV n0 r x y) : RenV n0 r (.agg l) (.agg m) := fun ρ Φ v hv => by
  cases hv with | agg h1 h2 => have := RenV.list hl h (c := _) ⟨h1, h2⟩; exact .agg this.1 this.2
theorem RenV.tup {r : List (Nat × Nat)} {l m : List AV} (hl : l.length = m.length) (h : ∀ (j : Nat) (x y : AV), l[j]? = some x → m[j]? = some y → RenV n0 r x y) : RenV n0 r (.tup l) (.tup m) := fun ρ Φ v hv => by
  cases hv with | tup h1 h2 => have := RenV.list hl h (c := _) ⟨h1, h2⟩; exact .tup this.1 this.2
theorem RenV.fn {r : List (Nat × Nat)} {f : FuncId} {l m l' m' : List AV} (hl : l.length = l'.length) (hm : m.length = m'.length) (h : ∀ (j : Nat) (x y : AV), l[j]? = some x → l'[j]? = some y → RenV n0 r x y)
    (h' : ∀ (j : Nat) (x y : AV), m[j]? = some x → m'[j]? = some y → RenV n0 r x y) : RenV n0 r (.fn f l m) (.fn f l' m') := fun ρ Φ v hv => by
  cases hv with | fn h1 h2 h3 h4 => have k1 := RenV.list hl h (c := _) ⟨h1, h3⟩; have k2 := RenV.list hm h' (c := _) ⟨h2, h4⟩; exact .fn k1.1 k2.1 k1.2 k2.2

inductive RenO (n0 : Nat) (r : List (Nat × Nat)) : AObj → AObj → Prop
  | cells {z : Nat} {l m : List AV} (hl : l.length = m.length) (h : ∀ (j : Nat) (x y : AV), l[j]? = some x → m[j]? = some y → RenV n0 r x y) : RenO n0 r (.cells z l) (.cells z m)
  | map {l m : List (AV × AV)} (hl : l.length = m.length) (h : ∀ (j : Nat) (x y : AV × AV), l[j]? = some x → m[j]? = some y → RenV n0 r x.1 y.1 ∧ RenV n0 r x.2 y.2) : RenO n0 r (.map l) (.map m)

theorem RenO.sound {r : List (Nat × Nat)} {o o' : AObj} (h : RenO n0 r o o') {ρ : Ren} {Φ : Frz} {w : World} {L : Loc} (ho : OR ρ Φ w L o) : OR (renRen n0 r ρ) Φ w L o' := by
  cases h with
  | cells hl h =>
    rename_i z l m
    obtain ⟨h0, c, T, fr, h1, h2, h3, h4, h5⟩ := ho
    refine ⟨h0, c, T, fr, h1, h2, by rw [← hl]; exact h3, fun j y v hy hv => ?_, h5⟩
    have hlt : j < l.length := by
      rw [hl]
      rcases Nat.lt_or_ge j m.length with hh | hh
      · exact hh
      · simp [List.getElem?_eq_none hh] at hy
    exact h j l[j] y (by simp) hy ρ Φ v (h4 j l[j] v (by simp) hv)
  | map hl h =>
    rename_i l m
    obtain ⟨es', clock, h1, h2, h3⟩ := ho
    refine ⟨es', clock, h1, by rw [← hl]; exact h2, fun j y v hy hv => ?_⟩
    have hlt : j < l.length := by
      rw [hl]
      rcases Nat.lt_or_ge j m.length with hh | hh
      · exact hh
      · simp [List.getElem?_eq_none hh] at hy
    obtain ⟨k1, k2⟩ := h j l[j] y (by simp) hy
    obtain ⟨g1, g2⟩ := h3 j l[j] v (by simp) hv
    exact ⟨k1 ρ Φ _ g1, k2 ρ Φ _ g2⟩

/-- Ids renamed, the others forgotten. -/
theorem Sees.ren (r : List (Nat × Nat)) {e e' : Env} {σ σ' : Heap} {n n' : Nat} (hr : ∀ p ∈ r, n0 ≤ p.2) (hinj : ∀ p ∈ r, ∀ q ∈ r, p.2 = q.2 → p.1 = q.1) (hn : n0 ≤ n') (hlt : ∀ p ∈ r, p.1 < n')
    (he : ∀ t y, eget e' t = some y → ∃ x, eget e t = some x ∧ RenV n0 r x y) (hσ : ∀ j o', hget σ' j = some o' → ∃ i o, back n0 r j = some i ∧ hget σ i = some o ∧ RenO n0 r o o') : Sees n0 e σ n e' σ' n' := by
  intro ρ Φ w tmps hR hE
  have hb : ∀ j i, back n0 r j = some i → (j < n0 ∧ i = j) ∨ (n0 ≤ j ∧ ∃ p ∈ r, p.1 = j ∧ p.2 = i) := fun j i h => by
    unfold back at h
    split at h
    · rename_i hj
      cases h
      exact .inl ⟨hj, rfl⟩
    · rename_i hj
      cases hf : r.find? fun p => p.1 == j with
      | none => simp [hf] at h
      | some p =>
        simp only [hf, Option.map_some, Option.some.injEq] at h
        refine .inr ⟨by omega, p, List.mem_of_find?_eq_some hf, ?_, h⟩
        have := List.find?_some hf
        simpa using this
  have hren : ∀ j L, renRen n0 r ρ j = some L → ∃ i, back n0 r j = some i ∧ ρ i = some L := fun j L h => by
    unfold renRen at h
    cases hbj : back n0 r j with
    | none => simp [hbj] at h
    | some i => exact ⟨i, rfl, by simpa [hbj] using h⟩
  have hown : ∀ b, Owns (renRen n0 r ρ) σ' b → Owns ρ σ b := fun b ⟨j, o', L, h1, h2, h3⟩ => by
    obtain ⟨i, o, k1, k2, k3⟩ := hσ j o' h1
    obtain ⟨i', g1, g2⟩ := hren j L h2
    rw [k1] at g1
    cases g1
    exact ⟨i, o, L, k2, g2, h3⟩
  refine ⟨renRen n0 r ρ, Φ, ⟨?_, ?_, ?_, hR.frz, ?_⟩, ?_, ?_, fun _ _ h => h, hown, fun b c h => .inl ⟨c, h⟩⟩
  · intro j o' hj
    obtain ⟨i, o, k1, k2, k3⟩ := hσ j o' hj
    obtain ⟨L, h1, h2⟩ := hR.heap i o k2
    exact ⟨L, by simp [renRen, k1, h1], k3.sound h2⟩
  · intro j j' o p L M h1 h2 h3 h4 hbb
    obtain ⟨i, q, k1, k2, _⟩ := hσ j o h1
    obtain ⟨i', q', k1', k2', _⟩ := hσ j' p h2
    obtain ⟨a, g1, g2⟩ := hren j L h3
    obtain ⟨a', g1', g2'⟩ := hren j' M h4
    rw [k1] at g1; cases g1
    rw [k1'] at g1'; cases g1'
    have hii := hR.inj i i' q q' L M k2 k2' g2 g2' hbb
    subst hii
    rcases hb j i k1 with ⟨hj, h⟩ | ⟨hj, p1, hp1, e1, e2⟩ <;> rcases hb j' i k1' with ⟨hj', h'⟩ | ⟨hj', p2, hp2, e1', e2'⟩
    · omega
    · have := hr p2 hp2; omega
    · have := hr p1 hp1; omega
    · have := hinj p1 hp1 p2 hp2 (by omega); omega
  · intro j o L h1 h2
    obtain ⟨i, q, k1, k2, _⟩ := hσ j o h1
    obtain ⟨a, g1, g2⟩ := hren j L h2
    rw [k1] at g1; cases g1
    exact hR.dis i q L k2 g2
  · intro j L h
    obtain ⟨i, k1, k2⟩ := hren j L h
    rcases hb j i k1 with ⟨hj, _⟩ | ⟨hj, p1, hp1, e1, e2⟩
    · omega
    · have := hlt p1 hp1; omega
  · intro t y hy
    obtain ⟨x, k1, k2⟩ := he t y hy
    obtain ⟨v, g1, g2⟩ := hE t x k1
    exact ⟨v, g1, k2 ρ Φ v g2⟩
  · intro i L hi hL
    simp [renRen, back, hi, hL]

/-- Rows of z cells one after the other. -/
theorem flatten_get {z : Nat} : ∀ (rows : List (List AV)), (∀ x ∈ rows, x.length = z) → ∀ (i j : Nat) (x : List AV) (y : AV), rows[i]? = some x → x[j]? = some y → rows.flatten[i * z + j]? = some y := by
  intro rows
  induction rows with
  | nil => intro _ i j x y h; simp at h
  | cons r rows ih =>
    intro hz i j x y hx hy
    have hr : r.length = z := hz r (by simp)
    cases i with
    | zero =>
      simp only [List.getElem?_cons_zero, Option.some.injEq] at hx
      subst hx
      rw [List.flatten_cons, Nat.zero_mul, Nat.zero_add]
      rw [List.getElem?_append_left]
      · exact hy
      · rcases Nat.lt_or_ge j r.length with hh | hh
        · exact hh
        · simp [List.getElem?_eq_none hh] at hy
    | succ i =>
      rw [List.flatten_cons, List.getElem?_append_right (by rw [hr, Nat.succ_mul]; omega)]
      rw [show (i + 1) * z + j - r.length = i * z + j by rw [hr, Nat.succ_mul]; omega]
      exact ih (fun x hx => hz x (by simp [hx])) i j x y (by simpa using hx) hy

theorem flatten_length {z : Nat} : ∀ (rows : List (List AV)), (∀ x ∈ rows, x.length = z) → rows.flatten.length = rows.length * z := by
  intro rows
  induction rows with
  | nil => intro _; simp
  | cons r rows ih =>
    intro hz
    rw [List.flatten_cons, List.length_append, ih (fun x hx => hz x (by simp [hx])), hz r (by simp), List.length_cons, Nat.succ_mul]
    omega

/-- A slice of the heap is frozen: the object i, of pure cells, is forgotten. -/
theorem Sees.freeze {e : Env} {σ : Heap} {n i t z : Nat} {rows : List (List AV)} (hi : hget σ i = some (.cells z rows.flatten)) (hz : ∀ x ∈ rows, x.length = z) (hp : ∀ x ∈ rows, ∀ y ∈ x, Pure y)
    (ht : eget e t = some (.sl i 0 rows.length)) : Sees n0 e σ n (eput e (some t) (.fs rows)) (hdel σ i) n := by
  intro ρ Φ w tmps hR hE
  obtain ⟨L, hL, h0, c, T, fr, hw, hm, hsz, hval, hfr⟩ := hR.heap i _ hi
  have hdis := hR.dis i _ L hi hL
  have hsub : ∀ j o, hget (hdel σ i) j = some o → i ≠ j ∧ hget σ j = some o := fun j o h => by
    rw [hget_hdel] at h
    by_cases hij : i = j
    · simp [hij] at h
    · rw [if_neg hij] at h; exact ⟨hij, h⟩
  have hΦ : ∀ b d, Φ b = some d → (fun b => if b = L.b then some c else Φ b) b = some d := fun b d h => by
    show (if b = L.b then some c else Φ b) = some d
    by_cases hb : b = L.b
    · subst hb; rw [hdis] at h; cases h
    · rw [if_neg hb]; exact h
  refine ⟨ρ, fun b => if b = L.b then some c else Φ b, ⟨?_, ?_, ?_, ?_, hR.low⟩, ?_, fun _ _ _ h => h, hΦ, ?_, ?_⟩
  · intro j o hj
    obtain ⟨_, h2⟩ := hsub j o hj
    obtain ⟨M, k1, k2⟩ := hR.heap j o h2
    exact ⟨M, k1, k2.mono (fun _ _ h => h) hΦ rfl⟩
  · intro j j' o p M M' h1 h2
    exact hR.inj j j' o p M M' (hsub j o h1).2 (hsub j' p h2).2
  · intro j o M h1 h2
    obtain ⟨hne, h3⟩ := hsub j o h1
    show (if M.b = L.b then some c else Φ M.b) = none
    rw [if_neg (fun h => hne (hR.inj i j _ o L M hi h3 hL h2 h.symm))]
    exact hR.dis j o M h3 h2
  · intro b d hb
    have hb : (if b = L.b then some c else Φ b) = some d := hb
    split at hb
    · rename_i h; cases hb; subst h; exact ⟨T, fr, hw⟩
    · exact hR.frz b d hb
  · intro u y hy
    simp only [eput, eget] at hy
    by_cases htu : t = u
    · subst htu
      simp only [if_true, Option.some.injEq] at hy
      subst hy
      obtain ⟨v, g1, g2⟩ := hE t _ ht
      refine ⟨v, g1, ?_⟩
      cases hrl : rows with
      | nil =>
        rw [hrl] at g2
        cases g2 with
        | sl _ _ _ _ => exact .fs0 _ _
        | sl0 => exact .fs0 _ _
      | cons r0 rs =>
        rw [← hrl]
        generalize hq : AV.sl i 0 rows.length = q at g2
        cases g2 with
        | sl off hr hc hmm =>
          cases hq
          rw [hL] at hr
          cases hr
          refine .fs (z := z) (c := c) (by simp) hc hz ?_ fun a x j y v hx hy hv => ?_
          · rw [flatten_length rows hz] at hsz; omega
          · have := hval _ y v (flatten_get rows hz a j x y hx hy) (by rw [← hv]; congr 1; omega)
            exact (hp x (List.mem_of_getElem? hx) y (List.mem_of_getElem? hy) ρ ρ Φ v this).mono (fun _ _ h => h) hΦ
        | sl0 => simp only [AV.sl.injEq] at hq; rw [hrl] at hq; simp at hq
        | _ => cases hq
    · rw [if_neg htu, eget_edel, if_neg htu] at hy
      obtain ⟨v, g1, g2⟩ := hE u y hy
      exact ⟨v, g1, g2.mono (fun _ _ h => h) hΦ⟩
  · rintro b ⟨j, o, M, h1, h2, h3⟩
    exact ⟨j, o, M, (hsub j o h1).2, h2, h3⟩
  · intro b d hb
    have hb : (if b = L.b then some c else Φ b) = some d := hb
    split at hb
    · rename_i h; exact .inr ⟨i, _, L, hi, hL, h.symm⟩
    · exact .inl ⟨d, hb⟩
end
end Go.Ma
