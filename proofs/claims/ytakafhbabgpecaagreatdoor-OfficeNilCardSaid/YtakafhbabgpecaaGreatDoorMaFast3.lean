/- The interpreter: functions; what a function hands back, with its new memory frozen or dropped. -/
import Derived.Test.YtakafhbabgpecaaGreatDoorMaFast2b
namespace Go.Ma
section
variable {P : Program} {C : Ctx} {N n0 : Nat}

/-! ### Dropping and freezing -/

def resl (r : AV → Option AV) : List AV → Option (List AV)
  | [] => some []
  | x :: l => match r x, resl r l with
    | some y, some m => some (y :: m)
    | _, _ => none

def resll (r : AV → Option AV) : List (List AV) → Option (List (List AV))
  | [] => some []
  | x :: l => match resl r x, resll r l with
    | some y, some m => some (y :: m)
    | _, _ => none

theorem resl_get {r : AV → Option AV} : ∀ {l m : List AV}, resl r l = some m → m.length = l.length ∧ ∀ (j : Nat) (y : AV), m[j]? = some y → ∃ x, l[j]? = some x ∧ r x = some y := by
  intro l
  induction l with
  | nil => intro m h; cases h; exact ⟨rfl, fun j y h => by simp at h⟩
  | cons x l ih =>
    intro m h
    simp only [resl] at h
    split at h
    · rename_i y m' hy hm
      cases h
      obtain ⟨h1, h2⟩ := ih hm
      refine ⟨by simp [h1], fun j z hz => ?_⟩
      cases j with
      | zero => simp at hz; subst hz; exact ⟨x, rfl, hy⟩
      | succ j => exact h2 j z (by simpa using hz)
    · cases h

theorem resll_get {r : AV → Option AV} : ∀ {l m : List (List AV)}, resll r l = some m → m.length = l.length ∧ ∀ (j : Nat) (y : List AV), m[j]? = some y → ∃ x, l[j]? = some x ∧ resl r x = some y := by
  intro l
  induction l with
  | nil => intro m h; cases h; exact ⟨rfl, fun j y h => by simp at h⟩
  | cons x l ih =>
    intro m h
    simp only [resll] at h
    split at h
    · rename_i y m' hy hm
      cases h
      obtain ⟨h1, h2⟩ := ih hm
      refine ⟨by simp [h1], fun j z hz => ?_⟩
      cases j with
      | zero => simp at hz; subst hz; exact ⟨x, rfl, hy⟩
      | succ j => exact h2 j z (by simpa using hz)
    · cases h

def rows (z : Nat) : Nat → List AV → List (List AV)
  | 0, _ => []
  | k + 1, l => l.take z :: rows z k (l.drop z)

theorem rows_length (z : Nat) : ∀ (k : Nat) (l : List AV), (rows z k l).length = k := by
  intro k
  induction k with
  | zero => intro l; rfl
  | succ k ih => intro l; simp [rows, ih]

theorem rows_get (z : Nat) : ∀ (k : Nat) (l : List AV), k * z ≤ l.length → ∀ (i : Nat) (x : List AV), (rows z k l)[i]? = some x → x.length = z ∧ ∀ (j : Nat) (y : AV), x[j]? = some y → l[i * z + j]? = some y := by
  intro k
  induction k with
  | zero => intro l _ i x h; simp [rows] at h
  | succ k ih =>
    intro l hl i x h
    have hz : z + k * z ≤ l.length := by rw [Nat.succ_mul] at hl; omega
    cases i with
    | zero =>
      simp only [rows, List.getElem?_cons_zero, Option.some.injEq] at h
      subst h
      refine ⟨by simp; omega, fun j y hy => ?_⟩
      rw [List.getElem?_take] at hy
      split at hy
      · simpa using hy
      · cases hy
    | succ i =>
      simp only [rows, List.getElem?_cons_succ] at h
      obtain ⟨h1, h2⟩ := ih (l.drop z) (by simp; omega) i x h
      refine ⟨h1, fun j y hy => ?_⟩
      have := h2 j y hy
      rw [List.getElem?_drop] at this
      rw [Nat.succ_mul, ← this]
      congr 1; omega

/-- A value with all that is younger than n frozen. -/
def res (σ : Heap) (n : Nat) : Nat → AV → Option AV
  | 0, _ => none
  | d + 1, v => match v with
    | .ptr i off => (match Nat.blt i n with
      | true => some (.ptr i off)
      | false => (match hget σ i with
        | some (.cells _ l) => (match resl (res σ n d) l with
          | some m => some (.fp m off)
          | none => none)
        | _ => none))
    | .sl i off len => (match Nat.blt i n with
      | true => some (.sl i off len)
      | false => (match len with
        | 0 => some (.fs [])
        | len' + 1 => (match hget σ i with
          | some (.cells z l) => (match Nat.ble (off + (len' + 1) * z) l.length, resl (res σ n d) ((l.drop off).take ((len' + 1) * z)) with
            | true, some m => some (.fs (rows z (len' + 1) m))
            | _, _ => none)
          | _ => none)))
    | .map i => (match Nat.blt i n with
      | true => some (.map i)
      | false => none)
    | .fp l off => (match resl (res σ n d) l with
      | some m => some (.fp m off)
      | none => none)
    | .fs els => (match resll (res σ n d) els with
      | some m => some (.fs m)
      | none => none)
    | .fn f l m => (match resl (res σ n d) l, resl (res σ n d) m with
      | some l', some m' => some (.fn f l' m')
      | _, _ => none)
    | .iface t x => (match res σ n d x with
      | some y => some (.iface t y)
      | none => none)
    | .agg l => (match resl (res σ n d) l with
      | some m => some (.agg m)
      | none => none)
    | .tup l => (match resl (res σ n d) l with
      | some m => some (.tup m)
      | none => none)
    | v => some v

theorem res_sound {ρ : Ren} {Φ Φ' : Frz} {σ : Heap} {n n' : Nat} {w : World} (hR : Rel ρ Φ σ n' w) (hΦ : ∀ b c, Φ b = some c → Φ' b = some c)
    (hnew : ∀ i z l L c T fr, n ≤ i → hget σ i = some (.cells z l) → ρ i = some L → w.heap[L.b]? = some (.cells c T fr) → Φ' L.b = some c) :
    ∀ (d : Nat) (x y : AV) (v : Value), VR ρ Φ x v → res σ n d x = some y → VR ρ Φ' y v := by
  intro d
  induction d with
  | zero => intro x y v _ h; cases h
  | succ d ih =>
    intro x y v hv h
    have hl : ∀ {l m : List AV} {c : Array Value}, l.length = c.size → (∀ (j : Nat) (x : AV) (v : Value), l[j]? = some x → c[j]? = some v → VR ρ Φ x v) → resl (res σ n d) l = some m →
        m.length = c.size ∧ ∀ (j : Nat) (x : AV) (v : Value), m[j]? = some x → c[j]? = some v → VR ρ Φ' x v := fun {l m c} h1 h2 h3 => by
      obtain ⟨g1, g2⟩ := resl_get h3
      refine ⟨by omega, fun j y v hy hv => ?_⟩
      obtain ⟨x, hx, hxy⟩ := g2 j y hy
      exact ih x y v (h2 j x v hx hv) hxy
    cases hv with
    | bool b => cases h; exact .bool b
    | int k n => cases h; exact .int k n
    | str s => cases h; exact .str s
    | nilp => cases h; exact .nilp
    | nils => cases h; exact .nils
    | nilm => cases h; exact .nilm
    | nilf => cases h; exact .nilf
    | niliface => cases h; exact .niliface
    | ptr off hi =>
      rename_i i L
      simp only [res] at h
      split at h
      · cases h; exact .ptr off hi
      · rename_i hb
        have hni : n ≤ i := by
          rcases Nat.lt_or_ge i n with hh | hh
          · rw [(blt_iff i n).mpr hh] at hb; cases hb
          · exact hh
        split at h
        · rename_i z l hg
          split at h
          · rename_i m hm
            cases h
            obtain ⟨M, hM, hO⟩ := hR.heap i _ hg
            rw [hi] at hM; cases hM
            obtain ⟨h0, c, T, fr, hw, h2, h3, h4, h5⟩ := hO
            obtain ⟨g1, g2⟩ := resl_get hm
            refine .fp off (hnew i z l L c T fr hni hg hi hw) (by rw [g1]; exact h3) fun j y v hy hv => ?_
            obtain ⟨x, hx, hxy⟩ := g2 j y hy
            exact ih x y v (h4 j x v hx hv) hxy
          · cases h
        · cases h
    | fp off hb hlen hvv =>
      simp only [res] at h
      split at h
      · rename_i m hm
        cases h
        obtain ⟨g1, g2⟩ := resl_get hm
        refine .fp off (hΦ _ _ hb) (by rw [g1]; exact hlen) fun j y v hy hv => ?_
        obtain ⟨x, hx, hxy⟩ := g2 j y hy
        exact ih x y v (hvv j x v hx hv) hxy
      · cases h
    | sl off hi hc hm =>
      rename_i i len cap L
      simp only [res] at h
      split at h
      · cases h; exact .sl off hi hc hm
      · rename_i hb
        have hni : n ≤ i := by
          rcases Nat.lt_or_ge i n with hh | hh
          · rw [(blt_iff i n).mpr hh] at hb; cases hb
          · exact hh
        split at h
        · cases h; exact .fs0 _ _
        · rename_i len'
          split at h
          · rename_i z l hg
            split at h
            · rename_i m hle hres
              cases h
              obtain ⟨M, hM, hO⟩ := hR.heap i _ hg
              rw [hi] at hM; cases hM
              obtain ⟨h0, c, T, fr, hw, h2, h3, h4, h5⟩ := hO
              have hle' : off + (len' + 1) * z ≤ l.length := Nat.le_of_ble_eq_true hle
              obtain ⟨g1, g2⟩ := resl_get hres
              have hml : m.length = (len' + 1) * z := by
                rw [g1, List.length_take, List.length_drop]; omega
              have hrl := rows_length z (len' + 1) m
              have hrg := rows_get z (len' + 1) m (by omega)
              have key : VR ρ Φ' (.fs (rows z (len' + 1) m)) (.slice (some ⟨L.b, L.s + off, none⟩) (rows z (len' + 1) m).length cap) := by
                refine .fs (z := z) (c := c) (hnew i z l L c T fr hni hg hi hw) (by rw [hrl]; exact hc) (fun x hx => ?_) (by rw [hrl]; omega) fun a x j y v hx hy hv => ?_
                · obtain ⟨a, ha⟩ := List.mem_iff_getElem?.mp hx
                  exact (hrg a x ha).1
                · have h6 := (hrg a x hx).2 j y hy
                  obtain ⟨x0, hx0, hxy⟩ := g2 _ y h6
                  rw [List.getElem?_take] at hx0
                  split at hx0
                  · rw [List.getElem?_drop] at hx0
                    refine ih x0 y v (h4 _ x0 v hx0 ?_) hxy
                    rw [← hv]; congr 1; omega
                  · cases hx0
              rw [hrl] at key
              exact key
            · cases h
          · cases h
    | sl0 i off a =>
      simp only [res] at h
      split at h
      · cases h; exact .sl0 _ _ _
      · cases h; exact .fs0 _ _
    | fs0 a cap => simp only [res, resll] at h; cases h; exact .fs0 _ _
    | fs hb hc hz hlen hvv =>
      rename_i b s z cap c els
      simp only [res] at h
      split at h
      · rename_i m hm
        cases h
        obtain ⟨g1, g2⟩ := resll_get hm
        have key : VR ρ Φ' (.fs m) (.slice (some ⟨b, s, none⟩) m.length cap) := by
          refine .fs (z := z) (c := c) (hΦ _ _ hb) (by rw [g1]; exact hc) (fun x hx => ?_) (by rw [g1]; exact hlen) fun a x j y v hx hy hv => ?_
          · obtain ⟨a, ha⟩ := List.mem_iff_getElem?.mp hx
            obtain ⟨x0, hx0, hr⟩ := g2 a x ha
            rw [(resl_get hr).1]
            exact hz x0 (List.mem_of_getElem? hx0)
          · obtain ⟨x0, hx0, hr⟩ := g2 a x hx
            obtain ⟨y0, hy0, hyy⟩ := (resl_get hr).2 j y hy
            exact ih y0 y v (hvv a x0 j y0 v hx0 hy0 hv) hyy
        rw [g1] at key
        exact key
      · cases h
    | map hi =>
      simp only [res] at h
      split at h
      · cases h; exact .map hi
      · cases h
    | fn h1 h2 hv1 hv2 =>
      simp only [res] at h
      split at h
      · rename_i l' m' hl' hm'
        cases h
        exact .fn (hl h1 hv1 hl').1 (hl h2 hv2 hm').1 (hl h1 hv1 hl').2 (hl h2 hv2 hm').2
      · cases h
    | iface hx =>
      simp only [res] at h
      split at h
      · rename_i y hy
        cases h
        exact .iface (ih _ _ _ hx hy)
      · cases h
    | agg h1 h2 =>
      simp only [res] at h
      split at h
      · rename_i m hm
        cases h
        exact .agg (hl h1 h2 hm).1 (hl h1 h2 hm).2
      · cases h
    | tup h1 h2 =>
      simp only [res] at h
      split at h
      · rename_i m hm
        cases h
        exact .tup (hl h1 h2 hm).1 (hl h1 h2 hm).2
      · cases h

/-- All that is younger than n is frozen. -/
theorem freeze_all {ρ₀ ρ : Ren} {Φ₀ Φ : Frz} {σ₀ σ : Heap} {w₀ w : World} {n' : Nat} (n : Nat) (hR : Rel ρ Φ σ n' w) (hS : Step ρ₀ Φ₀ σ₀ w₀ ρ Φ σ w) :
    ∃ Φ', Rel ρ Φ' (hlow n σ) n' w ∧ Step ρ₀ Φ₀ σ₀ w₀ ρ Φ' (hlow n σ) w ∧ ∀ (d : Nat) (x y : AV) (v : Value), VR ρ Φ x v → res σ n d x = some y → VR ρ Φ' y v := by
  classical
  let S : Nat → Prop := fun b => ∃ i o L, n ≤ i ∧ hget σ i = some o ∧ ρ i = some L ∧ L.b = b
  let Φ' : Frz := fun b => if S b then (match w.heap[b]? with | some (.cells c _ _) => some c | _ => none) else Φ b
  have hsub : ∀ i o, hget (hlow n σ) i = some o → i < n ∧ hget σ i = some o := fun i o h => by
    rw [hget_hlow] at h
    split at h
    · rename_i hi; exact ⟨hi, h⟩
    · cases h
  have hΦ : ∀ b c, Φ b = some c → Φ' b = some c := fun b c h => by
    show (if S b then _ else Φ b) = some c
    rw [if_neg]
    · exact h
    · rintro ⟨i, o, L, _, h1, h2, h3⟩
      have := hR.dis i o L h1 h2
      rw [h3, h] at this
      cases this
  have hnew : ∀ i z l L c T fr, n ≤ i → hget σ i = some (.cells z l) → ρ i = some L → w.heap[L.b]? = some (.cells c T fr) → Φ' L.b = some c := fun i z l L c T fr h1 h2 h3 h4 => by
    show (if S L.b then _ else Φ L.b) = some c
    rw [if_pos ⟨i, _, L, h1, h2, h3, rfl⟩, h4]
  refine ⟨Φ', ⟨?_, ?_, ?_, ?_, hR.low⟩, ⟨⟨hS.ren, fun b c h => hΦ b c (hS.frz b c h), hS.os, hS.tape, hS.output, hS.size, hS.frame, ?_, ?_⟩, hS.keep⟩, res_sound hR hΦ hnew⟩
  · intro i o h
    obtain ⟨L, h1, h2⟩ := hR.heap i o (hsub i o h).2
    exact ⟨L, h1, h2.mono (fun _ _ h => h) hΦ rfl⟩
  · intro i j o p L M h1 h2
    exact hR.inj i j o p L M (hsub i o h1).2 (hsub j p h2).2
  · intro i o L h1 h2
    obtain ⟨hi, hg⟩ := hsub i o h1
    show (if S L.b then _ else Φ L.b) = none
    rw [if_neg]
    · exact hR.dis i o L hg h2
    · rintro ⟨j, p, M, g1, g2, g3, g4⟩
      have := hR.inj j i p o M L g2 hg g3 h2 g4
      omega
  · intro b c h
    have h : (if S b then (match w.heap[b]? with | some (.cells c _ _) => some c | _ => none) else Φ b) = some c := h
    split at h
    · split at h
      · rename_i c' T fr hw
        cases h
        exact ⟨T, fr, hw⟩
      · cases h
    · exact hR.frz b c h
  · rintro b ⟨i, o, L, h1, h2, h3⟩
    exact hS.own b ⟨i, o, L, (hsub i o h1).2, h2, h3⟩
  · intro b c h
    have h : (if S b then (match w.heap[b]? with | some (.cells c _ _) => some c | _ => none) else Φ b) = some c := h
    split at h
    · rename_i hs
      obtain ⟨i, o, L, _, h1, h2, h3⟩ := hs
      exact .inr (hS.own b ⟨i, o, L, h1, h2, h3⟩)
    · exact hS.ownF b c h

/-- How a function hands back: 0: all its memory is kept · 1: what is new is dropped · else: it is frozen. -/
def finish (md n : Nat) : Option (AV × Heap × Nat) → Option (AV × Heap × Nat)
  | none => none
  | some (v, σ', n') => match md with
    | 0 => some (v, σ', n')
    | 1 => some (v, hlow n σ', n')
    | _ => match res σ' n 40 v with
      | some y => some (y, hlow n σ', n')
      | none => none

theorem ACalls.finish {f : FuncId} {args : List AV} {σ : Heap} {n : Nat} {v : AV} {σ' : Heap} {n' : Nat} (h : ACalls P C.G f args σ n (fun x s m => x = v ∧ s = σ' ∧ m = n')) {md k : Nat} {y : AV} {σ'' : Heap} {n'' : Nat}
    (hf : finish md k (some (v, σ', n')) = some (y, σ'', n'')) : ACalls P C.G f args σ n (fun x s m => x = y ∧ s = σ'' ∧ m = n'') := by
  intro ρ Φ w cargs hR hg hc
  refine (h ρ Φ w cargs hR hg hc).mono fun x w' ⟨u, s, m, ρ', Φ', cv, h1, ⟨h2, h3, h4⟩, h5, h6, h7⟩ => ?_
  subst h2; subst h3; subst h4
  unfold Ma.finish at hf
  split at hf
  · cases hf
  · rename_i v0 σ0 n0' heq
    cases heq
    split at hf
    · cases hf
      exact ⟨_, _, _, ρ', Φ', cv, h1, ⟨rfl, rfl, rfl⟩, h5, h6, h7⟩
    · cases hf
      have hsub : ∀ i o, hget (hlow k s) i = some o → hget s i = some o := fun i o h => by
        rw [hget_hlow] at h
        split at h
        · exact h
        · cases h
      refine ⟨_, _, _, ρ', Φ', cv, h1, ⟨rfl, rfl, rfl⟩, h5, h6.sub hsub, ⟨⟨h7.ren, h7.frz, h7.os, h7.tape, h7.output, h7.size, h7.frame, ?_, h7.ownF⟩, h7.keep⟩⟩
      rintro b ⟨i, o, L, g1, g2, g3⟩
      exact h7.own b ⟨i, o, L, hsub i o g1, g2, g3⟩
    · split at hf
      · rename_i y0 hy0
        cases hf
        obtain ⟨Φ'', g1, g2, g3⟩ := freeze_all k h6 h7
        exact ⟨_, _, _, ρ', Φ'', cv, h1, ⟨rfl, rfl, rfl⟩, g3 _ _ _ _ h5 hy0, g1, g2⟩
      · cases hf

/-! ### Functions -/

def tr0 : List AV → Nat → Tr → Tr
  | [], _, T => T
  | x :: l, i, T => tr0 l (i + 1) (tput x (pathOf i) T)

theorem tr0_get : ∀ (l : List AV) (i : Nat) (T : Tr) (t : Nat), i + l.length ≤ 4096 → t < 4096 → tget (pathOf t) (tr0 l i T) = if i ≤ t ∧ t < i + l.length then l[t - i]? else tget (pathOf t) T := by
  intro l
  induction l with
  | nil => intro i T t _ _; simp [tr0]; omega
  | cons x l ih =>
    intro i T t hl ht
    simp only [List.length_cons] at hl
    simp only [tr0]
    rw [ih (i + 1) _ t (by omega) ht, tget_tput]
    by_cases hit : i = t
    · subst hit
      rw [if_neg (by omega), if_pos rfl, if_pos (by simp)]
      simp
    · by_cases h2 : i + 1 ≤ t ∧ t < i + 1 + l.length
      · rw [if_pos h2, if_pos (by simp; omega)]
        rw [show t - i = (t - (i + 1)) + 1 by omega]
        simp
      · rw [if_neg h2, if_neg (fun hh => hit (pathOf_inj (by omega) ht hh)), if_neg (by simp; omega)]

theorem env0_get' : ∀ (l : List AV) (i t : Nat), eget (env0 l i) t = if i ≤ t ∧ t < i + l.length then l[t - i]? else none := by
  intro l
  induction l with
  | nil => intro i t; simp [env0, eget]
  | cons x l ih =>
    intro i t
    simp only [env0, eget, ih, List.length_cons]
    by_cases hit : i = t
    · subst hit; simp
    · rw [if_neg hit]
      by_cases h2 : i + 1 ≤ t ∧ t < i + 1 + l.length
      · rw [if_pos h2, if_pos (by omega), show t - i = (t - (i + 1)) + 1 by omega]; simp
      · rw [if_neg h2, if_neg (by omega)]

theorem Repr.args {l : List AV} (hl : l.length ≤ N) (hN : N ≤ 4096) : Repr N (env0 l 0) (tr0 l 0 .leaf) := by
  intro t ht
  rw [env0_get', tr0_get l 0 .leaf t (by omega) (by omega), tget_leaf]

def resTs : List ResultVar → List Nat
  | [] => []
  | .tmp t :: l => t :: resTs l
  | .cell t _ :: l => t :: resTs l

theorem aresults_env {TT : Types} {e e' : Env} {σ : Heap} (he : ∀ t x, eget e' t = some x → eget e t = some x) : ∀ {rs : List ResultVar} {l : List AV}, aresults TT e' σ rs = some l → aresults TT e σ rs = some l := by
  intro rs
  induction rs with
  | nil => intro l h; exact h
  | cons r rs ih =>
    intro l h
    simp only [aresults] at h ⊢
    split at h
    · rename_i v m hv hm
      cases h
      have : aresult TT e σ r = some v := by
        cases r with
        | tmp t => exact he t v hv
        | cell a t =>
          simp only [aresult] at hv ⊢
          split at hv
          · rename_i p hp
            rw [he a p hp]
            exact hv
          · cases hv
      rw [this, ih hm]
    · cases h

structure CF where
  run : CallT → List AV → Heap → Nat → Option (AV × Heap × Nat)

def cfun (C : Ctx) (lf : Nat) (fn : Func) (c : Code) : CF :=
  match Nat.ble fn.ntmps 4096 with
  | true => ⟨fun call args σ n => match Nat.ble args.length fn.ntmps with
    | true => (match (ccode C fn.ntmps lf c).run call (tr0 args 0 .leaf) σ n with
      | some ⟨.exit _, _, _, _⟩ => none
      | some ⟨_, T, σ', n'⟩ => (match aresults C.TT (envOf fn.ntmps T (resTs fn.results.toList)) σ' fn.results.toList with
        | some l => some (apack l, σ', n')
        | none => none)
      | none => none)
    | false => none⟩
  | false => ⟨fun _ _ _ _ => none⟩

theorem cfun_sound (hC : CtxOk P C) {call : CallT} (hc : CallOk P C call) {lf : Nat} {f : FuncId} {fn : Func} {c : Code} (hf : FnOk P f fn c) {args : List AV} {σ σ' : Heap} {n n' : Nat} {v : AV}
    (h : (cfun C lf fn c).run call args σ n = some (v, σ', n')) : ACalls P C.G f args σ n (fun x s m => x = v ∧ s = σ' ∧ m = n') := by
  unfold cfun at h
  split at h
  · rename_i hN
    have hN := Nat.le_of_ble_eq_true hN
    simp only at h
    split at h
    · rename_i hle
      have hle := Nat.le_of_ble_eq_true hle
      split at h
      · cases h
      · rename_i x T σ₁ n₁ hne hrun
        split at h
        · rename_i l hl
          cases h
          refine ACalls.body hC.tt hf rfl hle (ccode_sound hC hN hc c _ _ _ _ hrun _ (Repr.args hle hN) _ fun e' he' => ?_)
          have hres : aresults C.TT e' σ' fn.results.toList = some l := aresults_env (fun t x hx => (envOf_get he' hx).2) hl
          cases x with
          | exit i => exact absurd rfl (hne i)
          | normal => exact ⟨l, hres, rfl, rfl, rfl⟩
          | ret => exact ⟨l, hres, rfl, rfl, rfl⟩
        · cases h
      · cases h
    · cases h
  · cases h

/-- A call with so much fuel: what is known of it (base), or its body's run. -/
def acall (C : Ctx) (fns : Nat → Option CF) (base : CallT) : Nat → CallT
  | 0, f, args, σ, n => base f args σ n
  | k + 1, f, args, σ, n => match base f args σ n with
    | some r => some r
    | none => match fns f with
      | some fn => (match Nat.beq (C.md f) 2, args.all (free 40) with
        | true, true => (match finish 2 0 (fn.run (acall C fns base k) args [] 0) with
          | some (y, _, _) => (match free 40 y with
            | true => some (y, σ, n)
            | false => none)
          | none => none)
        | _, _ => finish (C.md f) n (fn.run (acall C fns base k) args σ n))
      | none => none

theorem acall_sound (hC : CtxOk P C) {lf : Nat} {fns : Nat → Option CF} (hfns : ∀ f cf, fns f = some cf → ∃ fn c, FnOk P f fn c ∧ cf = cfun C lf fn c) {base : CallT} (hb : CallOk P C base) :
    ∀ k, CallOk P C (acall C fns base k) := by
  intro k
  induction k with
  | zero => exact hb
  | succ k ih =>
    intro f args σ n v σ' n' h
    simp only [acall] at h
    split at h
    · rename_i r hr
      cases h
      exact hb _ _ _ _ _ _ _ hr
    · split at h
      · rename_i cf hcf
        obtain ⟨fn, c, hf, rfl⟩ := hfns f cf hcf
        refine ⟨⟨fn, c, hf⟩, ?_⟩
        split at h
        · rename_i hm ha
          split at h
          · rename_i y s m hfin
            split at h
            · rename_i hfree
              cases h
              cases hrun : (cfun C lf fn c).run (acall C fns base k) args [] 0 with
              | none => rw [hrun] at hfin; simp [finish] at hfin
              | some r =>
                obtain ⟨v0, σ0, n0'⟩ := r
                rw [hrun] at hfin
                have := (cfun_sound hC ih hf hrun).finish hfin
                exact ACalls.pureCall (this.mono fun x s m ⟨h1, _, _⟩ => h1) ha hfree _ _
            · cases h
          · cases h
        · cases hrun : (cfun C lf fn c).run (acall C fns base k) args σ n with
          | none => rw [hrun] at h; simp [finish] at h
          | some r =>
            obtain ⟨v0, σ0, n0'⟩ := r
            rw [hrun] at h
            exact (cfun_sound hC ih hf hrun).finish h
      · cases h

/-- Nothing is known. -/
def noBase : CallT := fun _ _ _ _ => none

theorem noBase_ok : CallOk P C noBase := fun f args σ n v σ' n' h => (by cases h)

/-- What one or the other knows. -/
def orBase (a b : CallT) : CallT := fun f args σ n => match a f args σ n with
  | some r => some r
  | none => b f args σ n

theorem orBase_ok {a b : CallT} (ha : CallOk P C a) (hb : CallOk P C b) : CallOk P C (orBase a b) := fun f args σ n v σ' n' h => by
  simp only [orBase] at h
  split at h
  · rename_i r hr; cases h; exact ha _ _ _ _ _ _ _ hr
  · exact hb _ _ _ _ _ _ _ h
end
end Go.Ma
