/- A region carried out by an executable function; small rules that a walk applies. -/
import Derived.Test.YtakafhbabgpecaaGreatDoorMaWp
namespace Go.Ma
section
variable {P : Program} {TT : Types} {G : Globals} {N n0 : Nat}

/-- One operation that is no call. -/
def aone (TT : Types) (G : Globals) (e : Env) (σ : Heap) (n : Nat) (o : Oper) : Option (AV × Heap × Nat) :=
  match amem TT G e σ n o with
  | some r => some r
  | none => match apure TT G e σ o with
    | some v => some (v, σ, n)
    | none => none

theorem OpOk.one (hT : TOk P TT) {o : Oper} {e : Env} {σ σ' : Heap} {n n' : Nat} {y : AV} {Q : AV → Heap → Nat → Prop} (h : aone TT G e σ n o = some (y, σ', n')) (hq : Q y σ' n') : OpOk P G o e σ n Q := by
  unfold aone at h
  split at h
  · rename_i r hr
    cases h
    exact OpOk.mem hT hr hq
  · split at h
    · rename_i v hv
      cases h
      exact OpOk.pure hT hv hq
    · cases h

/-- The operations of a region from a list on, as far as none is a call. -/
def arun (TT : Types) (G : Globals) (N : Nat) (ops : Array Oper) : List Oper → Env → Heap → Nat → Option (Env × Heap × Nat)
  | [], e, σ, n => some (e, σ, n)
  | o :: l, e, σ, n => match aguard ops e o, dstOk N o with
    | some true, true => match aone TT G e σ n o with
      | some (v, σ', n') => arun TT G N ops l (eput e o.dst v) σ' n'
      | none => none
    | some false, true => arun TT G N ops l (eput e o.dst (.tup [])) σ n
    | _, _ => none

theorem arun_sound (hT : TOk P TT) {ops : Array Oper} {Q : Exit → Env → Heap → Nat → Prop} : ∀ (l : List Oper) (k : Nat) (e : Env) (σ : Heap) (n : Nat) (e' : Env) (σ' : Heap) (n' : Nat) (rest : List Nat), (∀ (j : Nat) (o : Oper), l[j]? = some o → ops[k + j]? = some o) →
    arun TT G N ops l e σ n = some (e', σ', n') → AOps P G N n0 ops rest Q e' σ' n' → AOps P G N n0 ops (List.range' k l.length ++ rest) Q e σ n := by
  intro l
  induction l with
  | nil =>
    intro k e σ n e' σ' n' rest _ h hq
    simp only [arun, Option.some.injEq, Prod.mk.injEq] at h
    obtain ⟨rfl, rfl, rfl⟩ := h
    simpa using hq
  | cons o l ih =>
    intro k e σ n e' σ' n' rest hops h hq
    have ho : ops[k]? = some o := hops 0 o rfl
    have hops' : ∀ (j : Nat) (o : Oper), l[j]? = some o → ops[k + 1 + j]? = some o := fun j p hp => by
      rw [show k + 1 + j = k + (j + 1) by omega]; exact hops (j + 1) p (by simpa using hp)
    simp only [arun] at h
    rw [List.length_cons, List.range'_succ, List.cons_append]
    split at h
    · rename_i hg hd
      split at h
      · rename_i v σ₁ n₁ hone
        exact AOps.op ho hg hd (OpOk.one hT hone (ih (k + 1) _ _ _ _ _ _ rest hops' h hq))
      · cases h
    · rename_i hg hd
      exact AOps.skipped ho hg hd (ih (k + 1) _ _ _ _ _ _ rest hops' h hq)
    · cases h

/-- What is kept of the temporaries. -/
def keep (e : Env) : List Nat → Option Env
  | [] => some []
  | t :: l => match eget e t, keep e l with
    | some x, some r => some ((t, x) :: r)
    | _, _ => none

theorem keep_sound {e : Env} : ∀ {l : List Nat} {e' : Env}, keep e l = some e' → ∀ t x, eget e' t = some x → eget e t = some x := by
  intro l
  induction l with
  | nil => intro e' h t x hx; simp only [keep, Option.some.injEq] at h; subst h; simp [eget] at hx
  | cons a l ih =>
    intro e' h t x hx
    simp only [keep] at h
    split at h
    · rename_i y r hy hr
      cases h
      simp only [eget] at hx
      by_cases hat : a = t
      · subst hat
        simp only [if_true, Option.some.injEq] at hx
        subst hx
        exact hy
      · rw [if_neg hat] at hx
        exact ih hr t x hx
    · cases h

theorem AOps.env {ops : Array Oper} {l : List Nat} {Q : Exit → Env → Heap → Nat → Prop} {e e' : Env} {σ : Heap} {n : Nat} (h : AOps P G N n0 ops l Q e' σ n) (he : ∀ t x, eget e' t = some x → eget e t = some x) : AOps P G N n0 ops l Q e σ n :=
  fun ρ Φ w ca hR hg hE hN hd => h ρ Φ w ca hR hg (fun t x hx => hE t x (he t x hx)) hN hd

/-- A region without calls. -/
theorem AWp.run (hT : TOk P TT) {id : Nat} {ops : Array Oper} {Q : Exit → Env → Heap → Nat → Prop} {e e' : Env} {σ σ' : Heap} {n n' : Nat} (h : arun TT G N ops ops.toList e σ n = some (e', σ', n')) (hq : Q .normal e' σ' n') :
    AWp P G N n0 (.region id ops false) Q e σ n := by
  refine AWp.region ?_
  have := arun_sound (P := P) (n0 := n0) hT (Q := Q) ops.toList 0 e σ n e' σ' n' [] (fun j o ho => by simpa using ho) h (AOps.nil hq)
  simpa [List.range_eq_range'] using this
end
end Go.Ma
