/- Judgements on regions, code and calls; their rules. -/
import Derived.Test.YtakafhbabgpecaaGreatDoorMaStep
namespace Go.Ma

section
variable {P : Program} {TT : Types} {G : Globals} {N n0 : Nat}

/-- Behind a step: what holds of the new state. -/
def Post (P : Program) (N n0 : Nat) (ρ : Ren) (Φ : Frz) (σ : Heap) (w : World) (Q : Exit → Env → Heap → Nat → Prop) : Exit → Act → World → Prop := fun x ca w' =>
  ∃ e' σ' n' ρ' Φ', Q x e' σ' n' ∧ EnvR ρ' Φ' e' ca.tmps ∧ ca.tmps.size = N ∧ ca.defers = [] ∧ Rel ρ' Φ' σ' n' w' ∧ StepN n0 ρ Φ σ w ρ' Φ' σ' w'

theorem Post.mono {ρ : Ren} {Φ : Frz} {σ : Heap} {w : World} {Q Q' : Exit → Env → Heap → Nat → Prop} (hq : ∀ x e σ n, Q x e σ n → Q' x e σ n) {x : Exit} {ca : Act} {w' : World} (h : Post P N n0 ρ Φ σ w Q x ca w') : Post P N n0 ρ Φ σ w Q' x ca w' :=
  let ⟨e, σ', n', ρ', Φ', q, r⟩ := h; ⟨e, σ', n', ρ', Φ', hq _ _ _ _ q, r⟩

theorem Post.step {ρ ρ₁ : Ren} {Φ Φ₁ : Frz} {σ σ₁ : Heap} {w w₁ : World} (hs : StepN n0 ρ Φ σ w ρ₁ Φ₁ σ₁ w₁) {Q : Exit → Env → Heap → Nat → Prop} {x : Exit} {ca : Act} {w' : World} (h : Post P N n0 ρ₁ Φ₁ σ₁ w₁ Q x ca w') : Post P N n0 ρ Φ σ w Q x ca w' :=
  let ⟨e, σ', n', ρ', Φ', q, h1, h2, h3, h4, h5⟩ := h; ⟨e, σ', n', ρ', Φ', q, h1, h2, h3, h4, hs.trans h5⟩

def AOps (P : Program) (G : Globals) (N n0 : Nat) (ops : Array Oper) (l : List Nat) (Q : Exit → Env → Heap → Nat → Prop) (e : Env) (σ : Heap) (n : Nat) : Prop :=
  ∀ (ρ : Ren) (Φ : Frz) (w : World) (ca : Act), Rel ρ Φ σ n w → GR Φ G → EnvR ρ Φ e ca.tmps → ca.tmps.size = N → ca.defers = [] → wpOps P ops (Post P N n0 ρ Φ σ w Q) l ca w

def AWp (P : Program) (G : Globals) (N n0 : Nat) (c : Code) (Q : Exit → Env → Heap → Nat → Prop) (e : Env) (σ : Heap) (n : Nat) : Prop :=
  ∀ (ρ : Ren) (Φ : Frz) (w : World) (ca : Act), Rel ρ Φ σ n w → GR Φ G → EnvR ρ Φ e ca.tmps → ca.tmps.size = N → ca.defers = [] → c.wp P (Post P N n0 ρ Φ σ w Q) ca w

def ACalls (P : Program) (G : Globals) (f : FuncId) (args : List AV) (σ : Heap) (n : Nat) (Q : AV → Heap → Nat → Prop) : Prop :=
  ∀ (ρ : Ren) (Φ : Frz) (w : World) (cargs : Array Value), Rel ρ Φ σ n w → GR Φ G → CR ρ Φ args cargs →
    Calls P f cargs w fun x w' => ∃ v σ' n' ρ' Φ' cv, x = .returned cv ∧ Q v σ' n' ∧ VR ρ' Φ' v cv ∧ Rel ρ' Φ' σ' n' w' ∧ Step ρ Φ σ w ρ' Φ' σ' w'

theorem ACalls.mono {f : FuncId} {args : List AV} {σ : Heap} {n : Nat} {Q Q' : AV → Heap → Nat → Prop} (h : ACalls P G f args σ n Q) (hq : ∀ v σ' n', Q v σ' n' → Q' v σ' n') : ACalls P G f args σ n Q' :=
  fun ρ Φ w cargs hR hg hc => (h ρ Φ w cargs hR hg hc).mono fun x w' ⟨v, σ', n', ρ', Φ', cv, h1, h2, h3⟩ => ⟨v, σ', n', ρ', Φ', cv, h1, hq _ _ _ h2, h3⟩

theorem AWp.mono {c : Code} {Q Q' : Exit → Env → Heap → Nat → Prop} {e : Env} {σ : Heap} {n : Nat} (h : AWp P G N n0 c Q e σ n) (hq : ∀ x e σ n, Q x e σ n → Q' x e σ n) : AWp P G N n0 c Q' e σ n :=
  fun ρ Φ w ca hR hg he hN hd => wp_mono (h ρ Φ w ca hR hg he hN hd) fun _ _ _ hp => Post.mono hq hp

/-- Less may be known of the temporaries. -/
theorem AWp.env {c : Code} {Q : Exit → Env → Heap → Nat → Prop} {e e' : Env} {σ : Heap} {n : Nat} (h : AWp P G N n0 c Q e' σ n) (he : ∀ t x, eget e' t = some x → eget e t = some x) : AWp P G N n0 c Q e σ n :=
  fun ρ Φ w ca hR hg hE hN hd => h ρ Φ w ca hR hg (fun t x hx => hE t x (he t x hx)) hN hd

theorem AWp.skip {Q : Exit → Env → Heap → Nat → Prop} {e : Env} {σ : Heap} {n : Nat} (h : Q .normal e σ n) : AWp P G N n0 .skip Q e σ n :=
  fun ρ Φ w ca hR _ he hN hd => wp_skip ⟨e, σ, n, ρ, Φ, h, he, hN, hd, hR, StepN.refl _ _ _ _ _⟩

theorem AWp.exit {i : Nat} {Q : Exit → Env → Heap → Nat → Prop} {e : Env} {σ : Heap} {n : Nat} (h : Q (.exit i) e σ n) : AWp P G N n0 (.exit i) Q e σ n :=
  fun ρ Φ w ca hR _ he hN hd => wp_exit ⟨e, σ, n, ρ, Φ, h, he, hN, hd, hR, StepN.refl _ _ _ _ _⟩

theorem AWp.ret {Q : Exit → Env → Heap → Nat → Prop} {e : Env} {σ : Heap} {n : Nat} (h : Q .ret e σ n) : AWp P G N n0 .ret Q e σ n :=
  fun ρ Φ w ca hR _ he hN hd => wp_ret ⟨e, σ, n, ρ, Φ, h, he, hN, hd, hR, StepN.refl _ _ _ _ _⟩

/-- Behind the first part of a sequence. -/
def thenQ (next : Env → Heap → Nat → Prop) (Q : Exit → Env → Heap → Nat → Prop) : Exit → Env → Heap → Nat → Prop
  | .normal, e, σ, n => next e σ n
  | x, e, σ, n => Q x e σ n

theorem AWp.seq {a b : Code} {Q : Exit → Env → Heap → Nat → Prop} {e : Env} {σ : Heap} {n : Nat} (h : AWp P G N n0 a (thenQ (AWp P G N n0 b Q) Q) e σ n) : AWp P G N n0 (.seq a b) Q e σ n := by
  intro ρ Φ w ca hR hg he hN hd
  refine wp_seq (wp_mono (h ρ Φ w ca hR hg he hN hd) fun x ca' w' hp => ?_)
  obtain ⟨e', σ', n', ρ', Φ', hq, h1, h2, h3, h4, h5⟩ := hp
  cases x with
  | normal =>
    exact wp_mono (hq ρ' Φ' w' ca' h4 (hg.mono h5.frz) h1 h2 h3) fun _ _ _ hp => Post.step h5 hp
  | _ => exact ⟨e', σ', n', ρ', Φ', hq, h1, h2, h3, h4, h5⟩

/-- A test that is known. -/
theorem AWp.cond {c : Operand} {a b : Code} {t : Bool} {Q : Exit → Env → Heap → Nat → Prop} {e : Env} {σ : Heap} {n : Nat} (hc : aeval G e c = some (.bool t)) (h : AWp P G N n0 (if t then a else b) Q e σ n) :
    AWp P G N n0 (.cond c a b) Q e σ n := by
  intro ρ Φ w ca hR hg he hN hd
  have hv := aeval_sound hg he hc
  generalize hq : ca.eval c = q at hv
  cases hv
  exact wp_cond hq (h ρ Φ w ca hR hg he hN hd)

/-- A test that is not known: both ways. -/
theorem AWp.split {c : Operand} {a b : Code} {t : Bool} {Q : Exit → Env → Heap → Nat → Prop} {e : Env} {σ : Heap} {n : Nat} (hc : aeval G e c = some (.bool t)) (h1 : t = true → AWp P G N n0 a Q e σ n) (h2 : t = false → AWp P G N n0 b Q e σ n) :
    AWp P G N n0 (.cond c a b) Q e σ n := by
  refine AWp.cond hc ?_
  cases t
  · exact h2 rfl
  · exact h1 rfl

def blockQ (i : Nat) (Q : Exit → Env → Heap → Nat → Prop) : Exit → Env → Heap → Nat → Prop
  | .exit j, e, σ, n => if j = i then Q .normal e σ n else Q (.exit j) e σ n
  | x, e, σ, n => Q x e σ n

theorem AWp.block {i : Nat} {c : Code} {Q : Exit → Env → Heap → Nat → Prop} {e : Env} {σ : Heap} {n : Nat} (h : AWp P G N n0 c (blockQ i Q) e σ n) : AWp P G N n0 (.block i c) Q e σ n := by
  intro ρ Φ w ca hR hg he hN hd
  refine wp_block (wp_mono (h ρ Φ w ca hR hg he hN hd) fun x ca' w' hp => ?_)
  obtain ⟨e', σ', n', ρ', Φ', hq, hr⟩ := hp
  cases x with
  | exit j =>
    simp only [Exit.inBlock]
    simp only [blockQ] at hq
    split
    · rename_i hj
      rw [if_pos hj] at hq
      exact ⟨e', σ', n', ρ', Φ', hq, hr⟩
    · rename_i hj
      rw [if_neg hj] at hq
      exact ⟨e', σ', n', ρ', Φ', hq, hr⟩
  | _ => exact ⟨e', σ', n', ρ', Φ', hq, hr⟩

/-- A loop: what holds at each round's head, and a measure that a round lowers. -/
theorem AWp.loop {c : Code} {Q : Exit → Env → Heap → Nat → Prop} {e : Env} {σ : Heap} {n : Nat} {ι : Type} (I : ι → Env → Heap → Nat → Prop) (μ : ι → Nat) (i0 : ι) (h0 : I i0 e σ n)
    (round : ∀ i e σ n, I i e σ n → AWp P G N n0 c (thenQ (fun e σ n => ∃ j, I j e σ n ∧ μ j < μ i) Q) e σ n) : AWp P G N n0 (.loop c) Q e σ n := by
  intro ρ Φ w ca hR hg he hN hd b kk cs
  have key : ∀ (k : Nat) (i : ι) e σ n (ρ : Ren) (Φ : Frz) (w : World) (ca : Act), μ i = k → I i e σ n → Rel ρ Φ σ n w → GR Φ G → EnvR ρ Φ e ca.tmps → ca.tmps.size = N → ca.defers = [] →
      ∃ x ca' w', Post P N n0 ρ Φ σ w Q x ca' w' ∧ Arrives P (lone (b.at ca (.code c :: .inLoop c :: kk)) cs w) b kk cs x ca' w' := by
    intro k
    induction k using Nat.strongRecOn with
    | _ k ih =>
      intro i e σ n ρ Φ w ca hk hI hR hg he hN hd
      obtain ⟨x, ca', w', hp, harr⟩ := round i e σ n hI ρ Φ w ca hR hg he hN hd b (.inLoop c :: kk) cs
      obtain ⟨e', σ', n', ρ', Φ', hq, h1, h2, h3, h4, h5⟩ := hp
      cases x with
      | normal =>
        obtain ⟨j, hj, hlt⟩ := hq
        obtain ⟨y, ca'', w'', hp2, harr2⟩ := ih (μ j) (by omega) j e' σ' n' ρ' Φ' w' ca' rfl hj h4 (hg.mono h5.frz) h1 h2 h3
        exact ⟨y, ca'', w'', Post.step h5 hp2, .of_steps (Steps.trans harr (.one step_inLoop)) harr2⟩
      | exit i => exact ⟨_, ca', w', ⟨e', σ', n', ρ', Φ', hq, h1, h2, h3, h4, h5⟩, .pass (x := .inLoop c) rfl (fun _ _ => .inl (by simp)) harr⟩
      | goto l => exact ⟨_, ca', w', ⟨e', σ', n', ρ', Φ', hq, h1, h2, h3, h4, h5⟩, .pass (x := .inLoop c) rfl (fun _ _ => .inl (by simp)) harr⟩
      | ret => exact ⟨_, ca', w', ⟨e', σ', n', ρ', Φ', hq, h1, h2, h3, h4, h5⟩, .pass (x := .inLoop c) rfl (fun _ _ => .inl (by simp)) harr⟩
      | panic ch => exact ⟨_, ca', w', ⟨e', σ', n', ρ', Φ', hq, h1, h2, h3, h4, h5⟩, .pass (x := .inLoop c) rfl (fun _ _ => .inl (by simp)) harr⟩
      | outgrown => exact ⟨_, ca', w', ⟨e', σ', n', ρ', Φ', hq, h1, h2, h3, h4, h5⟩, .pass (x := .inLoop c) rfl (fun _ _ => .inl (by simp)) harr⟩
  obtain ⟨x, ca', w', hp, harr⟩ := key _ i0 e σ n ρ Φ w ca rfl h0 hR hg he hN hd
  exact ⟨x, ca', w', hp, .of_steps (.one step_loop) harr⟩

/-! ### Operations of a region -/

/-- Is the operation carried out? -/
def aguard (ops : Array Oper) (e : Env) (o : Oper) : Option Bool :=
  match o.guard with
  | none => some true
  | some (j, want) => match (ops[j]?).bind (·.dst) with
    | some d => match eget e d with
      | some (.bool b) => some (b == want)
      | some (.tup _) => some false
      | _ => none
    | none => none

theorem aguard_sound {ρ : Ren} {Φ : Frz} {ops : Array Oper} {e : Env} {ca : Act} (he : EnvR ρ Φ e ca.tmps) {o : Oper} {b : Bool} (h : aguard ops e o = some b) : Region.wanted o (yielded ops ca.tmps) = b := by
  unfold aguard at h
  unfold Region.wanted
  split at h
  · rename_i hg
    cases h
    simp [hg]
  · rename_i j want hg
    split at h
    · rename_i d hd
      split at h
      · rename_i t ht
        cases h
        obtain ⟨v, h1, h2⟩ := he d _ ht
        cases h2
        simp [hg, yielded, hd, h1]
      · rename_i t ht
        cases h
        obtain ⟨v, h1, h2⟩ := he d _ ht
        cases h2
        simp [hg, yielded, hd, h1]
      · cases h
    · cases h

theorem upon_mono {o : Oper} {a : Act} {K : Act → World → Prop} {Q Q' : Exit → Act → World → Prop} {K' : Act → World → Prop} (hk : ∀ a w, K a w → K' a w) (hq : ∀ x a w, Q x a w → Q' x a w) {r : Result Next} (h : o.upon P a K Q r) :
    o.upon P a K' Q' r := by
  unfold Oper.upon at h ⊢
  split at h
  · exact hk _ _ h
  · exact hk _ _ h
  · exact hk _ _ h
  · refine h.mono fun x w' hx => ?_
    cases x with
    | returned v => exact hk _ _ hx
    | panicked ch => exact hq _ _ _ hx
    | outgrown => obtain ⟨a, w, h⟩ := hx; exact ⟨a, w, hq _ _ _ h⟩
  · exact h.mono fun v w' hv => hk _ _ hv
  · exact hq _ _ _ h
  · exact h.elim

theorem wpOps_mono {ops : Array Oper} {Q Q' : Exit → Act → World → Prop} (hq : ∀ x a w, Q x a w → Q' x a w) : ∀ (l : List Nat) (a : Act) (w : World), wpOps P ops Q l a w → wpOps P ops Q' l a w := by
  intro l
  induction l with
  | nil => intro a w h; exact hq _ _ _ h
  | cons i l ih =>
    intro a w h
    simp only [wpOps] at h ⊢
    cases hi : ops[i]? with
    | none => simp only [hi] at h; exact ih _ _ h
    | some o =>
      simp only [hi] at h
      by_cases hw : Region.wanted o (yielded ops a.tmps) = true
      · rw [if_pos hw] at h
        simp only [if_pos hw]
        rcases h with h | ⟨h1, a', w', h2⟩
        · exact .inl (upon_mono ih hq h)
        · exact .inr ⟨h1, a', w', hq _ _ _ h2⟩
      · rw [if_neg hw] at h
        simp only [if_neg hw]
        exact ih _ _ h

theorem AOps.nil {ops : Array Oper} {Q : Exit → Env → Heap → Nat → Prop} {e : Env} {σ : Heap} {n : Nat} (h : Q .normal e σ n) : AOps P G N n0 ops [] Q e σ n :=
  fun ρ Φ w ca hR _ he hN hd => ⟨e, σ, n, ρ, Φ, h, he, hN, hd, hR, StepN.refl _ _ _ _ _⟩

def dstOk (N : Nat) (o : Oper) : Bool :=
  match o.dst with
  | some d => decide (d < N)
  | none => true

theorem AOps.op {ops : Array Oper} {i : Nat} {l : List Nat} {o : Oper} {Q : Exit → Env → Heap → Nat → Prop} {e : Env} {σ : Heap} {n : Nat} (ho : ops[i]? = some o) (hg : aguard ops e o = some true) (hd : dstOk N o = true)
    (h : OpOk P G o e σ n fun v σ' n' => AOps P G N n0 ops l Q (eput e o.dst v) σ' n') : AOps P G N n0 ops (i :: l) Q e σ n := by
  intro ρ Φ w ca hR hgr he hN hdf
  simp only [wpOps, ho]
  rw [if_pos (aguard_sound he hg)]
  refine .inl (h ρ Φ w ca _ _ hR hgr he fun v σ' n' ρ' Φ' cv w' hq hv hR' hs => ?_)
  have hlt : ∀ t, o.dst = some t → t < ca.tmps.size := fun t ht => by
    rw [dstOk, ht] at hd
    exact Nat.lt_of_lt_of_eq (of_decide_eq_true hd) hN.symm
  have hsz : (ca.put o.dst cv).tmps.size = N := by
    cases o.dst <;> simp [Act.put, hN]
  have hdd : (ca.put o.dst cv).defers = [] := by
    cases o.dst <;> simp [Act.put, hdf]
  exact wpOps_mono (fun _ _ _ hp => Post.step (hs.toN n0) hp) _ _ _ (hq ρ' Φ' w' _ hR' (hgr.mono hs.frz) ((he.mono hs.keep hs.frz).put hv hlt) hsz hdd)

theorem AOps.skipped {ops : Array Oper} {i : Nat} {l : List Nat} {o : Oper} {Q : Exit → Env → Heap → Nat → Prop} {e : Env} {σ : Heap} {n : Nat} (ho : ops[i]? = some o) (hg : aguard ops e o = some false) (hd : dstOk N o = true)
    (h : AOps P G N n0 ops l Q (eput e o.dst (.tup [])) σ n) : AOps P G N n0 ops (i :: l) Q e σ n := by
  intro ρ Φ w ca hR hgr he hN hdf
  simp only [wpOps, ho]
  rw [if_neg (by rw [aguard_sound he hg]; simp)]
  have hlt : ∀ t, o.dst = some t → t < ca.tmps.size := fun t ht => by
    rw [dstOk, ht] at hd
    exact Nat.lt_of_lt_of_eq (of_decide_eq_true hd) hN.symm
  have hsz : (ca.put o.dst undef).tmps.size = N := by
    cases o.dst <;> simp [Act.put, hN]
  have hdd : (ca.put o.dst undef).defers = [] := by
    cases o.dst <;> simp [Act.put, hdf]
  exact h ρ Φ w _ hR hgr (he.put (.tup rfl fun j x v hx => by simp at hx) hlt) hsz hdd

theorem AWp.region {id : Nat} {ops : Array Oper} {Q : Exit → Env → Heap → Nat → Prop} {e : Env} {σ : Heap} {n : Nat} (h : AOps P G N n0 ops (List.range ops.size) Q e σ n) : AWp P G N n0 (.region id ops false) Q e σ n :=
  fun ρ Φ w ca hR hg he hN hd => wp_region (h ρ Φ w ca hR hg he hN hd)

/-! ### Calls -/

structure FnOk (P : Program) (f : FuncId) (fn : Func) (c : Code) : Prop where
  func : P.funcs[f]? = some fn
  body : fn.body = some c
  name : (fn.name == "runtime.NumGoroutine") = false

theorem OpOk.call {o : Oper} {e : Env} {σ : Heap} {n : Nat} {Q : AV → Heap → Nat → Prop} {x : Operand} {args : Array Operand} {ts : Array TypeId} (ho : o.op = .call { callee := .value x, args := args, argTypes := ts })
    {f : FuncId} {l m as : List AV} (hx : aeval G e x = some (.fn f l m)) (ha : aevals G e args.toList = some as) {fn : Func} {c : Code} (hf : FnOk P f fn c) (h : ACalls P G f (l ++ as ++ m) σ n Q) : OpOk P G o e σ n Q := by
  intro ρ Φ w ca K Qx hR hg he hK
  have hvx := aeval_sound hg he hx
  obtain ⟨h1, h2⟩ := aevals_sound hg he ha
  generalize hq : ca.eval x = q at hvx
  cases hvx with
  | fn g1 g2 g3 g4 =>
    rename_i cl cm
    have hrun : (execOp ca.eval o).run P w = .ok (.enter f (cl ++ args.map ca.eval ++ cm)) w := by
      have hn : ¬ fn.name = "runtime.NumGoroutine" := by have := hf.name; simpa using this
      simp [execOp, ho, resolve, hq, Deferred.ofValue, invoke, callFunc, hf.func, hn, hf.body]
    have app : ∀ {l m : List AV} {c d : Array Value}, CR ρ Φ l c → CR ρ Φ m d → CR ρ Φ (l ++ m) (c ++ d) := fun {l m c d} hc hd => by
      refine ⟨by simp [hc.1, hd.1], fun j y u hy hu => ?_⟩
      rcases Nat.lt_or_ge j l.length with hj | hj
      · rw [List.getElem?_append_left hj] at hy
        rw [Array.getElem?_append_left (by rw [← hc.1]; exact hj)] at hu
        exact hc.2 j y u hy hu
      · rw [List.getElem?_append_right hj] at hy
        rw [Array.getElem?_append_right (by rw [← hc.1]; exact hj), ← hc.1] at hu
        exact hd.2 _ y u hy hu
    have hca : CR ρ Φ as (args.map ca.eval) := ⟨by simpa using h1, fun j y u hy hu => h2 j y u hy (by simpa using hu)⟩
    unfold Oper.wp
    rw [hrun, Oper.upon_enter]
    refine (h ρ Φ w _ hR hg (app (app ⟨g1, g3⟩ hca) ⟨g2, g4⟩)).mono fun x' w' hp => ?_
    obtain ⟨v, σ', n', ρ', Φ', cv, rfl, k1, k2, k3, k4⟩ := hp
    exact hK v σ' n' ρ' Φ' cv w' k1 k2 k3 k4

/-- The arguments of a function as it begins. -/
def env0 : List AV → Nat → Env
  | [], _ => []
  | x :: r, i => (i, x) :: env0 r (i + 1)

theorem env0_get : ∀ (l : List AV) (i t : Nat) (x : AV), eget (env0 l i) t = some x → i ≤ t ∧ l[t - i]? = some x := by
  intro l
  induction l with
  | nil => intro i t x h; simp [env0, eget] at h
  | cons y r ih =>
    intro i t x h
    simp only [env0, eget] at h
    by_cases hi : i = t
    · subst hi
      simp only [if_true, Option.some.injEq] at h
      exact ⟨Nat.le_refl _, by simp [h]⟩
    · rw [if_neg hi] at h
      obtain ⟨h1, h2⟩ := ih (i + 1) t x h
      refine ⟨by omega, ?_⟩
      rw [show t - i = (t - (i + 1)) + 1 by omega]
      simpa using h2

def aresult (TT : Types) (e : Env) (σ : Heap) : ResultVar → Option AV
  | .tmp t => eget e t
  | .cell a t => match eget e a with
    | some p => aload TT σ t p
    | none => none

def aresults (TT : Types) (e : Env) (σ : Heap) : List ResultVar → Option (List AV)
  | [] => some []
  | r :: l => match aresult TT e σ r, aresults TT e σ l with
    | some v, some m => some (v :: m)
    | _, _ => none

/-- What a function hands back: one value by itself, several together. -/
def apack : List AV → AV
  | [v] => v
  | l => .tup l

def resOne (tmps : Array Value) (r : ResultVar) : Sem Value :=
  match r with
  | .tmp t => pure (tmps.getD t undef)
  | .cell a t => do loadVar t (← asAddr (tmps.getD a undef))

theorem aresults_sound (hT : TOk P TT) {ρ : Ren} {Φ : Frz} {σ : Heap} {n : Nat} {w : World} (hR : Rel ρ Φ σ n w) {e : Env} {tmps : Array Value} (he : EnvR ρ Φ e tmps) : ∀ {rs : List ResultVar} {l : List AV}, aresults TT e σ rs = some l →
    ∃ vs : List Value, (rs.mapM (resOne tmps)).run P w = .ok vs w ∧ l.length = vs.length ∧ ∀ (j : Nat) (x : AV) (v : Value), l[j]? = some x → vs[j]? = some v → VR ρ Φ x v := by
  intro rs
  induction rs with
  | nil => intro l h; simp only [aresults, Option.some.injEq] at h; subst h; exact ⟨[], by simp, rfl, fun j x v hx => by simp at hx⟩
  | cons r rs ih =>
    intro l h
    simp only [aresults] at h
    split at h
    · rename_i v m hv hm
      cases h
      obtain ⟨vs, h1, h2, h3⟩ := ih hm
      have hone : ∃ u, (resOne tmps r).run P w = .ok u w ∧ VR ρ Φ v u := by
        cases r with
        | tmp t =>
          obtain ⟨u, g1, g2⟩ := he t v hv
          exact ⟨u, by simp [resOne, g1], g2⟩
        | cell a t =>
          simp only [aresult] at hv
          split at hv
          · rename_i p hp
            obtain ⟨u, g1, g2⟩ := he a p hp
            obtain ⟨r, k1, k2⟩ := aload_sound hT hR g2 hv
            refine ⟨r, ?_, k2⟩
            have hg : tmps.getD a undef = u := by simp [g1]
            simp only [resOne, hg]
            -- the pointer is one
            have : ∃ ad, u = .pointer (some ad) := by
              unfold aload at hv
              split at hv
              · rename_i i l off _ hc
                obtain ⟨b, s, c, T, fr, hu, _⟩ := acells_sound hR g2 hc
                exact ⟨_, hu⟩
              · cases hv
            obtain ⟨ad, rfl⟩ := this
            simpa [asAddr, Instr.loadAt, Instr.sureAddr] using k1
          · cases hv
      obtain ⟨u, g1, g2⟩ := hone
      refine ⟨u :: vs, ?_, by simp [h2], fun j x y hx hy => ?_⟩
      · rw [List.mapM_cons, Sem.run_bind, g1]
        simp only [Result.andThen_ok, Sem.run_bind, h1, Sem.run_pure]
      · cases j with
        | zero =>
          simp at hx hy
          subst hx; subst hy
          exact g2
        | succ j => exact h3 j x y (by simpa using hx) (by simpa using hy)
    · cases h

theorem aresults_run (hT : TOk P TT) {ρ : Ren} {Φ : Frz} {σ : Heap} {n : Nat} {w : World} (hR : Rel ρ Φ σ n w) {e : Env} {tmps : Array Value} (he : EnvR ρ Φ e tmps) {fn : Func} {l : List AV} (h : aresults TT e σ fn.results.toList = some l) :
    ∃ v, (results fn tmps).run P w = .ok v w ∧ VR ρ Φ (apack l) v := by
  obtain ⟨vs, h1, h2, h3⟩ := aresults_sound hT hR he h
  have hres : results fn tmps = (fn.results.mapM (resOne tmps) >>= fun vs => pure (if h : vs.size = 1 then vs[0] else .tuple vs)) := rfl
  rw [hres, Sem.run_bind, Array.mapM_eq_mapM_toList, Sem.run_map, h1]
  simp only [Result.andThen_ok, Sem.run_pure]
  cases l with
  | nil =>
    have : vs = [] := by simpa using h2.symm
    subst this
    exact ⟨_, rfl, .tup rfl fun j x v hx => by simp at hx⟩
  | cons x l =>
    cases vs with
    | nil => simp at h2
    | cons v vs =>
      cases l with
      | nil =>
        have : vs = [] := by simpa using h2.symm
        subst this
        exact ⟨_, rfl, h3 0 x v rfl rfl⟩
      | cons y l =>
        refine ⟨.tuple (v :: vs).toArray, ?_, .tup (by simpa using h2) fun j z u hz hu => h3 j z u hz (by simpa using hu)⟩
        cases vs with
        | nil => simp at h2
        | cons u vs => simp

/-- Behind a body: what the function hands back. -/
def bodyQ (TT : Types) (fn : Func) (Q : AV → Heap → Nat → Prop) : Exit → Env → Heap → Nat → Prop
  | .normal, e, σ, n | .ret, e, σ, n => ∃ l, aresults TT e σ fn.results.toList = some l ∧ Q (apack l) σ n
  | _, _, _, _ => False

theorem ACalls.body (hT : TOk P TT) {f : FuncId} {fn : Func} {c : Code} (hf : FnOk P f fn c) {args : List AV} {σ : Heap} {n : Nat} {Q : AV → Heap → Nat → Prop} (hN : fn.ntmps = N) (hle : args.length ≤ N)
    (h : AWp P G N n c (bodyQ TT fn Q) (env0 args 0) σ n) : ACalls P G f args σ n Q := by
  intro ρ Φ w cargs hR hg hc
  refine calls_of_wp hf.func hf.body (wp_mono (h ρ Φ w _ hR hg ?_ ?_ rfl) fun x ca' w' hp => ?_)
  · intro t x hx
    obtain ⟨_, h2⟩ := env0_get args 0 t x hx
    simp only [Nat.sub_zero] at h2
    have hlt : t < cargs.size := by
      rw [← hc.1]
      rcases Nat.lt_or_ge t args.length with hh | hh
      · exact hh
      · simp [List.getElem?_eq_none hh] at h2
    exact ⟨cargs[t], by simp [Array.getElem?_append_left hlt], hc.2 t x _ h2 (by simp)⟩
  · have := hc.1
    simp
    omega
  · obtain ⟨e', σ', n', ρ', Φ', hq, h1, h2, h3, h4, h5⟩ := hp
    cases x with
    | normal =>
      obtain ⟨l, hl, hq⟩ := hq
      obtain ⟨v, k1, k2⟩ := aresults_run hT h4 h1 hl
      exact ⟨h3, v, k1, _, σ', n', ρ', Φ', v, rfl, hq, k2, h4, h5.all hR.low⟩
    | ret =>
      obtain ⟨l, hl, hq⟩ := hq
      obtain ⟨v, k1, k2⟩ := aresults_run hT h4 h1 hl
      exact ⟨h3, v, k1, _, σ', n', ρ', Φ', v, rfl, hq, k2, h4, h5.all hR.low⟩
    | _ => exact hq.elim
end
end Go.Ma
