/- A region that draws its order: it comes to what the order of the text comes to. -/
import Derived.Orders
import Derived.Test.YtakafhbabgpecaaGreatDoorMaAppend
namespace Go.Ma
section
variable {P : Program} {TT : Types} {G : Globals} {N n0 : Nat}

/-- h0: hangs on no memory, and turns none · rd l: reads the objects of these ids · al i: makes a new object with the id i (the next one) · wr i: reads and turns the object i · ac i: reads all, and makes objects whose ids are i or more · h1: reads all · ee: turns whatever. -/
inductive Kind where
  | h0
  | rd (l : List Nat)
  | al (i : Nat)
  | wr (i : Nat)
  | ac (i : Nat)
  | h1
  | ee
  deriving Inhabited

def Kind.reads : Kind → Nat → Bool
  | .h0, _ => false
  | .rd l, i => l.contains i
  | .al _, _ => false
  | .wr j, i => Nat.beq j i
  | _, _ => true

def Kind.writes : Kind → Nat → Bool
  | .al j, i => Nat.beq j i
  | .wr j, i => Nat.beq j i
  | .ac j, i => Nat.ble j i
  | .ee, _ => true
  | _, _ => false

def Kind.nreads : Kind → Bool
  | .h0 | .rd _ | .wr _ => false
  | _ => true

def Kind.nwrites : Kind → Bool
  | .al _ | .ac _ | .ee => true
  | _ => false

/-- What a turns, b does not look at and does not turn. -/
def apartK (a b : Kind) : Bool :=
  match a with
  | .h0 | .rd _ | .h1 => true
  | .al i => (match b with
    | .h0 => true
    | .rd l => !l.contains i
    | .wr j => !Nat.beq i j
    | _ => false)
  | .wr i => (match b with
    | .h0 => true
    | .rd l => !l.contains i
    | .wr j => !Nat.beq i j
    | .al j => !Nat.beq i j
    | _ => false)
  | .ac i => (match b with
    | .h0 => true
    | .rd l => l.all fun x => Nat.blt x i
    | _ => false)
  | .ee => (match b with
    | .h0 => true
    | _ => false)

def indep (a b : Kind) : Bool := apartK a b && apartK b a

theorem beq_iff (a b : Nat) : Nat.beq a b = true ↔ a = b := ⟨Nat.eq_of_beq_eq_true, fun h => by subst h; simp⟩

theorem apartK_sound {a b : Kind} (h : apartK a b = true) : (∀ i, a.writes i = true → b.reads i = false ∧ b.writes i = false) ∧ (a.nwrites = true → b.nreads = false ∧ b.nwrites = false) := by
  have ne : ∀ {i j : Nat}, (!Nat.beq i j) = true → Nat.beq j i = false := fun {i j} h => by
    cases hb : Nat.beq j i with
    | false => rfl
    | true => rw [beq_iff] at hb; subst hb; simp at h
  cases a with
  | h0 => exact ⟨fun i h => (by cases h), fun h => (by cases h)⟩
  | rd l => exact ⟨fun i h => (by cases h), fun h => (by cases h)⟩
  | h1 => exact ⟨fun i h => (by cases h), fun h => (by cases h)⟩
  | al i =>
    refine ⟨fun j hj => ?_, fun _ => ?_⟩
    · have hij : i = j := (beq_iff i j).mp hj
      subst hij
      cases b <;> simp only [apartK, Bool.false_eq_true] at h
      · exact ⟨rfl, rfl⟩
      · exact ⟨show List.contains _ _ = false by simpa using h, rfl⟩
      · exact ⟨ne h, ne h⟩
    · cases b <;> simp only [apartK, Bool.false_eq_true] at h <;> exact ⟨rfl, rfl⟩
  | wr i =>
    refine ⟨fun j hj => ?_, fun h => (by cases h)⟩
    have hij : i = j := (beq_iff i j).mp hj
    subst hij
    cases b <;> simp only [apartK, Bool.false_eq_true] at h
    · exact ⟨rfl, rfl⟩
    · exact ⟨show List.contains _ _ = false by simpa using h, rfl⟩
    · exact ⟨rfl, ne h⟩
    · exact ⟨ne h, ne h⟩
  | ac i =>
    refine ⟨fun j hj => ?_, fun _ => ?_⟩
    · have hij : i ≤ j := Nat.le_of_ble_eq_true hj
      cases b <;> simp only [apartK, Bool.false_eq_true] at h
      · exact ⟨rfl, rfl⟩
      · rename_i l
        refine ⟨?_, rfl⟩
        show List.contains l j = false
        cases hc : l.contains j with
        | false => rfl
        | true =>
          have := List.all_eq_true.mp h j (by simpa using hc)
          simp [Nat.blt] at this
          omega
    · cases b <;> simp only [apartK, Bool.false_eq_true] at h <;> exact ⟨rfl, rfl⟩
  | ee =>
    cases b <;> simp only [apartK, Bool.false_eq_true] at h
    exact ⟨fun _ _ => ⟨rfl, rfl⟩, fun _ => ⟨rfl, rfl⟩⟩

def otmps (o : Op) : List Nat := o.operands.toList.filterMap fun
  | .tmp t => some t
  | _ => none

/-- The temporaries that an operation looks at. -/
def looks (ops : Array Oper) (o : Oper) : List Nat :=
  otmps o.op ++ (match o.guard with
    | some (j, _) => (match (ops[j]?).bind (·.dst) with | some d => [d] | none => [])
    | none => [])

/-- The operations that must come ahead. -/
def ahead (o : Oper) : List Nat := o.after.toList.filterMap fun e => if Region.binds .any e then some e.on else none

def Agree (l : List Nat) (e' e : Env) : Prop := ∀ t ∈ l, eget e' t = eget e t

/-- The heaps hold the same. -/
def HEq (σ σ' : Heap) : Prop := ∀ i, hget σ i = hget σ' i

theorem Owns.heq {ρ : Ren} {σ σ' : Heap} (h : HEq σ σ') {b : Nat} (ho : Owns ρ σ b) : Owns ρ σ' b :=
  let ⟨i, o, L, h1, h2, h3⟩ := ho; ⟨i, o, L, by rw [← h i]; exact h1, h2, h3⟩

theorem HEq.symm {σ σ' : Heap} (h : HEq σ σ') : HEq σ' σ := fun i => (h i).symm

theorem Rel.heq {ρ : Ren} {Φ : Frz} {σ σ' : Heap} {n : Nat} {w : World} (hR : Rel ρ Φ σ n w) (h : HEq σ σ') : Rel ρ Φ σ' n w :=
  ⟨fun i o hi => hR.heap i o (by rw [h i]; exact hi), fun i j o p L M h1 h2 => hR.inj i j o p L M (by rw [h i]; exact h1) (by rw [h j]; exact h2),
    fun i o L h1 => hR.dis i o L (by rw [h i]; exact h1), hR.frz, hR.low⟩

theorem Step.heqL {ρ ρ' : Ren} {Φ Φ' : Frz} {σ σ₁ σ' : Heap} {w w' : World} (hS : Step ρ Φ σ w ρ' Φ' σ' w') (h : HEq σ σ₁) : Step ρ Φ σ₁ w ρ' Φ' σ' w' :=
  ⟨⟨hS.ren, hS.frz, hS.os, hS.tape, hS.output, hS.size, fun b hb hn => hS.frame b hb fun ho => hn (ho.heq h), fun b ho => (hS.own b ho).imp_right fun h' => h'.heq h,
    fun b c hc => (hS.ownF b c hc).imp_right (·.imp_right fun h' => h'.heq h)⟩, hS.keep⟩

theorem StepN.heqR {n0 : Nat} {ρ ρ' : Ren} {Φ Φ' : Frz} {σ σ₁ σ' : Heap} {w w' : World} (hS : StepN n0 ρ Φ σ w ρ' Φ' σ' w') (h : HEq σ' σ₁) : StepN n0 ρ Φ σ w ρ' Φ' σ₁ w' :=
  ⟨hS.ren, hS.frz, hS.os, hS.tape, hS.output, hS.size, hS.frame, fun b ho => hS.own b (ho.heq h.symm), hS.ownF⟩

theorem Step.heqR {ρ ρ' : Ren} {Φ Φ' : Frz} {σ σ₁ σ' : Heap} {w w' : World} (hS : Step ρ Φ σ w ρ' Φ' σ' w') (h : HEq σ' σ₁) : Step ρ Φ σ w ρ' Φ' σ₁ w' :=
  ⟨hS.toStepN.heqR h, hS.keep⟩

/-- An operation at another spelling of the heap. -/
theorem OpOk.heq {o : Oper} {e : Env} {σ σ' : Heap} {n : Nat} {Q : AV → Heap → Nat → Prop} (h : OpOk P G o e σ n Q) (hh : HEq σ σ') : OpOk P G o e σ' n Q :=
  fun ρ Φ w ca K Qx hR hg hE hK => h ρ Φ w ca K Qx (hR.heq hh.symm) hg hE fun v σ'' n' ρ' Φ' cv w' hq hv hR' hs => hK v σ'' n' ρ' Φ' cv w' hq hv hR' (hs.heqL hh)

theorem AOps.heq {ops : Array Oper} {l : List Nat} {Q : Exit → Env → Heap → Nat → Prop} {e : Env} {σ σ' : Heap} {n : Nat} (h : AOps P G N n0 ops l Q e σ n) (hh : HEq σ σ') : AOps P G N n0 ops l Q e σ' n :=
  fun ρ Φ w ca hR hg he hN hd => wpOps_mono (fun _ _ _ hp => Post.step (((Step.refl ρ Φ σ w).heqL hh).toN n0) hp) _ _ _ (h ρ Φ w ca (hR.heq hh.symm) hg he hN hd)

/-- What one operation does in the order of the text: wherever what it looks at is as it is there, it does the same. -/
inductive DStep (P : Program) (G : Globals) (N : Nat) (ops : Array Oper) (o : Oper) : Kind → Env × Heap × Nat → Env × Heap × Nat → Prop
  | skip {k : Kind} {e : Env} {σ : Heap} {n : Nat} (hg : aguard ops e o = some false) (hd : dstOk N o = true) : DStep P G N ops o k (e, σ, n) (eput e o.dst (.tup []), σ, n)
  | run {k : Kind} {e : Env} {σ σ₁ : Heap} {n n₁ : Nat} {v : AV} (hg : aguard ops e o = some true) (hd : dstOk N o = true)
      (h : ∀ e' σ' n', Agree (looks ops o) e' e → (∀ i, k.reads i = true → hget σ' i = hget σ i) → (k.nreads = true → n' = n) →
        ∃ σ'' n'', (∀ i, k.writes i = true → hget σ'' i = hget σ₁ i) ∧ (∀ i, k.writes i = false → hget σ'' i = hget σ' i) ∧ (k.nwrites = true → n'' = n₁) ∧ (k.nwrites = false → n'' = n') ∧
          OpOk P G o e' σ' n' fun x s m => x = v ∧ s = σ'' ∧ m = n'')
      (hf : ∀ i, k.writes i = false → hget σ₁ i = hget σ i) (hn : k.nwrites = false → n₁ = n) : DStep P G N ops o k (e, σ, n) (eput e o.dst v, σ₁, n₁)

theorem DStep.h0 {ops : Array Oper} {o : Oper} {e : Env} {σ : Heap} {n : Nat} {v : AV} (hg : aguard ops e o = some true) (hd : dstOk N o = true) (h : ∀ σ n e', Agree (looks ops o) e' e → OpOk P G o e' σ n fun v' σ' n' => v' = v ∧ σ' = σ ∧ n' = n) :
    DStep P G N ops o .h0 (e, σ, n) (eput e o.dst v, σ, n) :=
  .run hg hd (fun e' σ' n' ha _ _ => ⟨σ', n', fun i hi => (by cases hi), fun _ _ => rfl, fun hi => (by cases hi), fun _ => rfl, h σ' n' e' ha⟩) (fun _ _ => rfl) fun _ => rfl

theorem DStep.h1 {ops : Array Oper} {o : Oper} {e : Env} {σ : Heap} {n : Nat} {v : AV} (hg : aguard ops e o = some true) (hd : dstOk N o = true) (h : ∀ e', Agree (looks ops o) e' e → OpOk P G o e' σ n fun v' σ' n' => v' = v ∧ σ' = σ ∧ n' = n) :
    DStep P G N ops o .h1 (e, σ, n) (eput e o.dst v, σ, n) :=
  .run hg hd (fun e' σ' n' ha hr hn => ⟨σ, n, fun i hi => (by cases hi), fun i _ => (hr i rfl).symm, fun hi => (by cases hi), fun _ => (hn rfl).symm, by
    rw [hn rfl]; exact (h e' ha).heq fun i => (hr i rfl).symm⟩) (fun _ _ => rfl) fun _ => rfl

theorem DStep.ee {ops : Array Oper} {o : Oper} {e : Env} {σ σ₁ : Heap} {n n₁ : Nat} {v : AV} (hg : aguard ops e o = some true) (hd : dstOk N o = true) (h : ∀ e', Agree (looks ops o) e' e → OpOk P G o e' σ n fun v' σ' n' => v' = v ∧ σ' = σ₁ ∧ n' = n₁) :
    DStep P G N ops o .ee (e, σ, n) (eput e o.dst v, σ₁, n₁) :=
  .run hg hd (fun e' σ' n' ha hr hn => ⟨σ₁, n₁, fun _ _ => rfl, fun i hi => (by cases hi), fun _ => rfl, fun hi => (by cases hi), by
    rw [hn rfl]; exact (h e' ha).heq fun i => (hr i rfl).symm⟩) (fun i hi => (by cases hi)) fun hi => (by cases hi)

/-- Makes new objects alone. -/
theorem DStep.ac {ops : Array Oper} {o : Oper} {e : Env} {σ σ₁ : Heap} {n n₁ : Nat} {v : AV} (hg : aguard ops e o = some true) (hd : dstOk N o = true) (h : ∀ e', Agree (looks ops o) e' e → OpOk P G o e' σ n fun v' σ' n' => v' = v ∧ σ' = σ₁ ∧ n' = n₁)
    {m : Nat} (hf : ∀ i, i < m → hget σ₁ i = hget σ i) : DStep P G N ops o (.ac m) (e, σ, n) (eput e o.dst v, σ₁, n₁) := by
  have hlt : ∀ i, (Kind.ac m).writes i = false → i < m := fun i hi => by
    rcases Nat.lt_or_ge i m with hh | hh
    · exact hh
    · simp [Kind.writes, Nat.ble_eq.mpr hh] at hi
  exact .run hg hd (fun e' σ' n' ha hr hn => ⟨σ₁, n₁, fun _ _ => rfl, fun i hi => by rw [hf i (hlt i hi), hr i rfl], fun _ => rfl, fun hi => (by cases hi), by
    rw [hn rfl]; exact (h e' ha).heq fun i => (hr i rfl).symm⟩) (fun i hi => hf i (hlt i hi)) fun hi => (by cases hi)

theorem DStep.rd {ops : Array Oper} {o : Oper} {e : Env} {σ : Heap} {n : Nat} {v : AV} {l : List Nat} (hg : aguard ops e o = some true) (hd : dstOk N o = true)
    (h : ∀ e' σ' n', Agree (looks ops o) e' e → (∀ i ∈ l, hget σ' i = hget σ i) → OpOk P G o e' σ' n' fun x s m => x = v ∧ s = σ' ∧ m = n') : DStep P G N ops o (.rd l) (e, σ, n) (eput e o.dst v, σ, n) :=
  .run hg hd (fun e' σ' n' ha hr _ => ⟨σ', n', fun i hi => (by cases hi), fun _ _ => rfl, fun hi => (by cases hi), fun _ => rfl, h e' σ' n' ha fun i hi => hr i (by simpa [Kind.reads] using hi)⟩) (fun _ _ => rfl) fun _ => rfl

theorem DStep.al {ops : Array Oper} {o : Oper} {e : Env} {σ : Heap} {n : Nat} {v : AV} {p : AObj} (hg : aguard ops e o = some true) (hd : dstOk N o = true)
    (h : ∀ e' σ', Agree (looks ops o) e' e → OpOk P G o e' σ' n fun x s m => x = v ∧ s = (n, p) :: σ' ∧ m = n + 1) : DStep P G N ops o (.al n) (e, σ, n) (eput e o.dst v, (n, p) :: σ, n + 1) := by
  have hw : ∀ i, (Kind.al n).writes i = (decide (n = i)) := fun i => by
    simp only [Kind.writes]
    by_cases hi : n = i
    · subst hi; simp
    · simp only [hi, decide_false]
      cases hb : Nat.beq n i with
      | false => rfl
      | true => exact absurd ((beq_iff _ _).mp hb) hi
  refine .run hg hd (fun e' σ' n' ha _ hn => ⟨(n, p) :: σ', n + 1, fun i hi => ?_, fun i hi => ?_, fun _ => rfl, fun hi => (by cases hi), by rw [hn rfl]; exact h e' σ' ha⟩) (fun i hi => ?_) fun hi => (by cases hi)
  · rw [hw] at hi; simp only [hget_cons, of_decide_eq_true hi, if_true]
  · rw [hw] at hi; simp only [hget_cons, of_decide_eq_false hi, if_false]
  · rw [hw] at hi; simp only [hget_cons, of_decide_eq_false hi, if_false]

theorem DStep.wr {ops : Array Oper} {o : Oper} {e : Env} {σ : Heap} {n i : Nat} {v : AV} {p : AObj} (hg : aguard ops e o = some true) (hd : dstOk N o = true)
    (h : ∀ e' σ' n', Agree (looks ops o) e' e → hget σ' i = hget σ i → OpOk P G o e' σ' n' fun x s m => x = v ∧ s = hset σ' i p ∧ m = n') : DStep P G N ops o (.wr i) (e, σ, n) (eput e o.dst v, hset σ i p, n) := by
  have hw : ∀ j, (Kind.wr i).writes j = (decide (i = j)) := fun j => by
    simp only [Kind.writes]
    by_cases hi : i = j
    · subst hi; simp
    · simp only [hi, decide_false]
      cases hb : Nat.beq i j with
      | false => rfl
      | true => exact absurd ((beq_iff _ _).mp hb) hi
  refine .run hg hd (fun e' σ' n' ha hr _ => ⟨hset σ' i p, n', fun j hj => ?_, fun j hj => ?_, fun hi => (by cases hi), fun _ => rfl, h e' σ' n' ha (hr i (by simp [Kind.reads]))⟩) (fun j hj => ?_) fun _ => rfl
  · rw [hw] at hj; simp only [hget_hset, of_decide_eq_true hj, if_true]
  · rw [hw] at hj; simp only [hget_hset, of_decide_eq_false hj, if_false]
  · rw [hw] at hj; simp only [hget_hset, of_decide_eq_false hj, if_false]

inductive DRun (P : Program) (G : Globals) (N : Nat) (ops : Array Oper) : List Oper → List Kind → Env × Heap × Nat → Env × Heap × Nat → Prop
  | nil (s : Env × Heap × Nat) : DRun P G N ops [] [] s s
  | cons {o : Oper} {l : List Oper} {k : Kind} {ks : List Kind} {s s₁ s' : Env × Heap × Nat} (h : DStep P G N ops o k s s₁) (hr : DRun P G N ops l ks s₁ s') : DRun P G N ops (o :: l) (k :: ks) s s'

theorem DRun.states {ops : Array Oper} : ∀ {l : List Oper} {ks : List Kind} {s s' : Env × Heap × Nat}, DRun P G N ops l ks s s' → ∃ st : Nat → Env × Heap × Nat, st 0 = s ∧ st l.length = s' ∧ ks.length = l.length ∧
    ∀ i o, l[i]? = some o → ∃ k, ks[i]? = some k ∧ DStep P G N ops o k (st i) (st (i + 1)) := by
  intro l
  induction l with
  | nil => intro ks s s' h; cases h; exact ⟨fun _ => s, rfl, rfl, rfl, fun i o h => by simp at h⟩
  | cons o l ih =>
    intro ks s s' h
    cases h with
    | cons h hr =>
      rename_i k ks s₁
      obtain ⟨st, h1, h2, h3, h4⟩ := ih hr
      refine ⟨fun i => match i with | 0 => s | i + 1 => st i, rfl, h2, by simp [h3], fun i p hp => ?_⟩
      cases i with
      | zero =>
        simp only [List.getElem?_cons_zero, Option.some.injEq] at hp
        subst hp
        exact ⟨k, rfl, by show DStep P G N ops o k s (st 0); rw [h1]; exact h⟩
      | succ i =>
        obtain ⟨k', g1, g2⟩ := h4 i p (by simpa using hp)
        exact ⟨k', by simpa using g1, g2⟩

/-- Which operations must come ahead, whatever way: a mask an operation. -/
def maskOf (acc : List Nat) : List Nat → Nat → Nat
  | [], m => m
  | x :: l, m => maskOf acc l (m ||| (1 <<< x) ||| acc.getD x 0)

def masks : List Oper → List Nat → List Nat
  | [], acc => acc
  | o :: l, acc => masks l (acc ++ [maskOf acc (ahead o) 0])

def pairStat (ops : Array Oper) (i mb : Nat) (a b : Oper) : Bool :=
  (match a.dst, b.dst with | some d, some d' => !Nat.beq d d' | _, _ => true) &&
  (mb.testBit i ||
  ((match a.dst with | some d => !(looks ops b).contains d | none => true) && (match b.dst with | some d => !(looks ops a).contains d | none => true)))

def statOk (ops : Array Oper) (l : List Oper) (ms : List Nat) : Bool :=
  (List.range l.length).all fun j => match l[j]?, ms[j]? with
    | some b, some mb => (ahead b).all (fun x => Nat.blt x j) && (List.range j).all fun i => match l[i]? with
      | some a => pairStat ops i mb a b
      | _ => false
    | _, _ => false

/-- The pairs that no order binds. -/
def freePairs (l : List Oper) (ms : List Nat) : List (Nat × Nat) :=
  (List.range l.length).flatMap fun j => match ms[j]? with
    | some mb => (List.range j).filterMap fun i => match mb.testBit i with
      | true => none
      | false => some (i, j)
    | none => []

def pairsOk (ks : List Kind) (ps : List (Nat × Nat)) : Bool :=
  ps.all fun p => match ks[p.1]?, ks[p.2]? with
    | some a, some b => indep a b
    | _, _ => false

/-- May the order be drawn? -/
def drawOk (ops : Array Oper) (l : List Oper) (ks : List Kind) : Bool :=
  statOk ops l (masks l []) && pairsOk ks (freePairs l (masks l []))

theorem aguard_agree {ops : Array Oper} {o : Oper} {e e' : Env} (h : Agree (looks ops o) e' e) : aguard ops e' o = aguard ops e o := by
  unfold aguard
  cases hg : o.guard with
  | none => rfl
  | some p =>
    obtain ⟨j, want⟩ := p
    simp only
    cases hd : (ops[j]?).bind (·.dst) with
    | none => rfl
    | some d =>
      have : eget e' d = eget e d := h d (by simp [looks, hg, hd])
      simp only [this]

theorem eget_eput (e : Env) (d : Nat) (x : AV) (t : Nat) : eget (eput e (some d) x) t = if d = t then some x else eget e t := by
  simp only [eput, eget]
  by_cases h : d = t
  · simp [h]
  · simp [h, eget_edel]

theorem wpOp_mono2 {ops : Array Oper} {Q Q' : Exit → Act → World → Prop} (hq : ∀ x a w, Q x a w → Q' x a w) {i : Nat} {a : Act} {w : World} {K K' : Act → World → Prop} (h : ∀ a w, K a w → K' a w) (hh : wpOp P ops Q i K a w) : wpOp P ops Q' i K' a w := by
  unfold wpOp at *
  cases hi : ops[i]? with
  | none => simp only [hi] at hh; exact h _ _ hh
  | some o =>
    simp only [hi] at hh
    by_cases hw : Region.wanted o (yielded ops a.tmps) = true
    · rw [if_pos hw] at hh
      simp only [if_pos hw]
      rcases hh with hh | ⟨h1, a', w', h2⟩
      · exact .inl (upon_mono h hq hh)
      · exact .inr ⟨h1, a', w', hq _ _ _ h2⟩
    · rw [if_neg hw] at hh
      simp only [if_neg hw]
      exact h _ _ hh

theorem wpAny_mono {ops : Array Oper} {md : Region.Mode} {Q Q' : Exit → Act → World → Prop} (hq : ∀ x a w, Q x a w → Q' x a w) : ∀ (fuel : Nat) (listed : Array Bool) (a : Act) (w : World), wpAny P md ops Q fuel listed a w → wpAny P md ops Q' fuel listed a w := by
  intro fuel
  induction fuel with
  | zero => intro listed a w h; exact ⟨h.1, hq _ _ _ h.2⟩
  | succ fuel ih => intro listed a w h; exact ⟨fun hn => hq _ _ _ (h.1 hn), fun i hi => wpOp_mono2 hq (fun a w h => ih _ a w h) (h.2 i hi)⟩

theorem count_set (listed : Array Bool) (i : Nat) : ∀ (m : Nat), i < m → listed.getD i false = false → i < listed.size →
    ((List.range m).filter fun j => !listed.getD j false).length = ((List.range m).filter fun j => !(listed.setIfInBounds i true).getD j false).length + 1 := by
  intro m
  induction m with
  | zero => intro h; omega
  | succ m ih =>
    intro h hl hs
    rw [List.range_succ, List.filter_append, List.filter_append, List.length_append, List.length_append]
    by_cases him : i = m
    · subst him
      have h1 : ((List.range i).filter fun j => !listed.getD j false) = ((List.range i).filter fun j => !(listed.setIfInBounds i true).getD j false) := by
        apply List.filter_congr
        intro j hj
        rw [getD_set_ne false (by simp at hj; omega)]
      have h2 : (listed.setIfInBounds i true).getD i false = true := by simp [hs]
      rw [h1]
      simp only [List.filter_cons, hl, h2, List.filter_nil]
      simp
    · have := ih (by omega) hl hs
      rw [this]
      have h2 : (listed.setIfInBounds i true).getD m false = listed.getD m false := getD_set_ne false him
      simp only [List.filter_cons, h2, List.filter_nil]
      omega

theorem maskOf_testBit (acc : List Nat) : ∀ (l : List Nat) (m i : Nat), (maskOf acc l m).testBit i = true → m.testBit i = true ∨ i ∈ l ∨ ∃ x ∈ l, (acc.getD x 0).testBit i = true := by
  intro l
  induction l with
  | nil => intro m i h; exact .inl h
  | cons x l ih =>
    intro m i h
    rcases ih _ i h with h | h | ⟨y, h1, h2⟩
    · simp only [Nat.testBit_or, Bool.or_eq_true, Nat.one_shiftLeft, Nat.testBit_two_pow, decide_eq_true_eq] at h
      rcases h with (h | h) | h
      · exact .inl h
      · exact .inr (.inl (by simp [h]))
      · exact .inr (.inr ⟨x, by simp, h⟩)
    · exact .inr (.inl (by simp [h]))
    · exact .inr (.inr ⟨y, by simp [h1], h2⟩)

theorem masks_old : ∀ (l : List Oper) (acc : List Nat) (j : Nat), j < acc.length → (masks l acc)[j]? = acc[j]? := by
  intro l
  induction l with
  | nil => intro acc j _; rfl
  | cons o l ih =>
    intro acc j hj
    simp only [masks]
    rw [ih _ j (by simp; omega), List.getElem?_append_left hj]

theorem masks_new : ∀ (l : List Oper) (acc : List Nat) (j : Nat) (o : Oper), l[j]? = some o → ∃ pre : List Nat, pre.length = acc.length + j ∧ (∀ x, x < acc.length + j → pre[x]? = (masks l acc)[x]?) ∧ (masks l acc)[acc.length + j]? = some (maskOf pre (ahead o) 0) := by
  intro l
  induction l with
  | nil => intro acc j o h; simp at h
  | cons p l ih =>
    intro acc j o h
    cases j with
    | zero =>
      simp only [List.getElem?_cons_zero, Option.some.injEq] at h
      subst h
      refine ⟨acc, by simp, fun x hx => ?_, ?_⟩
      · rw [masks_old _ _ x (by simpa using hx)]
      · simp only [masks, Nat.add_zero]
        rw [masks_old _ _ _ (by simp)]
        simp
    | succ j =>
      obtain ⟨pre, h1, h2, h3⟩ := ih (acc ++ [maskOf acc (ahead p) 0]) j o (by simpa using h)
      simp only [List.length_append, List.length_cons, List.length_nil] at h1 h2 h3
      refine ⟨pre, by omega, fun x hx => ?_, ?_⟩
      · simp only [masks]; exact h2 x (by omega)
      · simp only [masks]; rw [← h3]; congr 1; omega

/-- What a mask tells comes ahead. -/
theorem masks_good {l : List Oper} {listed : Array Bool} (hback : ∀ j b, l[j]? = some b → ∀ x ∈ ahead b, x < j) (down : ∀ i o, l[i]? = some o → listed.getD i false = true → ∀ j ∈ ahead o, listed.getD j false = true) :
    ∀ (j : Nat) (o : Oper) (mb : Nat), l[j]? = some o → (masks l [])[j]? = some mb → (∀ y ∈ ahead o, listed.getD y false = true) → ∀ i, mb.testBit i = true → listed.getD i false = true := by
  intro j
  induction j using Nat.strongRecOn with
  | _ j ih =>
    intro o mb ho hmb hall i hi
    obtain ⟨pre, h1, h2, h3⟩ := masks_new l [] j o ho
    simp only [List.length_nil, Nat.zero_add] at h1 h2 h3
    rw [h3] at hmb
    cases hmb
    rcases maskOf_testBit _ _ _ _ hi with h | h | ⟨x, hx, h⟩
    · simp at h
    · exact hall i h
    · have hxj := hback j o ho x hx
      have hxl : x < l.length := by
        have : j < l.length := by
          rcases Nat.lt_or_ge j l.length with hh | hh
          · exact hh
          · simp [List.getElem?_eq_none hh] at ho
        omega
      have hox : l[x]? = some l[x] := by simp
      cases hm : (masks l [])[x]? with
      | none =>
        rw [List.getD_eq_getElem?_getD, h2 x (by omega), hm] at h
        simp at h
      | some mx =>
        rw [List.getD_eq_getElem?_getD, h2 x (by omega), hm] at h
        exact ih x hxj l[x] mx hox hm (down x l[x] hox (hall x hx)) i h

/-- How a step turns the temporaries. -/
theorem DStep.env {ops : Array Oper} {o : Oper} {k : Kind} {s s' : Env × Heap × Nat} (h : DStep P G N ops o k s s') (t : Nat) (ht : o.dst ≠ some t) : eget s'.1 t = eget s.1 t := by
  have hp : ∀ (e : Env) (v : AV), eget (eput e o.dst v) t = eget e t := fun e v => by
    cases hd : o.dst with
    | none => rfl
    | some d => rw [eget_eput, if_neg (fun h => ht (by rw [hd, h]))]
  cases h with
  | skip => exact hp _ _
  | run => exact hp _ _

theorem DStep.heap {ops : Array Oper} {o : Oper} {k : Kind} {s s' : Env × Heap × Nat} (h : DStep P G N ops o k s s') {i : Nat} (hk : k.writes i = false) : hget s'.2.1 i = hget s.2.1 i := by
  cases h with
  | skip => rfl
  | run _ _ _ hf _ => exact hf i hk

theorem DStep.next {ops : Array Oper} {o : Oper} {k : Kind} {s s' : Env × Heap × Nat} (h : DStep P G N ops o k s s') (hk : k.nwrites = false) : s'.2.2 = s.2.2 := by
  cases h with
  | skip => rfl
  | run _ _ _ _ hn => exact hn hk

structure DInv (ops : Array Oper) (l : List Oper) (ks : List Kind) (st : Nat → Env × Heap × Nat) (listed : Array Bool) (e : Env) (σ : Heap) (n : Nat) : Prop where
  size : listed.size = l.length
  down : ∀ i o, l[i]? = some o → listed.getD i false = true → ∀ j ∈ ahead o, listed.getD j false = true
  env1 : ∀ i o t, l[i]? = some o → o.dst = some t → listed.getD i false = true → eget e t = eget (st l.length).1 t
  env2 : ∀ t, (∀ i o, l[i]? = some o → o.dst = some t → listed.getD i false = false) → eget e t = eget (st 0).1 t
  heap : ∀ x, ∃ c, c ≤ l.length ∧ (∀ j k, j < c → ks[j]? = some k → k.writes x = true → listed.getD j false = true) ∧ (∀ j k, c ≤ j → ks[j]? = some k → k.writes x = true → listed.getD j false = false) ∧ hget (st c).2.1 x = hget σ x
  next : ∃ c, c ≤ l.length ∧ (∀ j k, j < c → ks[j]? = some k → k.nwrites = true → listed.getD j false = true) ∧ (∀ j k, c ≤ j → ks[j]? = some k → k.nwrites = true → listed.getD j false = false) ∧ (st c).2.2 = n

theorem AWp.draw (hm : P.follows .mixedOrders = true) {id : Nat} {ops : Array Oper} {ks : List Kind} {Q : Exit → Env → Heap → Nat → Prop} {e e' : Env} {σ σ' : Heap} {n n' : Nat} (hok : drawOk ops ops.toList ks = true)
    (h : DRun P G N ops ops.toList ks (e, σ, n) (e', σ', n')) (hq : Q .normal e' σ' n') : AWp P G N n0 (.region id ops true) Q e σ n := by
  obtain ⟨st, hs0, hsm, hkl, hst⟩ := h.states
  generalize hL : ops.toList = l at *
  have hops : ∀ (i : Nat), ops[i]? = l[i]? := fun i => by rw [← hL, Array.getElem?_toList]
  have hsize : ops.size = l.length := by rw [← hL]; simp
  have hlt : ∀ i o, l[i]? = some o → i < l.length := fun i o ho => by
    rcases Nat.lt_or_ge i l.length with hh | hh
    · exact hh
    · simp [List.getElem?_eq_none hh] at ho
  have hltk : ∀ i k, ks[i]? = some k → i < l.length := fun i k hk => by
    rw [← hkl]
    rcases Nat.lt_or_ge i ks.length with hh | hh
    · exact hh
    · simp [List.getElem?_eq_none hh] at hk
  -- the check, read
  simp only [drawOk, Bool.and_eq_true] at hok
  obtain ⟨hst0, hps⟩ := hok
  have hrow : ∀ j b, l[j]? = some b → ∃ mb, (masks l [])[j]? = some mb ∧ (∀ x ∈ ahead b, x < j) ∧ ∀ i a, i < j → l[i]? = some a → pairStat ops i mb a b = true := fun j b hb => by
    have h1 := List.all_eq_true.1 hst0 j (by simp [hlt j b hb])
    simp only [hb] at h1
    split at h1
    · rename_i b' mb hb' hmb
      cases hb'
      simp only [Bool.and_eq_true] at h1
      refine ⟨mb, hmb, fun x hx => ?_, fun i a hij ha => ?_⟩
      · have := List.all_eq_true.1 h1.1 x hx
        simpa [Nat.blt, Nat.lt_iff_add_one_le] using this
      · have h2 := List.all_eq_true.1 h1.2 i (by simp [hij])
        simpa only [ha] using h2
    · cases h1
  have hback : ∀ j b, l[j]? = some b → ∀ x ∈ ahead b, x < j := fun j b hb => let ⟨_, _, h2, _⟩ := hrow j b hb; h2
  have hpair : ∀ i j a b ka kb, i < j → l[i]? = some a → l[j]? = some b → ks[i]? = some ka → ks[j]? = some kb →
      (∀ d, a.dst = some d → b.dst ≠ some d) ∧ ((∃ mb : Nat, (masks l [])[j]? = some mb ∧ mb.testBit i = true) ∨ ((∀ d, a.dst = some d → d ∉ looks ops b) ∧ (∀ d, b.dst = some d → d ∉ looks ops a) ∧ indep ka kb = true)) := fun i j a b ka kb hij ha hb hka hkb => by
    obtain ⟨mb, hmb, _, h3⟩ := hrow j b hb
    have h4 := h3 i a hij ha
    simp only [pairStat, Bool.and_eq_true, Bool.or_eq_true] at h4
    refine ⟨fun d hd hd' => ?_, ?_⟩
    · have := h4.1
      simp [hd, hd'] at this
    · cases hbit : mb.testBit i with
      | true => exact .inl ⟨mb, hmb, hbit⟩
      | false =>
        have hfp : (i, j) ∈ freePairs l (masks l []) := by
          simp only [freePairs, List.mem_flatMap]
          refine ⟨j, by simp [hlt j b hb], ?_⟩
          simp only [hmb, List.mem_filterMap]
          exact ⟨i, by simp [hij], by simp [hbit]⟩
        have hi : indep ka kb = true := by
          have hi := List.all_eq_true.1 hps _ hfp
          split at hi
          · rename_i a' b' h1 h2
            have h1 : ks[i]? = some a' := h1
            have h2 : ks[j]? = some b' := h2
            rw [hka] at h1; rw [hkb] at h2
            cases h1; cases h2
            exact hi
          · cases hi
        have h5 := h4.2
        rw [hbit] at h5
        simp only [Bool.false_eq_true, false_or] at h5
        refine .inr ⟨fun d hd => ?_, fun d hd => ?_, hi⟩
        · simpa [hd] using h5.1
        · simpa [hd] using h5.2
  have hdst : ∀ (i j : Nat) (a b : Oper) (t : Nat), l[i]? = some a → l[j]? = some b → a.dst = some t → b.dst = some t → i = j := fun i j a b t ha hb hda hdb => by
    obtain ⟨ka, hka, _⟩ := hst i a ha
    obtain ⟨kb, hkb, _⟩ := hst j b hb
    rcases Nat.lt_trichotomy i j with hij | hij | hij
    · exact absurd hdb ((hpair i j a b ka kb hij ha hb hka hkb).1 t hda)
    · exact hij
    · exact absurd hda ((hpair j i b a kb ka hij hb ha hkb hka).1 t hdb)
  -- the states of the text's order
  have stenv : ∀ (t : Nat) (a d : Nat), a + d ≤ l.length → (∀ i o, a ≤ i → i < a + d → l[i]? = some o → o.dst ≠ some t) → eget (st (a + d)).1 t = eget (st a).1 t := by
    intro t a d
    induction d with
    | zero => intro _ _; rfl
    | succ d ih =>
      intro hle hno
      have hi : a + d < l.length := by omega
      obtain ⟨k, _, hd⟩ := hst (a + d) l[a + d] (by simp)
      rw [← Nat.add_assoc, hd.env t (hno (a + d) l[a + d] (by omega) (by omega) (by simp))]
      exact ih (by omega) fun i o h1 h2 => hno i o h1 (by omega)
  have stheap : ∀ (x a b : Nat), a ≤ b → b ≤ l.length → (∀ i k, a ≤ i → i < b → ks[i]? = some k → k.writes x = false) → hget (st b).2.1 x = hget (st a).2.1 x := by
    intro x a b hab
    obtain ⟨d, rfl⟩ := Nat.exists_eq_add_of_le hab
    clear hab
    induction d with
    | zero => intro _ _; rfl
    | succ d ih =>
      intro hle hno
      have hi : a + d < l.length := by omega
      obtain ⟨k, hk, hd⟩ := hst (a + d) l[a + d] (by simp)
      rw [← Nat.add_assoc, hd.heap (hno (a + d) k (by omega) (by omega) hk)]
      exact ih (by omega) fun i k h1 h2 => hno i k h1 (by omega)
  have stnext : ∀ (a b : Nat), a ≤ b → b ≤ l.length → (∀ i k, a ≤ i → i < b → ks[i]? = some k → k.nwrites = false) → (st b).2.2 = (st a).2.2 := by
    intro a b hab
    obtain ⟨d, rfl⟩ := Nat.exists_eq_add_of_le hab
    clear hab
    induction d with
    | zero => intro _ _; rfl
    | succ d ih =>
      intro hle hno
      have hi : a + d < l.length := by omega
      obtain ⟨k, hk, hd⟩ := hst (a + d) l[a + d] (by simp)
      rw [← Nat.add_assoc, hd.next (hno (a + d) k (by omega) (by omega) hk)]
      exact ih (by omega) fun i k h1 h2 => hno i k h1 (by omega)
  have finish : ∀ (listed : Array Bool) (e₁ : Env) (σ₁ : Heap) (n₁ : Nat), DInv ops l ks st listed e₁ σ₁ n₁ → (∀ i, i < l.length → listed.getD i false = true) → ∀ (ρ : Ren) (Φ : Frz) (w : World) (ca : Act), Rel ρ Φ σ₁ n₁ w → EnvR ρ Φ e₁ ca.tmps →
      ca.tmps.size = N → ca.defers = [] → Post P N n0 ρ Φ σ₁ w Q .normal ca w := by
    intro listed e₁ σ₁ n₁ hI hall ρ Φ w ca hR he hN hd
    have hh : HEq σ₁ σ' := fun x => by
      obtain ⟨c, hc, c1, c2, c3⟩ := hI.heap x
      rw [← c3]
      have := stheap x c l.length hc (by omega) (fun j k h1 h2 h3 => by
        cases hw : k.writes x with
        | false => rfl
        | true =>
          have g1 := c2 j k h1 h3 hw
          rw [hall j (by omega)] at g1; cases g1)
      rw [hsm] at this
      exact this.symm
    have hn : n₁ = n' := by
      obtain ⟨c, hc, c1, c2, c3⟩ := hI.next
      rw [← c3]
      have := stnext c l.length hc (by omega) (fun j k h1 h2 h3 => by
        cases hw : k.nwrites with
        | false => rfl
        | true =>
          have g1 := c2 j k h1 h3 hw
          rw [hall j (by omega)] at g1; cases g1)
      rw [hsm] at this
      exact this.symm
    subst hn
    refine ⟨e', σ', n₁, ρ, Φ, hq, fun t x hx => he t x ?_, hN, hd, hR.heq hh, (StepN.refl _ _ _ _ _).heqR hh⟩
    by_cases hw : ∃ (j : Nat) (b : Oper), l[j]? = some b ∧ b.dst = some t
    · obtain ⟨j, b, hb, hbt⟩ := hw
      rw [hI.env1 j b t hb hbt (hall j (hlt j b hb)), hsm]
      exact hx
    · have hno : ∀ (i' : Nat) (o' : Oper), l[i']? = some o' → o'.dst ≠ some t := fun i' o' h1 h2 => hw ⟨i', o', h1, h2⟩
      rw [hI.env2 t (fun i' o' h1 h2 => absurd h2 (hno i' o' h1))]
      have := stenv t 0 l.length (by omega) (fun i' o' _ _ h1 => hno i' o' h1)
      rw [Nat.zero_add, hsm] at this
      rw [← this]; exact hx
  -- the walk
  have key : ∀ (fuel : Nat) (listed : Array Bool) (e₁ : Env) (σ₁ : Heap) (n₁ : Nat), ((List.range l.length).filter fun i => !listed.getD i false).length = fuel → DInv ops l ks st listed e₁ σ₁ n₁ →
      ∀ (ρ : Ren) (Φ : Frz) (w : World) (ca : Act), Rel ρ Φ σ₁ n₁ w → GR Φ G → EnvR ρ Φ e₁ ca.tmps → ca.tmps.size = N → ca.defers = [] → wpAny P .any ops (Post P N n0 ρ Φ σ₁ w Q) fuel listed ca w := by
    intro fuel
    induction fuel with
    | zero =>
      intro listed e₁ σ₁ n₁ hcnt hI ρ Φ w ca hR hg he hN hd
      have hall : ∀ i, i < l.length → listed.getD i false = true := fun i hi => by
        cases hli : listed.getD i false with
        | true => rfl
        | false =>
          have : i ∈ (List.range l.length).filter fun i => !listed.getD i false := by
            rw [List.mem_filter]; exact ⟨by simp [hi], by simp [hli]⟩
          rw [List.eq_nil_of_length_eq_zero hcnt] at this
          simp at this
      refine ⟨?_, finish listed e₁ σ₁ n₁ hI hall ρ Φ w ca hR he hN hd⟩
      rw [List.eq_nil_iff_forall_not_mem]
      intro i hi
      rw [mem_ready] at hi
      obtain ⟨h1, o, ho, _⟩ := hi
      have hilt := hlt i o (by rw [← hops]; exact ho)
      have h2 := hall i hilt
      have hs := hI.size
      rw [Array.getD_eq_getD_getElem?] at h1 h2
      have : i < listed.size := by omega
      simp [this] at h1 h2
      rw [h1] at h2; cases h2
    | succ fuel ih =>
      intro listed e₁ σ₁ n₁ hcnt hI ρ Φ w ca hR hg he hN hd
      refine ⟨fun hnil => ?_, fun i hi => ?_⟩
      · -- nothing is ready: all is listed
        refine finish listed e₁ σ₁ n₁ hI (fun i => ?_) ρ Φ w ca hR he hN hd
        induction i using Nat.strongRecOn with
        | _ i ihi =>
          intro hi
          cases hli : listed.getD i false with
          | true => rfl
          | false =>
            have : i ∈ Region.ready .any ops listed := by
              rw [mem_ready]
              refine ⟨?_, l[i], by rw [hops]; simp, fun x hx hb => ?_⟩
              · have hs := hI.size
                rw [Array.getD_eq_getD_getElem?] at hli ⊢
                have : i < listed.size := by omega
                simp [this] at hli ⊢
                exact hli
              · have hmem : x.on ∈ ahead l[i] := by
                  simp only [ahead, List.mem_filterMap]
                  exact ⟨x, by simpa using hx, by simp [hb]⟩
                have hlt2 := hback i l[i] (by simp) x.on hmem
                exact ihi x.on hlt2 (by omega)
            rw [hnil] at this
            simp at this
      · rw [mem_ready] at hi
        obtain ⟨hi0, o, ho, hafter⟩ := hi
        have hol : l[i]? = some o := by rw [← hops]; exact ho
        have hilt := hlt i o hol
        have hs := hI.size
        have hi1 : listed.getD i false = false := by
          rw [Array.getD_eq_getD_getElem?] at hi0 ⊢
          have : i < listed.size := by omega
          simp [this] at hi0 ⊢
          exact hi0
        have haft : ∀ j ∈ ahead o, listed.getD j false = true := fun j hj => by
          simp only [ahead, List.mem_filterMap] at hj
          obtain ⟨x, hx, hj⟩ := hj
          split at hj
          · rename_i hb
            simp only [Option.some.injEq] at hj
            rw [← hj]
            exact hafter x (by simpa using hx) hb
          · cases hj
        obtain ⟨k, hk, hstep⟩ := hst i o hol
        -- what must come ahead is listed; what is later in the text and hangs on i is not listed yet
        have hbef : ∀ (mb x : Nat), (masks l [])[i]? = some mb → mb.testBit x = true → listed.getD x false = true := fun mb x hmb hx =>
          masks_good hback hI.down i o mb hol hmb haft x hx
        have hlater : ∀ (j : Nat) (b : Oper) (mb : Nat), l[j]? = some b → (masks l [])[j]? = some mb → mb.testBit i = true → listed.getD j false = false := fun j b mb hb hmb hin => by
          cases hlj : listed.getD j false with
          | false => rfl
          | true =>
            have := masks_good hback hI.down j b mb hb hmb (hI.down j b hb hlj) i hin
            rw [hi1] at this; cases this
        -- the temporaries that are looked at are as in the text's order
        have hagree : Agree (looks ops o) e₁ (st i).1 := fun t ht => by
          by_cases hw : ∃ (j : Nat) (b : Oper), l[j]? = some b ∧ b.dst = some t
          · obtain ⟨j, b, hb, hbt⟩ := hw
            have hno : ∀ (i' : Nat) (o' : Oper), l[i']? = some o' → o'.dst = some t → i' = j := fun i' o' h1 h2 => hdst i' j o' b t h1 hb h2 hbt
            have hjlt := hlt j b hb
            have before : listed.getD j false = false → i ≤ j → eget e₁ t = eget (st i).1 t := fun hlj hij => by
              rw [hI.env2 t (fun i' o' h1 h2 => by rw [hno i' o' h1 h2]; exact hlj)]
              have := stenv t 0 i (by omega) (fun i' o' _ h2 h1 hd => by have := hno i' o' h1 hd; omega)
              rw [Nat.zero_add] at this
              exact this.symm
            obtain ⟨kb, hkb, _⟩ := hst j b hb
            rcases Nat.lt_trichotomy j i with hij | hij | hij
            · have hp := (hpair j i b o kb k hij hb hol hkb hk).2
              rcases hp with ⟨mb, hmb, hp⟩ | ⟨hp, _, _⟩
              · rw [hI.env1 j b t hb hbt (hbef mb j hmb hp)]
                have := stenv t i (l.length - i) (by omega) (fun i' o' h1 _ h2 hd => by have := hno i' o' h2 hd; omega)
                rw [show i + (l.length - i) = l.length by omega] at this
                exact this
              · exact absurd ht (hp t hbt)
            · subst hij
              exact before hi1 (Nat.le_refl _)
            · have hp := (hpair i j o b k kb hij hol hb hk hkb).2
              rcases hp with ⟨mb, hmb, hp⟩ | ⟨_, hp, _⟩
              · exact before (hlater j b mb hb hmb hp) (by omega)
              · exact absurd ht (hp t hbt)
          · have hno : ∀ (i' : Nat) (o' : Oper), l[i']? = some o' → o'.dst ≠ some t := fun i' o' h1 h2 => hw ⟨i', o', h1, h2⟩
            rw [hI.env2 t (fun i' o' h1 h2 => absurd h2 (hno i' o' h1))]
            have := stenv t 0 i (by omega) (fun i' o' _ _ h1 => hno i' o' h1)
            rw [Nat.zero_add] at this
            exact this.symm
        -- where the operation looks or turns, whoever turns is ordered
        have hordw : ∀ x, k.reads x = true ∨ k.writes x = true → ∀ j kj, ks[j]? = some kj → kj.writes x = true → j ≠ i → (j < i → listed.getD j false = true) ∧ (i < j → listed.getD j false = false) := fun x hx j kj hkj hw hne => by
          have hj := hltk j kj hkj
          have hb : l[j]? = some l[j] := by simp
          refine ⟨fun hji => ?_, fun hij => ?_⟩
          · have hp := (hpair j i l[j] o kj k hji hb hol hkj hk).2
            rcases hp with ⟨mb, hmb, hp⟩ | ⟨_, _, hp⟩
            · exact hbef mb j hmb hp
            · simp only [indep, Bool.and_eq_true] at hp
              obtain ⟨h1, h2⟩ := (apartK_sound hp.1).1 x hw
              rw [h1, h2] at hx; simp at hx
          · have hp := (hpair i j o l[j] k kj hij hol hb hk hkj).2
            rcases hp with ⟨mb, hmb, hp⟩ | ⟨_, _, hp⟩
            · exact hlater j l[j] mb hb hmb hp
            · simp only [indep, Bool.and_eq_true] at hp
              obtain ⟨h1, h2⟩ := (apartK_sound hp.2).1 x hw
              rw [h1, h2] at hx; simp at hx
        have hordn : (k.nreads = true ∨ k.nwrites = true) → ∀ j kj, ks[j]? = some kj → kj.nwrites = true → j ≠ i → (j < i → listed.getD j false = true) ∧ (i < j → listed.getD j false = false) := fun hx j kj hkj hw hne => by
          have hj := hltk j kj hkj
          have hb : l[j]? = some l[j] := by simp
          refine ⟨fun hji => ?_, fun hij => ?_⟩
          · have hp := (hpair j i l[j] o kj k hji hb hol hkj hk).2
            rcases hp with ⟨mb, hmb, hp⟩ | ⟨_, _, hp⟩
            · exact hbef mb j hmb hp
            · simp only [indep, Bool.and_eq_true] at hp
              obtain ⟨h1, h2⟩ := (apartK_sound hp.1).2 hw
              rw [h1, h2] at hx; simp at hx
          · have hp := (hpair i j o l[j] k kj hij hol hb hk hkj).2
            rcases hp with ⟨mb, hmb, hp⟩ | ⟨_, _, hp⟩
            · exact hlater j l[j] mb hb hmb hp
            · simp only [indep, Bool.and_eq_true] at hp
              obtain ⟨h1, h2⟩ := (apartK_sound hp.2).2 hw
              rw [h1, h2] at hx; simp at hx
        have hheap : ∀ x, k.reads x = true ∨ k.writes x = true → hget σ₁ x = hget (st i).2.1 x := fun x hx => by
          obtain ⟨c, hc, c1, c2, c3⟩ := hI.heap x
          rw [← c3]
          rcases Nat.le_total i c with hic | hic
          · exact stheap x i c hic hc (fun j kj h1 h2 h3 => by
              cases hw : kj.writes x with
              | false => rfl
              | true =>
                have hl := c1 j kj (by omega) h3 hw
                by_cases hji : j = i
                · subst hji; rw [hi1] at hl; cases hl
                · have := (hordw x hx j kj h3 hw hji).2 (by omega)
                  rw [this] at hl; cases hl)
          · exact (stheap x c i hic (by omega) (fun j kj h1 h2 h3 => by
              cases hw : kj.writes x with
              | false => rfl
              | true =>
                have hl := c2 j kj h1 h3 hw
                have := (hordw x hx j kj h3 hw (by omega)).1 (by omega)
                rw [this] at hl; cases hl)).symm
        have hnext : (k.nreads = true ∨ k.nwrites = true) → n₁ = (st i).2.2 := fun hx => by
          obtain ⟨c, hc, c1, c2, c3⟩ := hI.next
          rw [← c3]
          rcases Nat.le_total i c with hic | hic
          · exact stnext i c hic hc (fun j kj h1 h2 h3 => by
              cases hw : kj.nwrites with
              | false => rfl
              | true =>
                have hl := c1 j kj (by omega) h3 hw
                by_cases hji : j = i
                · subst hji; rw [hi1] at hl; cases hl
                · have := (hordn hx j kj h3 hw hji).2 (by omega)
                  rw [this] at hl; cases hl)
          · exact (stnext c i hic (by omega) (fun j kj h1 h2 h3 => by
              cases hw : kj.nwrites with
              | false => rfl
              | true =>
                have hl := c2 j kj h1 h3 hw
                have := (hordn hx j kj h3 hw (by omega)).1 (by omega)
                rw [this] at hl; cases hl)).symm
        -- the new listing
        have hget : ∀ j, (listed.setIfInBounds i true).getD j false = if j = i then true else listed.getD j false := fun j => by
          by_cases hji : j = i
          · subst hji
            have : j < listed.size := by omega
            simp [this]
          · rw [if_neg hji]; exact getD_set_ne false (Ne.symm hji)
        have hcnt' : ((List.range l.length).filter fun j => !(listed.setIfInBounds i true).getD j false).length = fuel := by
          have := count_set listed i l.length hilt hi1 (by omega)
          omega
        have hinv' : ∀ (e₂ : Env) (σ₂ : Heap) (n₂ : Nat), (∀ t, o.dst ≠ some t → eget e₂ t = eget e₁ t) → (∀ t, o.dst = some t → eget e₂ t = eget (st (i + 1)).1 t) →
            (∀ x, k.writes x = true → Ma.hget σ₂ x = Ma.hget (st (i + 1)).2.1 x) → (∀ x, k.writes x = false → Ma.hget σ₂ x = Ma.hget σ₁ x) → (k.nwrites = true → n₂ = (st (i + 1)).2.2) → (k.nwrites = false → n₂ = n₁) →
            DInv ops l ks st (listed.setIfInBounds i true) e₂ σ₂ n₂ := fun e₂ σ₂ n₂ he1 he2 hw1 hw2 hn1 hn2 => by
          refine ⟨by simp [hs], fun j b hb hl x hx => ?_, fun j b t hb hbt hl => ?_, fun t ht => ?_, fun x => ?_, ?_⟩
          · rw [hget] at hl ⊢
            by_cases hxi : x = i
            · simp [hxi]
            · rw [if_neg hxi]
              by_cases hji : j = i
              · subst hji
                rw [hol] at hb; cases hb
                exact haft x hx
              · rw [if_neg hji] at hl
                exact hI.down j b hb hl x hx
          · rw [hget] at hl
            by_cases hji : j = i
            · subst hji
              rw [hol] at hb; cases hb
              rw [he2 t hbt]
              have := stenv t (j + 1) (l.length - (j + 1)) (by omega) (fun i' o' h1 _ h2 hd => by have := hdst i' j o' o t h2 hol hd hbt; omega)
              rw [show j + 1 + (l.length - (j + 1)) = l.length by omega] at this
              exact this.symm
            · rw [if_neg hji] at hl
              rw [he1 t (fun h => hji (hdst j i b o t hb hol hbt h))]
              exact hI.env1 j b t hb hbt hl
          · have hoi : o.dst ≠ some t := fun h => by
              have := ht i o hol h
              rw [hget] at this; simp at this
            rw [he1 t hoi]
            refine hI.env2 t fun j b hb hbt => ?_
            have := ht j b hb hbt
            rw [hget] at this
            by_cases hji : j = i
            · simp [hji] at this
            · rw [if_neg hji] at this; exact this
          · cases hwx : k.writes x with
            | true =>
              refine ⟨i + 1, by omega, fun j kj h1 h2 h3 => ?_, fun j kj h1 h2 h3 => ?_, (hw1 x hwx).symm⟩
              · rw [hget]
                by_cases hji : j = i
                · simp [hji]
                · rw [if_neg hji]; exact (hordw x (.inr hwx) j kj h2 h3 hji).1 (by omega)
              · rw [hget, if_neg (by omega)]
                exact (hordw x (.inr hwx) j kj h2 h3 (by omega)).2 (by omega)
            | false =>
              obtain ⟨c, hc, c1, c2, c3⟩ := hI.heap x
              refine ⟨c, hc, fun j kj h1 h2 h3 => ?_, fun j kj h1 h2 h3 => ?_, by rw [c3, hw2 x hwx]⟩
              · rw [hget]
                by_cases hji : j = i
                · simp [hji]
                · rw [if_neg hji]; exact c1 j kj h1 h2 h3
              · rw [hget, if_neg (fun h => by subst h; rw [hk] at h2; cases h2; rw [hwx] at h3; cases h3)]
                exact c2 j kj h1 h2 h3
          · cases hwx : k.nwrites with
            | true =>
              refine ⟨i + 1, by omega, fun j kj h1 h2 h3 => ?_, fun j kj h1 h2 h3 => ?_, (hn1 hwx).symm⟩
              · rw [hget]
                by_cases hji : j = i
                · simp [hji]
                · rw [if_neg hji]; exact (hordn (.inr hwx) j kj h2 h3 hji).1 (by omega)
              · rw [hget, if_neg (by omega)]
                exact (hordn (.inr hwx) j kj h2 h3 (by omega)).2 (by omega)
            | false =>
              obtain ⟨c, hc, c1, c2, c3⟩ := hI.next
              refine ⟨c, hc, fun j kj h1 h2 h3 => ?_, fun j kj h1 h2 h3 => ?_, by rw [c3, hn2 hwx]⟩
              · rw [hget]
                by_cases hji : j = i
                · simp [hji]
                · rw [if_neg hji]; exact c1 j kj h1 h2 h3
              · rw [hget, if_neg (fun h => by subst h; rw [hk] at h2; cases h2; rw [hwx] at h3; cases h3)]
                exact c2 j kj h1 h2 h3
        -- carried out, or skipped
        have hputs : ∀ (v : AV) (t : Nat), o.dst ≠ some t → eget (eput e₁ o.dst v) t = eget e₁ t := fun v t ht => by
          cases hdd : o.dst with
          | none => rfl
          | some d => rw [eget_eput, if_neg (fun h => ht (by rw [hdd, h]))]
        have hputd : ∀ (e : Env) (v : AV) (t : Nat), o.dst = some t → eget (eput e o.dst v) t = some v := fun e v t ht => by rw [ht, eget_eput, if_pos rfl]
        generalize hsi : st i = si at *
        generalize hsi1 : st (i + 1) = si1 at *
        cases hstep with
        | skip hga hdo =>
          rename_i e₀ σ₀ m₀
          unfold wpOp
          simp only [ho]
          rw [if_neg (by rw [aguard_sound he ((aguard_agree hagree).trans hga)]; simp)]
          have hsz : (ca.put o.dst undef).tmps.size = N := by
            cases o.dst <;> simp [Act.put, hN]
          have hdd : (ca.put o.dst undef).defers = [] := by
            cases o.dst <;> simp [Act.put, hd]
          have hlt' : ∀ t, o.dst = some t → t < ca.tmps.size := fun t ht => by
            rw [dstOk, ht] at hdo
            exact Nat.lt_of_lt_of_eq (of_decide_eq_true hdo) hN.symm
          refine ih _ (eput e₁ o.dst (.tup [])) σ₁ n₁ hcnt' (hinv' _ _ _ (hputs _) (fun t ht => ?_) (fun x hx => hheap x (.inr hx)) (fun _ _ => rfl) (fun hx => hnext (.inr hx)) fun _ => rfl) ρ Φ w _ hR hg (he.put (.tup rfl fun j x v hx => by simp at hx) hlt') hsz hdd
          rw [hputd _ _ t ht]; exact (hputd _ _ t ht).symm
        | run hga hdo hop hf hn =>
          rename_i e₀ σ₀ σs m₀ ms v
          obtain ⟨σ₂, n₂, g1, g2, g3, g4, hopk⟩ := hop e₁ σ₁ n₁ hagree (fun x hx => hheap x (.inl hx)) (fun hx => hnext (.inl hx))
          unfold wpOp
          simp only [ho]
          rw [if_pos (aguard_sound he ((aguard_agree hagree).trans hga))]
          refine .inl (hopk ρ Φ w ca _ _ hR hg he fun v' σ' n' ρ' Φ' cv w' hq' hv hR' hss => ?_)
          obtain ⟨rfl, rfl, rfl⟩ := hq'
          have hlt' : ∀ t, o.dst = some t → t < ca.tmps.size := fun t ht => by
            rw [dstOk, ht] at hdo
            exact Nat.lt_of_lt_of_eq (of_decide_eq_true hdo) hN.symm
          have hsz : (ca.put o.dst cv).tmps.size = N := by
            cases o.dst <;> simp [Act.put, hN]
          have hdd : (ca.put o.dst cv).defers = [] := by
            cases o.dst <;> simp [Act.put, hd]
          refine wpAny_mono (fun _ _ _ hp => Post.step (hss.toN n0) hp) _ _ _ _ (ih _ (eput e₁ o.dst v') σ' n' hcnt' (hinv' _ _ _ (hputs v') (fun t ht => ?_) g1 g2 g3 g4) ρ' Φ' w' _ hR' (hg.mono hss.frz) ((he.mono hss.keep hss.frz).put hv hlt') hsz hdd)
          rw [hputd _ _ t ht]; exact (hputd _ _ t ht).symm
  intro ρ Φ w ca hR hg he hN hd
  refine wp_region_any hm ?_
  have hrep : ∀ j, (Array.replicate ops.size false).getD j false = false := fun j => by
    rw [Array.getD_eq_getD_getElem?]
    by_cases hj : j < ops.size <;> simp [hj]
  have hinv : DInv ops l ks st (Array.replicate ops.size false) e σ n := by
    refine ⟨by simp [hsize], fun i o _ hl => absurd hl (by rw [hrep]; simp), fun i o t _ _ hl => absurd hl (by rw [hrep]; simp), fun t _ => by rw [hs0], fun x => ⟨0, by omega, fun j k hj => by omega, fun j k _ _ _ => hrep j, by rw [hs0]⟩, 0, by omega, fun j k hj => by omega, fun j k _ _ _ => hrep j, by rw [hs0]⟩
  have hc0 : ((List.range l.length).filter fun i => !(Array.replicate ops.size false).getD i false).length = ops.size := by
    have : ((List.range l.length).filter fun i => !(Array.replicate ops.size false).getD i false) = List.range l.length := by
      rw [List.filter_eq_self]
      intro i _
      rw [hrep]; rfl
    rw [this, hsize]; simp
  have := key ops.size (Array.replicate ops.size false) e σ n hc0 hinv ρ Φ { w with drawn := w.drawn + 1 } ca (hR.drawn _) hg he hN hd
  exact wpAny_mono (fun _ _ _ hp => Post.step ((Step.drawn ρ Φ σ w (w.drawn + 1)).toN n0) hp) _ _ _ _ this
end
end Go.Ma
