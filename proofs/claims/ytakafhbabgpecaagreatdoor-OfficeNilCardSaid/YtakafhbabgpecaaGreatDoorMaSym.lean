/- Walks with variables in them: over the interpreter's own temporaries, piece by piece. -/
import Derived.Test.YtakafhbabgpecaaGreatDoorMaProg
namespace Go.Ma
section
variable {P : Program} {C : Ctx} {N n0 : Nat} {call : CallT}

abbrev TQ := AX → Tr → Heap → Nat → Prop

def toQ (N : Nat) (Q : TQ) : Exit → Env → Heap → Nat → Prop := fun x e σ n => ∃ ax T, x = ax.to ∧ Repr N e T ∧ Q ax T σ n

def TWp (P : Program) (C : Ctx) (N n0 : Nat) (c : Code) (Q : TQ) (T : Tr) (σ : Heap) (n : Nat) : Prop :=
  ∀ e, Repr N e T → AWp P C.G N n0 c (toQ N Q) e σ n

/-- The operations of a region from number k on. -/
def TOps (P : Program) (C : Ctx) (N n0 : Nat) (ops : Array Oper) (k : Nat) (Q : Tr → Heap → Nat → Prop) (T : Tr) (σ : Heap) (n : Nat) : Prop :=
  ∀ e, Repr N e T → AOps P C.G N n0 ops (List.range' k (ops.size - k)) (toQ N fun x T σ n => x = .normal ∧ Q T σ n) e σ n

theorem TWp.mono {c : Code} {Q Q' : TQ} {T : Tr} {σ : Heap} {n : Nat} (h : TWp P C N n0 c Q T σ n) (hq : ∀ x T σ n, Q x T σ n → Q' x T σ n) : TWp P C N n0 c Q' T σ n :=
  fun e hr => (h e hr).mono fun _ _ _ _ ⟨ax, T', h1, h2, h3⟩ => ⟨ax, T', h1, h2, hq _ _ _ _ h3⟩

theorem TWp.skip {Q : TQ} {T : Tr} {σ : Heap} {n : Nat} (h : Q .normal T σ n) : TWp P C N n0 .skip Q T σ n := fun e hr => AWp.skip ⟨.normal, T, rfl, hr, h⟩
theorem TWp.exit {i : Nat} {Q : TQ} {T : Tr} {σ : Heap} {n : Nat} (h : Q (.exit i) T σ n) : TWp P C N n0 (.exit i) Q T σ n := fun e hr => AWp.exit ⟨.exit i, T, rfl, hr, h⟩
theorem TWp.ret {Q : TQ} {T : Tr} {σ : Heap} {n : Nat} (h : Q .ret T σ n) : TWp P C N n0 .ret Q T σ n := fun e hr => AWp.ret ⟨.ret, T, rfl, hr, h⟩

def thenT (next : Tr → Heap → Nat → Prop) (Q : TQ) : TQ
  | .normal, T, σ, n => next T σ n
  | x, T, σ, n => Q x T σ n

theorem TWp.seq {a b : Code} {Q : TQ} {T : Tr} {σ : Heap} {n : Nat} (h : TWp P C N n0 a (thenT (TWp P C N n0 b Q) Q) T σ n) : TWp P C N n0 (.seq a b) Q T σ n := fun e hr =>
  AWp.seq ((h e hr).mono fun x e' σ' n' ⟨ax, T', h1, h2, h3⟩ => by
    subst h1
    cases ax with
    | normal => exact h3 e' h2
    | exit i => exact ⟨_, T', rfl, h2, h3⟩
    | ret => exact ⟨_, T', rfl, h2, h3⟩)

def blockT (i : Nat) (Q : TQ) : TQ
  | .exit j, T, σ, n => if j = i then Q .normal T σ n else Q (.exit j) T σ n
  | x, T, σ, n => Q x T σ n

theorem TWp.block {i : Nat} {c : Code} {Q : TQ} {T : Tr} {σ : Heap} {n : Nat} (h : TWp P C N n0 c (blockT i Q) T σ n) : TWp P C N n0 (.block i c) Q T σ n := fun e hr =>
  AWp.block ((h e hr).mono fun x e' σ' n' ⟨ax, T', h1, h2, h3⟩ => by
    subst h1
    cases ax with
    | normal => exact ⟨.normal, T', rfl, h2, h3⟩
    | exit j =>
      show (if j = i then toQ N Q .normal e' σ' n' else toQ N Q (.exit j) e' σ' n')
      simp only [blockT] at h3
      split
      · rename_i hj; rw [if_pos hj] at h3; exact ⟨.normal, T', rfl, h2, h3⟩
      · rename_i hj; rw [if_neg hj] at h3; exact ⟨.exit j, T', rfl, h2, h3⟩
    | ret => exact ⟨.ret, T', rfl, h2, h3⟩)

theorem TWp.cond {c : Operand} {a b : Code} {t : Bool} {Q : TQ} {T : Tr} {σ : Heap} {n : Nat} (hc : (copd C.G N c).run T = some (.bool t)) (h1 : t = true → TWp P C N n0 a Q T σ n) (h2 : t = false → TWp P C N n0 b Q T σ n) :
    TWp P C N n0 (.cond c a b) Q T σ n := fun e hr => AWp.split (copd_sound hr hc) (fun ht => h1 ht e hr) (fun ht => h2 ht e hr)

/-- A test that is known. -/
theorem TWp.condk {c : Operand} {a b : Code} (t : Bool) {Q : TQ} {T : Tr} {σ : Heap} {n : Nat} (hc : (copd C.G N c).run T = some (.bool t)) (h : TWp P C N n0 (if t then a else b) Q T σ n) :
    TWp P C N n0 (.cond c a b) Q T σ n := fun e hr => AWp.cond (copd_sound hr hc) (h e hr)

theorem TWp.run (hC : CtxOk P C) (hN : N ≤ 4096) (hc : CallOk P C call) (lf : Nat) {c : Code} {Q : TQ} {T : Tr} {σ : Heap} {n : Nat} {r : Out} (h : (ccode C N lf c).run call T σ n = some r) (hq : Q r.x r.T r.σ r.n) : TWp P C N n0 c Q T σ n :=
  fun e hr => ccode_sound hC hN hc c T σ n r h e hr _ fun e' he' => ⟨r.x, r.T, rfl, he', hq⟩

theorem TWp.region {id : Nat} {ops : Array Oper} {Q : TQ} {T : Tr} {σ : Heap} {n : Nat} (h : TOps P C N n0 ops 0 (Q .normal) T σ n) : TWp P C N n0 (.region id ops false) Q T σ n := fun e hr => by
  refine AWp.region ?_
  have := h e hr
  simp only [Nat.sub_zero, ← List.range_eq_range'] at this
  exact AOps_mono (fun x e σ n ⟨ax, T', h1, h2, h3, h4⟩ => ⟨ax, T', h1, h2, by rw [h3]; exact h4⟩) this
where
  AOps_mono {ops : Array Oper} {l : List Nat} {Q Q' : Exit → Env → Heap → Nat → Prop} {e : Env} {σ : Heap} {n : Nat} (hq : ∀ x e σ n, Q x e σ n → Q' x e σ n) (h : AOps P C.G N n0 ops l Q e σ n) : AOps P C.G N n0 ops l Q' e σ n :=
    fun ρ Φ w ca hR hg he hN hd => wpOps_mono (fun _ _ _ hp => Post.mono hq hp) _ _ _ (h ρ Φ w ca hR hg he hN hd)

/-- m operations of a region, carried out. -/
theorem TOps.seg (hC : CtxOk P C) (hN : N ≤ 4096) (hc : CallOk P C call) {ops : Array Oper} (k m : Nat) {Q : Tr → Heap → Nat → Prop} {T T' : Tr} {σ σ' : Heap} {n n' : Nat}
    (h : (cregion C N ops ((ops.toList.drop k).take m)).run call T σ n = some (T', σ', n')) (hm : k + m ≤ ops.size) (hq : TOps P C N n0 ops (k + m) Q T' σ' n') : TOps P C N n0 ops k Q T σ n := fun e hr => by
  obtain ⟨e', h1, h2⟩ := cregion_sound hC hN hc _ _ _ _ _ _ _ h e hr
  have hl : ((ops.toList.drop k).take m).length = m := by simp; omega
  have := DRun.ops (n0 := n0) (Q := toQ N fun x T σ n => x = .normal ∧ Q T σ n) ((ops.toList.drop k).take m) _ k _ _ (List.range' (k + m) (ops.size - (k + m))) (fun j o ho => by
    rw [List.getElem?_take] at ho
    split at ho
    · rw [List.getElem?_drop] at ho; simpa using ho
    · cases ho) h2 (hq e' h1)
  rw [hl] at this
  have hr : List.range' k (ops.size - k) = List.range' k m ++ List.range' (k + m) (ops.size - (k + m)) := by
    rw [List.range'_append_1]; congr 1; omega
  rw [hr]
  exact this

theorem TOps.nil {ops : Array Oper} {k : Nat} {Q : Tr → Heap → Nat → Prop} {T : Tr} {σ : Heap} {n : Nat} (hk : ops.size ≤ k) (h : Q T σ n) : TOps P C N n0 ops k Q T σ n := fun e hr => by
  rw [show ops.size - k = 0 by omega]
  exact AOps.nil ⟨.normal, T, rfl, hr, rfl, h⟩

/-- The rest of a region, carried out. -/
theorem TOps.rest (hC : CtxOk P C) (hN : N ≤ 4096) (hc : CallOk P C call) {ops : Array Oper} (k : Nat) {Q : Tr → Heap → Nat → Prop} {T T' : Tr} {σ σ' : Heap} {n n' : Nat}
    (h : (cregion C N ops (ops.toList.drop k)).run call T σ n = some (T', σ', n')) (hk : k ≤ ops.size) (hq : Q T' σ' n') : TOps P C N n0 ops k Q T σ n := by
  refine TOps.seg hC hN hc k (ops.size - k) (T' := T') (σ' := σ') (n' := n') ?_ (by omega) (TOps.nil (by omega) hq)
  rw [List.take_of_length_le (by simp)]
  exact h

theorem TWp.loop {c : Code} {Q : TQ} {T : Tr} {σ : Heap} {n : Nat} {ι : Type} (I : ι → Tr → Heap → Nat → Prop) (μ : ι → Nat) (i0 : ι) (h0 : I i0 T σ n)
    (round : ∀ i T σ n, I i T σ n → TWp P C N n0 c (thenT (fun T σ n => ∃ j, I j T σ n ∧ μ j < μ i) Q) T σ n) : TWp P C N n0 (.loop c) Q T σ n := fun e hr =>
  AWp.loop (fun i e σ n => ∃ T, Repr N e T ∧ I i T σ n) μ i0 ⟨T, hr, h0⟩ fun i e σ n ⟨T, hr, hI⟩ =>
    (round i T σ n hI e hr).mono fun x e' σ' n' ⟨ax, T', h1, h2, h3⟩ => by
      subst h1
      cases ax with
      | normal => obtain ⟨j, hj, hlt⟩ := h3; exact ⟨j, ⟨T', h2, hj⟩, hlt⟩
      | exit i => exact ⟨_, T', rfl, h2, h3⟩
      | ret => exact ⟨_, T', rfl, h2, h3⟩

/-- Behind a body: what the function hands back. -/
def bodyT (C : Ctx) (fn : Func) (Q : AV → Heap → Nat → Prop) : TQ
  | .exit _, _, _, _ => False
  | _, T, σ, n => ∃ l, aresults C.TT (envOf fn.ntmps T (resTs fn.results.toList)) σ fn.results.toList = some l ∧ Q (apack l) σ n

theorem ACalls.bodyT (hC : CtxOk P C) {f : FuncId} {fn : Func} {c : Code} (hf : FnOk P f fn c) {args : List AV} {σ : Heap} {n : Nat} {Q : AV → Heap → Nat → Prop} (hN : Nat.ble fn.ntmps 4096 = true) (hle : Nat.ble args.length fn.ntmps = true)
    (h : TWp P C fn.ntmps n c (bodyT C fn Q) (tr0 args 0 .leaf) σ n) : ACalls P C.G f args σ n Q := by
  have hN := Nat.le_of_ble_eq_true hN
  have hle := Nat.le_of_ble_eq_true hle
  refine ACalls.body hC.tt hf rfl hle ((h _ (Repr.args hle hN)).mono fun x e' σ' n' ⟨ax, T', h1, h2, h3⟩ => ?_)
  subst h1
  cases ax with
  | exit i => exact h3.elim
  | normal =>
    obtain ⟨l, hl, hq⟩ := h3
    exact ⟨l, aresults_env (fun t x hx => (envOf_get h2 hx).2) hl, hq⟩
  | ret =>
    obtain ⟨l, hl, hq⟩ := h3
    exact ⟨l, aresults_env (fun t x hx => (envOf_get h2 hx).2) hl, hq⟩

/-! ### Less may be known of the temporaries -/

def trOf : List (Nat × AV) → Tr
  | [] => .leaf
  | (t, v) :: l => tput v (pathOf t) (trOf l)

/-- The temporaries hold these. -/
def Holds (N : Nat) (T : Tr) : List (Nat × AV) → Prop
  | [] => True
  | (t, v) :: l => (Nat.blt t N = true ∧ tget (pathOf t) T = some v) ∧ Holds N T l

def envL : List (Nat × AV) → Env
  | [] => []
  | (t, v) :: l => (t, v) :: envL l

theorem trOf_repr (hN : N ≤ 4096) : ∀ (l : List (Nat × AV)) (T : Tr), Holds N T l → Repr N (envL l) (trOf l) := by
  intro l
  induction l with
  | nil => intro T _ t _; simp [envL, eget, trOf, tget_leaf]
  | cons p l ih =>
    intro T h t ht
    obtain ⟨a, v⟩ := p
    obtain ⟨⟨h1, _⟩, h2⟩ := h
    have ha := (blt_iff a N).mp h1
    simp only [envL, eget, trOf, tget_tput]
    by_cases hat : a = t
    · subst hat; simp
    · rw [if_neg hat, if_neg (fun hh => hat (pathOf_inj (by omega) (by omega) hh))]
      exact ih T h2 t ht

theorem holds_get {T : Tr} : ∀ {l : List (Nat × AV)}, Holds N T l → ∀ t v, eget (envL l) t = some v → t < N ∧ tget (pathOf t) T = some v := by
  intro l
  induction l with
  | nil => intro _ t v h; simp [envL, eget] at h
  | cons p l ih =>
    intro h t v hv
    obtain ⟨a, u⟩ := p
    obtain ⟨⟨h1, h3⟩, h2⟩ := h
    simp only [envL, eget] at hv
    by_cases hat : a = t
    · subst hat
      simp only [if_true, Option.some.injEq] at hv
      subst hv
      exact ⟨(blt_iff _ _).mp h1, h3⟩
    · rw [if_neg hat] at hv
      exact ih h2 t v hv

theorem TWp.keep (hN : N ≤ 4096) (l : List (Nat × AV)) {c : Code} {Q : TQ} {T : Tr} {σ : Heap} {n : Nat} (hl : Holds N T l) (h : TWp P C N n0 c Q (trOf l) σ n) : TWp P C N n0 c Q T σ n := fun e hr =>
  (h (envL l) (trOf_repr hN l T hl)).env fun t v hv => by
    obtain ⟨h1, h2⟩ := holds_get hl t v hv
    rw [hr t h1]; exact h2

theorem TOps.keep (hN : N ≤ 4096) (l : List (Nat × AV)) {ops : Array Oper} {k : Nat} {Q : Tr → Heap → Nat → Prop} {T : Tr} {σ : Heap} {n : Nat} (hl : Holds N T l) (h : TOps P C N n0 ops k Q (trOf l) σ n) : TOps P C N n0 ops k Q T σ n := fun e hr =>
  (h (envL l) (trOf_repr hN l T hl)).env fun t v hv => by
    obtain ⟨h1, h2⟩ := holds_get hl t v hv
    rw [hr t h1]; exact h2

/-! ### One operation -/

theorem TOps.one (hC : CtxOk P C) (hN : N ≤ 4096) (hc : CallOk P C call) {ops : Array Oper} (k : Nat) {o : Oper} (ho : ops[k]? = some o) (hgd : o.guard = none) (hd : dstOk N o = true) {Q : Tr → Heap → Nat → Prop} {T : Tr} {σ σ' : Heap} {n n' : Nat} {v : AV}
    (h : (cop C N o).run call T σ n = some (v, σ', n')) (hq : TOps P C N n0 ops (k + 1) Q (cput o.dst v T) σ' n') : TOps P C N n0 ops k Q T σ n := by
  have hk : k < ops.size := by
    rcases Nat.lt_or_ge k ops.size with hh | hh
    · exact hh
    · simp [Array.getElem?_eq_none hh] at ho
  refine TOps.seg hC hN hc k 1 (T' := cput o.dst v T) (σ' := σ') (n' := n') ?_ (by omega) hq
  have hl : (ops.toList.drop k).take 1 = [o] := by
    rw [List.drop_eq_getElem_cons (by simpa using hk)]
    have : ops.toList[k] = o := by
      have h2 : ops[k] = o := by rw [Array.getElem?_eq_getElem hk] at ho; simpa using ho
      simpa using h2
    simp [this]
  rw [hl]
  simp only [cregion, hd, hgd, h]

theorem TOps.oneG (hC : CtxOk P C) (hN : N ≤ 4096) (hc : CallOk P C call) {ops : Array Oper} (k : Nat) {o : Oper} (ho : ops[k]? = some o) {j d : Nat} {b : Bool} (hgd : o.guard = some (j, b)) (hj : (ops[j]?).bind (·.dst) = some d) (hd : dstOk N o = true) {Q : Tr → Heap → Nat → Prop} {T : Tr} {σ σ' : Heap} {n n' : Nat} {v : AV}
    (hb : Nat.blt d N = true) (ht : tget (pathOf d) T = some (.bool b)) (h : (cop C N o).run call T σ n = some (v, σ', n')) (hq : TOps P C N n0 ops (k + 1) Q (cput o.dst v T) σ' n') : TOps P C N n0 ops k Q T σ n := by
  have hk : k < ops.size := by
    rcases Nat.lt_or_ge k ops.size with hh | hh
    · exact hh
    · simp [Array.getElem?_eq_none hh] at ho
  refine TOps.seg hC hN hc k 1 (T' := cput o.dst v T) (σ' := σ') (n' := n') ?_ (by omega) hq
  have hl : (ops.toList.drop k).take 1 = [o] := by
    rw [List.drop_eq_getElem_cons (by simpa using hk)]
    have : ops.toList[k] = o := by
      have h2 : ops[k] = o := by rw [Array.getElem?_eq_getElem hk] at ho; simpa using ho
      simpa using h2
    simp [this]
  rw [hl]
  have hx : Bool.xor b b = false := by cases b <;> rfl
  simp only [cregion, hd, hgd, hj, hb, ht, hx, h]

/-! ### A call, by what was proved of it -/

theorem guard_none {ops : Array Oper} {o : Oper} {T : Tr} (hgd : o.guard = none) : ∀ e, Repr N e T → aguard ops e o = some true := fun e _ => by simp [aguard, hgd]

theorem guard_some {ops : Array Oper} {o : Oper} {T : Tr} {j d : Nat} {b : Bool} (hgd : o.guard = some (j, b)) (hj : (ops[j]?).bind (·.dst) = some d) (hb : Nat.blt d N = true) (ht : tget (pathOf d) T = some (.bool b)) : ∀ e, Repr N e T → aguard ops e o = some true := fun e hr => by
  have : eget e d = some (.bool b) := by rw [hr d ((blt_iff d N).mp hb)]; exact ht
  simp [aguard, hgd, hj, this]

theorem evs_aevals {e : Env} {T : Tr} {G : Globals} (hr : Repr N e T) {l : List Operand} {r : List AV} (h : evs T (l.map (copd G N)) = some r) : aevals G e l = some r := evs_sound hr h

theorem TOps.callQ (hN : N ≤ 4096) {ops : Array Oper} (k : Nat) {o : Oper} (ho : ops[k]? = some o) {T : Tr} (hg : ∀ e, Repr N e T → aguard ops e o = some true) (hd : dstOk N o = true) {Q : Tr → Heap → Nat → Prop} {σ : Heap} {n : Nat}
    {x : Operand} {args : Array Operand} {ts : Array TypeId} (hop : o.op = .call { callee := .value x, args := args, argTypes := ts }) {f : FuncId} {l m r : List AV} (hx : (copd C.G N x).run T = some (.fn f l m)) (hr : evs T (args.toList.map (copd C.G N)) = some r)
    {fn : Func} {c : Code} (hf : FnOk P f fn c) {R : AV → Heap → Nat → Prop} (h : ACalls P C.G f (l ++ r ++ m) σ n R) (hq : ∀ v σ' n', R v σ' n' → TOps P C N n0 ops (k + 1) Q (cput o.dst v T) σ' n') : TOps P C N n0 ops k Q T σ n := fun e he => by
  have hk : k < ops.size := by
    rcases Nat.lt_or_ge k ops.size with hh | hh
    · exact hh
    · simp [Array.getElem?_eq_none hh] at ho
  rw [show ops.size - k = (ops.size - (k + 1)) + 1 by omega, List.range'_succ]
  refine AOps.op ho (hg e he) hd (OpOk.call hop (copd_sound he hx) (evs_aevals he hr) hf (h.mono fun v σ' n' hR => ?_))
  exact hq v σ' n' hR _ (he.put hN (dstOk_lt hd))

/-- An element of a slice that nobody writes. -/
theorem cop_indexAddr {o : Oper} {t : TypeId} {x ix : Operand} (ho : o.op = .indexAddr t x ix) {el : TypeId} {a b : Nat} {z : List AV} {q : Bool} (ht : C.TT t = some ⟨.slice el, a, b, z, q⟩) {ei : TI} (he : C.TT el = some ei) {T : Tr} {els : List (List AV)} {i : Nat} {row : List AV}
    (hx : (copd C.G N x).run T = some (.fs els)) {k : IntKind} (hi : (copd C.G N ix).run T = some (.int k (i : Int))) (hr : els[i]? = some row) (hz : row.length = ei.size) {σ : Heap} {n : Nat} : (cop C N o).run call T σ n = some (.fp row 0, σ, n) := by
  have h1 : aindexAddr C.TT t (.fs els) (.int k (i : Int)) = some (.fp row 0) := by
    simp [aindexAddr, ht, he, hr, hz]
  simp only [cop, ho, kindOf, clook, cpure, hx, hi, h1]

/-- What was proved of one call, as something known. -/
def oneBase (f : Nat) (p : List AV → Heap → Nat → Option (AV × Heap × Nat)) : CallT := fun g args σ n => match Nat.beq g f with
  | true => p args σ n
  | false => none

theorem oneBase_ok {f : Nat} {p : List AV → Heap → Nat → Option (AV × Heap × Nat)} (hf : ∃ fn c, FnOk P f fn c) (h : ∀ args σ n v σ' n', p args σ n = some (v, σ', n') → ACalls P C.G f args σ n fun x s m => x = v ∧ s = σ' ∧ m = n') : CallOk P C (oneBase f p) := by
  intro g args σ n v σ' n' hp
  simp only [oneBase] at hp
  split at hp
  · rename_i hg
    rw [(beq_iff _ _).mp hg]
    exact ⟨hf, h _ _ _ _ _ _ hp⟩
  · cases hp
end
end Go.Ma
