/- The interpreter: regions, code. -/
import Derived.Test.YtakafhbabgpecaaGreatDoorMaFast2
namespace Go.Ma
section
variable {P : Program} {N n0 : Nat} {C : Ctx}

/-! ### Are two heaps the same? -/

def all2 {α : Type} (r : α → α → Bool) : List α → List α → Bool
  | [], [] => true
  | a :: l, b :: m => match r a b with
    | true => all2 r l m
    | false => false
  | _, _ => false

theorem all2_eq {α : Type} {r : α → α → Bool} (h : ∀ a b, r a b = true → a = b) : ∀ {l m : List α}, all2 r l m = true → l = m := by
  intro l
  induction l with
  | nil => intro m hm; cases m with | nil => rfl | cons _ _ => cases hm
  | cons a l ih =>
    intro m hm
    cases m with
    | nil => cases hm
    | cons b m =>
      simp only [all2] at hm
      split at hm
      · rename_i hab
        rw [h _ _ hab, ih hm]
      · cases hm

def eqI (a b : Int) : Bool :=
  match a, b with
  | .ofNat m, .ofNat n => Nat.beq m n
  | .negSucc m, .negSucc n => Nat.beq m n
  | _, _ => false

theorem eqI_eq {a b : Int} (h : eqI a b = true) : a = b := by
  cases a <;> cases b <;> simp only [eqI, Bool.false_eq_true] at h <;> rw [(beq_iff _ _).mp h]

def eqS (a b : ByteArray) : Bool := all2 (fun (x y : UInt8) => Nat.beq x.toNat y.toNat) a.data.toList b.data.toList

theorem eqS_eq {a b : ByteArray} (h : eqS a b = true) : a = b := by
  have := all2_eq (fun x y hxy => UInt8.toNat_inj.mp ((beq_iff _ _).mp hxy)) h
  cases a; cases b
  simp only [ByteArray.mk.injEq]
  exact Array.toList_inj.mp this

def avEq : Nat → AV → AV → Bool
  | 0, _, _ => false
  | d + 1, x, y => match x, y with
    | .bool a, .bool b => (match a, b with | true, true => true | false, false => true | _, _ => false)
    | .int k a, .int k' b => (match (ckind k).run k' with
      | true => eqI a b
      | false => false)
    | .str a, .str b => eqS a b
    | .nilp, .nilp => true
    | .ptr i a, .ptr j b => Nat.beq i j && Nat.beq a b
    | .fp l a, .fp m b => Nat.beq a b && all2 (avEq d) l m
    | .nils, .nils => true
    | .sl i a k, .sl j b m => Nat.beq i j && Nat.beq a b && Nat.beq k m
    | .fs l, .fs m => all2 (all2 (avEq d)) l m
    | .nilm, .nilm => true
    | .map i, .map j => Nat.beq i j
    | .nilf, .nilf => true
    | .fn f l m, .fn g l' m' => Nat.beq f g && all2 (avEq d) l l' && all2 (avEq d) m m'
    | .niliface, .niliface => true
    | .iface t x, .iface u y => Nat.beq t u && avEq d x y
    | .agg l, .agg m => all2 (avEq d) l m
    | .tup l, .tup m => all2 (avEq d) l m
    | _, _ => false

theorem avEq_eq : ∀ (d : Nat) (x y : AV), avEq d x y = true → x = y := by
  intro d
  induction d with
  | zero => intro x y h; cases h
  | succ d ih =>
    intro x y h
    have il : ∀ {l m : List AV}, all2 (avEq d) l m = true → l = m := fun h => all2_eq ih h
    have ill : ∀ {l m : List (List AV)}, all2 (all2 (avEq d)) l m = true → l = m := fun h => all2_eq (fun _ _ h => il h) h
    unfold avEq at h
    split at h
    · split at h <;> first | rfl | cases h
    · split at h
      · rename_i hk
        rw [ckind_sound hk, eqI_eq h]
      · cases h
    · rw [eqS_eq h]
    · rfl
    · simp only [Bool.and_eq_true, beq_iff] at h; rw [h.1, h.2]
    · simp only [Bool.and_eq_true, beq_iff] at h; rw [h.1, il h.2]
    · rfl
    · simp only [Bool.and_eq_true, beq_iff] at h; rw [h.1.1, h.1.2, h.2]
    · rw [ill h]
    · rfl
    · rw [(beq_iff _ _).mp h]
    · rfl
    · simp only [Bool.and_eq_true, beq_iff] at h; rw [h.1.1, il h.1.2, il h.2]
    · rfl
    · simp only [Bool.and_eq_true, beq_iff] at h; rw [h.1, ih _ _ h.2]
    · rw [il h]
    · rw [il h]
    · cases h

def objEq : AObj → AObj → Bool
  | .cells z l, .cells z' m => Nat.beq z z' && all2 (avEq 40) l m
  | .map l, .map m => all2 (fun (p q : AV × AV) => avEq 40 p.1 q.1 && avEq 40 p.2 q.2) l m
  | _, _ => false

theorem objEq_eq {a b : AObj} (h : objEq a b = true) : a = b := by
  unfold objEq at h
  split at h
  · simp only [Bool.and_eq_true, beq_iff] at h; rw [h.1, all2_eq (avEq_eq 40) h.2]
  · rw [all2_eq (fun p q hpq => by
      simp only [Bool.and_eq_true] at hpq
      exact Prod.ext (avEq_eq 40 _ _ hpq.1) (avEq_eq 40 _ _ hpq.2)) h]
  · cases h

def hsame (a b : Heap) : Bool := all2 (fun (p q : Nat × AObj) => Nat.beq p.1 q.1 && objEq p.2 q.2) a b

theorem hsame_eq {a b : Heap} (h : hsame a b = true) : a = b :=
  all2_eq (fun p q hpq => by
    simp only [Bool.and_eq_true, beq_iff] at hpq
    exact Prod.ext hpq.1 (objEq_eq hpq.2)) h

/-! ### Operations, with what they look at and turn -/

def hlow (n : Nat) : Heap → Heap
  | [] => []
  | (k, o) :: r => match Nat.blt k n with
    | true => (k, o) :: hlow n r
    | false => hlow n r

theorem hget_hlow (n : Nat) : ∀ (σ : Heap) (i : Nat), hget (hlow n σ) i = if i < n then hget σ i else none := by
  intro σ
  induction σ with
  | nil => intro i; simp [hlow, hget_nil]
  | cons p r ih =>
    intro i
    obtain ⟨k, o⟩ := p
    simp only [hlow]
    cases hb : Nat.blt k n with
    | true =>
      have hk := (blt_iff k n).mp hb
      simp only [hget_cons, ih]
      by_cases hki : k = i
      · subst hki; simp [hk]
      · simp [hki]
    | false =>
      have hk : ¬ k < n := fun h => by rw [(blt_iff k n).mpr h] at hb; cases hb
      simp only [hget_cons, ih]
      by_cases hki : k = i
      · subst hki; simp [hk]
      · simp [hki]

abbrev DRes := Option (AV × Heap × Nat × Kind)

/-- A call in a region that draws: what it turned is looked up behind it. -/
def dcall (C : Ctx) (call : CallT) (f : Nat) (args : List AV) (σ : Heap) (n : Nat) : DRes :=
  match Nat.beq (C.md f) 2, args.all (free 40) with
  | true, true => (match call f args [] 0 with
    | some (v, _, _) => (match free 40 v with
      | true => some (v, σ, n, .h0)
      | false => none)
    | none => none)
  | _, _ => (match call f args σ n with
    | some (v, σ', n') => (match hsame (hlow n σ') σ with
      | true => some (v, σ', n', .ac n)
      | false => some (v, σ', n', .ee))
    | none => none)

/-- Is a slice that is built here handed on, and not kept? -/
def fzOf (ops : Array Oper) (o : Oper) : Bool :=
  match o.op, o.dst with
  | .buildSlice _ _ _, some d => ops.toList.all fun q => match q.op with
    | .assign (.tmp t) => !Nat.beq t d
    | .move (.tmp t) => !Nat.beq t d
    | .store _ _ (.tmp t) => !Nat.beq t d
    | _ => true
  | _, _ => false

structure CDop where
  run : CallT → Tr → Heap → Nat → DRes

def cefD (C : Ctx) (N : Nat) (fz : Bool) (o : Oper) : CDop :=
  match o.op with
  | .call { callee := .value x, args := args, argTypes := _ } => ⟨fun call T σ n => match (copd C.G N x).run T, evs T (args.toList.map (copd C.G N)) with
    | some (.fn f l m), some r => dcall C call f (l ++ r ++ m) σ n
    | _, _ => none⟩
  | .call { callee := .invoke x name, args := args, argTypes := _ } => ⟨fun call T σ n => match (copd C.G N x).run T, evs T (args.toList.map (copd C.G N)) with
    | some (.iface t v), some r => (match C.M t name with
      | some f => dcall C call f (v :: r) σ n
      | none => none)
    | _, _ => none⟩
  | .store _ _ _ => ⟨fun _ T σ n => match awr C.TT C.G (envOf N T (otmps o.op)) σ o with
    | some (i, p) => some (.tup [], hset σ i p, n, .wr i)
    | none => none⟩
  | .mapUpdate _ _ _ _ => ⟨fun _ T σ n => match awr C.TT C.G (envOf N T (otmps o.op)) σ o with
    | some (i, p) => some (.tup [], hset σ i p, n, .wr i)
    | none => none⟩
  | .call _ => ⟨fun call T σ n => match (ceff C N o).run call T σ n with
    | some (v, σ', n') => some (v, σ', n', .ee)
    | none => none⟩
  | .buildSlice _ (_ + 1) _ => (match fz with
    | true => ⟨fun _ T σ n => match afrz C.TT C.G (envOf N T (otmps o.op)) o with
      | some v => some (v, σ, n, .h0)
      | none => none⟩
    | false => ⟨fun _ T σ n => match amk C.TT C.G (envOf N T (otmps o.op)) n o with
      | some (v, p) => some (v, (n, p) :: σ, n + 1, .al n)
      | none => none⟩)
  | _ => ⟨fun _ T σ n => match amk C.TT C.G (envOf N T (otmps o.op)) n o with
    | some (v, p) => some (v, (n, p) :: σ, n + 1, .al n)
    | none => none⟩

def copD (C : Ctx) (N : Nat) (fz : Bool) (o : Oper) : CDop :=
  match kindOf C o.op with
  | .ee => cefD C N fz o
  | .h0 => ⟨fun _ T σ n => match (clook C N o).run T σ with
    | some v => some (v, σ, n, .h0)
    | none => none⟩
  | _ => ⟨fun _ T σ n => match (clook C N o).run T σ with
    | some v => some (v, σ, n, .rd (oids C N T o.op.operands.toList))
    | none => none⟩

theorem dcall_sound {call : CallT} (hc : CallOk P C call) {ops : Array Oper} {o : Oper} {f : Nat} {args : List AV} {σ σ' : Heap} {n n' : Nat} {v : AV} {k : Kind} (h : dcall C call f args σ n = some (v, σ', n', k)) {e : Env}
    (hg : aguard ops e o = some true) (hd : dstOk N o = true)
    (hop : ∀ (e' : Env) (σ₁ : Heap) (n₁ : Nat) (Q : AV → Heap → Nat → Prop), Agree (looks ops o) e' e → (∃ fn c, FnOk P f fn c) → ACalls P C.G f args σ₁ n₁ Q → OpOk P C.G o e' σ₁ n₁ Q) :
    DStep P C.G N ops o k (e, σ, n) (eput e o.dst v, σ', n') := by
  unfold dcall at h
  split at h
  · rename_i hm ha
    split at h
    · rename_i v0 s0 m0 hr
      split at h
      · rename_i hv
        cases h
        obtain ⟨hf, hcall⟩ := hc _ _ _ _ _ _ _ hr
        exact .h0 hg hd fun σ₁ n₁ e' hag => hop e' σ₁ n₁ _ hag hf (ACalls.pureCall (hcall.mono fun x s m h => h.1) ha hv σ₁ n₁)
      · cases h
    · cases h
  · split at h
    · rename_i v0 s0 m0 hr
      obtain ⟨hf, hcall⟩ := hc _ _ _ _ _ _ _ hr
      split at h
      · rename_i hs
        cases h
        have hs := hsame_eq hs
        refine .ac hg hd (fun e' hag => hop e' σ n _ hag hf hcall) fun i hi => ?_
        have : hget (hlow n σ') i = hget σ i := by rw [hs]
        rw [hget_hlow, if_pos hi] at this
        exact this
      · cases h
        exact .ee hg hd fun e' hag => hop e' σ n _ hag hf hcall
    · cases h

theorem copD_sound (hC : CtxOk P C) {call : CallT} (hc : CallOk P C call) {ops : Array Oper} {o : Oper} {T : Tr} {σ σ' : Heap} {n n' : Nat} {v : AV} {k : Kind} {fz : Bool} (h : (copD C N fz o).run call T σ n = some (v, σ', n', k)) {e : Env} (hr : Repr N e T)
    (hg : aguard ops e o = some true) (hd : dstOk N o = true) : DStep P C.G N ops o k (e, σ, n) (eput e o.dst v, σ', n') := by
  have hT := hC.tt
  unfold copD at h
  rcases kindOf_cases C o.op with hk | hk | hk
  · rw [hk] at h
    simp only at h
    split at h
    · rename_i u hu
      cases h
      exact .h0 hg hd fun σ₁ n₁ e' ha => clook_h0 hC hu hk (look_env hr ha) σ₁ n₁
    · cases h
  · rw [hk] at h
    simp only at h
    split at h
    · rename_i u hu
      cases h
      exact .rd hg hd fun e' σ₁ n₁ ha hs => clook_sound hC (clook_same hk hs hu) (look_env hr ha) n₁
    · cases h
  · rw [hk] at h
    simp only [cefD] at h
    split at h
    · rename_i x args ts hop
      simp only at h
      split at h
      · rename_i f l m r hx hrr
        refine dcall_sound hc h hg hd fun e' σ₁ n₁ Q ha hf hcall => ?_
        obtain ⟨fn, c, hf⟩ := hf
        have he := look_env hr ha
        have hx' := copd_get he hx (by rw [hop]; simp [Op.operands, Call.operands])
        have hr' := evs_get he hrr (fun y hy => by rw [hop]; simp only [Op.operands, Call.operands]; simp; exact .inr (by simpa using hy))
        exact OpOk.call hop hx' hr' hf hcall
      · cases h
    · rename_i x name args ts hop
      simp only at h
      split at h
      · rename_i t u r hx hrr
        split at h
        · rename_i f hm
          refine dcall_sound hc h hg hd fun e' σ₁ n₁ Q ha hf hcall => ?_
          obtain ⟨fn, c, hf⟩ := hf
          have he := look_env hr ha
          have hx' := copd_get he hx (by rw [hop]; simp [Op.operands, Call.operands])
          have hr' := evs_get he hrr (fun y hy => by rw [hop]; simp only [Op.operands, Call.operands]; simp; exact .inr (by simpa using hy))
          exact OpOk.invoke hop hx' hr' (hC.meth _ _ _ hm) hf hcall
        · cases h
      · cases h
    · simp only at h
      split at h
      · rename_i i p hw
        cases h
        exact .wr hg hd fun e' σ₁ n₁ ha hs => (OpOk.wr hT (awr_agree hw hs)).env (look_env hr ha)
      · cases h
    · simp only at h
      split at h
      · rename_i i p hw
        cases h
        exact .wr hg hd fun e' σ₁ n₁ ha hs => (OpOk.wr hT (awr_agree hw hs)).env (look_env hr ha)
      · cases h
    · simp only at h
      split at h
      · rename_i hw
        cases h
        exact .ee hg hd fun e' ha => ceff_sound hC hc hw (look_env hr ha)
      · cases h
    · split at h
      · simp only at h
        split at h
        · rename_i u hw
          cases h
          exact .h0 hg hd fun σ₁ n₁ e' ha => (OpOk.frz hT hw ⟨rfl, rfl, rfl⟩).env (look_env hr ha)
        · cases h
      · simp only at h
        split at h
        · rename_i u p hw
          cases h
          exact .al hg hd fun e' σ₁ ha => (OpOk.mk hT hw).env (look_env hr ha)
        · cases h
    · simp only at h
      split at h
      · rename_i u p hw
        cases h
        exact .al hg hd fun e' σ₁ ha => (OpOk.mk hT hw).env (look_env hr ha)
      · cases h

/-! ### Regions -/

def cput (d : Option Nat) (x : AV) (T : Tr) : Tr :=
  match d with
  | some d => tput x (pathOf d) T
  | none => T

theorem Repr.put {e : Env} {T : Tr} (hr : Repr N e T) (hN : N ≤ 4096) {d : Option Nat} {x : AV} (hd : ∀ t, d = some t → t < N) : Repr N (eput e d x) (cput d x T) := by
  cases d with
  | none => exact hr
  | some d =>
    intro t ht
    have hdN := hd d rfl
    rw [eget_eput, cput, tget_tput]
    by_cases h : d = t
    · subst h; simp
    · rw [if_neg h, if_neg (fun hh => h (pathOf_inj (by omega) (by omega) hh))]
      exact hr t ht

structure CReg where
  run : CallT → Tr → Heap → Nat → Option (Tr × Heap × Nat)

def cregion (C : Ctx) (N : Nat) (ops : Array Oper) : List Oper → CReg
  | [] => ⟨fun _ T σ n => some (T, σ, n)⟩
  | o :: l => match dstOk N o with
    | true => (match o.guard with
      | none => ⟨fun call T σ n => match (cop C N o).run call T σ n with
        | some (v, σ', n') => (cregion C N ops l).run call (cput o.dst v T) σ' n'
        | none => none⟩
      | some (j, want) => (match (ops[j]?).bind (·.dst) with
        | some d => ⟨fun call T σ n => match Nat.blt d N, tget (pathOf d) T with
          | true, some (.bool b) => (match Bool.xor b want with
            | false => (match (cop C N o).run call T σ n with
              | some (v, σ', n') => (cregion C N ops l).run call (cput o.dst v T) σ' n'
              | none => none)
            | true => (cregion C N ops l).run call (cput o.dst (.tup []) T) σ n)
          | true, some (.tup _) => (cregion C N ops l).run call (cput o.dst (.tup []) T) σ n
          | _, _ => none⟩
        | none => ⟨fun _ _ _ _ => none⟩))
    | false => ⟨fun _ _ _ _ => none⟩

theorem dstOk_lt {o : Oper} (h : dstOk N o = true) : ∀ t, o.dst = some t → t < N := fun t ht => by
  rw [dstOk, ht] at h
  exact of_decide_eq_true h

theorem cregion_sound (hC : CtxOk P C) (hN : N ≤ 4096) {call : CallT} (hc : CallOk P C call) {ops : Array Oper} : ∀ (l : List Oper) (T : Tr) (σ : Heap) (n : Nat) (T' : Tr) (σ' : Heap) (n' : Nat),
    (cregion C N ops l).run call T σ n = some (T', σ', n') → ∀ e, Repr N e T → ∃ e', Repr N e' T' ∧ DRun P C.G N ops l (l.map fun o => kindOf C o.op) (e, σ, n) (e', σ', n') := by
  intro l
  induction l with
  | nil =>
    intro T σ n T' σ' n' h e hr
    simp only [cregion, Option.some.injEq, Prod.mk.injEq] at h
    obtain ⟨rfl, rfl, rfl⟩ := h
    exact ⟨e, hr, .nil _⟩
  | cons o l ih =>
    intro T σ n T' σ' n' h e hr
    simp only [cregion] at h
    split at h
    · rename_i hd
      have go : ∀ {v σ₁ n₁}, aguard ops e o = some true → (cop C N o).run call T σ n = some (v, σ₁, n₁) → (cregion C N ops l).run call (cput o.dst v T) σ₁ n₁ = some (T', σ', n') →
          ∃ e', Repr N e' T' ∧ DRun P C.G N ops (o :: l) ((o :: l).map fun o => kindOf C o.op) (e, σ, n) (e', σ', n') := fun {v σ₁ n₁} hg hop hrest => by
        obtain ⟨e', h1, h2⟩ := ih _ _ _ _ _ _ hrest _ (hr.put hN (dstOk_lt hd))
        exact ⟨e', h1, .cons (cop_sound hC hc hop hr hg hd) h2⟩
      have skip : aguard ops e o = some false → (cregion C N ops l).run call (cput o.dst (.tup []) T) σ n = some (T', σ', n') →
          ∃ e', Repr N e' T' ∧ DRun P C.G N ops (o :: l) ((o :: l).map fun o => kindOf C o.op) (e, σ, n) (e', σ', n') := fun hg hrest => by
        obtain ⟨e', h1, h2⟩ := ih _ _ _ _ _ _ hrest _ (hr.put hN (dstOk_lt hd))
        exact ⟨e', h1, .cons (.skip hg hd) h2⟩
      split at h
      · rename_i hgd
        simp only at h
        split at h
        · rename_i v σ₁ n₁ hop
          exact go (by simp [aguard, hgd]) hop h
        · cases h
      · rename_i j want hgd
        split at h
        · rename_i d hdst
          simp only at h
          split at h
          · rename_i b hb ht
            have hbd : eget e d = some (.bool b) := by rw [hr d ((blt_iff d N).mp hb)]; exact ht
            split at h
            · rename_i hx
              have hbw : b = want := by cases b <;> cases want <;> simp_all
              split at h
              · rename_i v σ₁ n₁ hop
                exact go (by simp [aguard, hgd, hdst, hbd, hbw]) hop h
              · cases h
            · rename_i hx
              have hbw : (b == want) = false := by cases b <;> cases want <;> simp_all
              exact skip (by simp only [aguard, hgd, hdst, hbd, hbw]) h
          · rename_i vs hb ht
            have hbd : eget e d = some (.tup vs) := by rw [hr d ((blt_iff d N).mp hb)]; exact ht
            exact skip (by simp only [aguard, hgd, hdst, hbd]) h
          · cases h
        · cases h
    · cases h

/-- In the order of the text. -/
theorem DRun.ops {ops : Array Oper} {Q : Exit → Env → Heap → Nat → Prop} : ∀ (l : List Oper) (ks : List Kind) (k : Nat) (s s' : Env × Heap × Nat) (rest : List Nat), (∀ (j : Nat) (o : Oper), l[j]? = some o → ops[k + j]? = some o) →
    DRun P C.G N ops l ks s s' → AOps P C.G N n0 ops rest Q s'.1 s'.2.1 s'.2.2 → AOps P C.G N n0 ops (List.range' k l.length ++ rest) Q s.1 s.2.1 s.2.2 := by
  intro l
  induction l with
  | nil => intro ks k s s' rest _ h hq; cases h; simpa using hq
  | cons o l ih =>
    intro ks k s s' rest hops h hq
    cases h with
    | cons h hr =>
      rename_i kd ks s₁
      have ho : ops[k]? = some o := hops 0 o rfl
      have hops' : ∀ (j : Nat) (o : Oper), l[j]? = some o → ops[k + 1 + j]? = some o := fun j p hp => by
        rw [show k + 1 + j = k + (j + 1) by omega]; exact hops (j + 1) p (by simpa using hp)
      rw [List.length_cons, List.range'_succ, List.cons_append]
      have hrest := ih ks (k + 1) s₁ s' rest hops' hr hq
      cases h with
      | skip hg hd => exact AOps.skipped ho hg hd hrest
      | run hg hd hop hf hn =>
        rename_i e σ σ₁ n n₁ v
        obtain ⟨σ₂, n₂, g1, g2, g3, g4, hopk⟩ := hop e σ n (fun _ _ => rfl) (fun _ _ => rfl) (fun _ => rfl)
        refine AOps.op ho hg hd (hopk.mono fun v' σ' n' ⟨h1, h2, h3⟩ => ?_)
        subst h1; subst h2; subst h3
        have hh : HEq σ' σ₁ := fun i => by
          cases hw : kd.writes i with
          | true => exact g1 i hw
          | false => rw [g2 i hw, hf i hw]
        have hnn : n' = n₁ := by
          cases hw : kd.nwrites with
          | true => exact g3 hw
          | false => rw [g4 hw, hn hw]
        subst hnn
        exact hrest.heq hh.symm

/-- A region, with what each operation looked at and turned. -/
structure CRegD where
  run : CallT → Tr → Heap → Nat → Option (Tr × Heap × Nat × List Kind)

def cregionD (C : Ctx) (N : Nat) (ops : Array Oper) : List Oper → CRegD
  | [] => ⟨fun _ T σ n => some (T, σ, n, [])⟩
  | o :: l => match dstOk N o with
    | true => (match o.guard with
      | none => ⟨fun call T σ n => match (copD C N (fzOf ops o) o).run call T σ n with
        | some (v, σ', n', k) => (match (cregionD C N ops l).run call (cput o.dst v T) σ' n' with
          | some (T', s, m, ks) => some (T', s, m, k :: ks)
          | none => none)
        | none => none⟩
      | some (j, want) => (match (ops[j]?).bind (·.dst) with
        | some d => ⟨fun call T σ n => match Nat.blt d N, tget (pathOf d) T with
          | true, some (.bool b) => (match Bool.xor b want with
            | false => (match (copD C N (fzOf ops o) o).run call T σ n with
              | some (v, σ', n', k) => (match (cregionD C N ops l).run call (cput o.dst v T) σ' n' with
                | some (T', s, m, ks) => some (T', s, m, k :: ks)
                | none => none)
              | none => none)
            | true => (match (cregionD C N ops l).run call (cput o.dst (.tup []) T) σ n with
              | some (T', s, m, ks) => some (T', s, m, .h0 :: ks)
              | none => none))
          | true, some (.tup _) => (match (cregionD C N ops l).run call (cput o.dst (.tup []) T) σ n with
            | some (T', s, m, ks) => some (T', s, m, .h0 :: ks)
            | none => none)
          | _, _ => none⟩
        | none => ⟨fun _ _ _ _ => none⟩))
    | false => ⟨fun _ _ _ _ => none⟩

theorem cregionD_sound (hC : CtxOk P C) (hN : N ≤ 4096) {call : CallT} (hc : CallOk P C call) {ops : Array Oper} : ∀ (l : List Oper) (T : Tr) (σ : Heap) (n : Nat) (T' : Tr) (σ' : Heap) (n' : Nat) (ks : List Kind),
    (cregionD C N ops l).run call T σ n = some (T', σ', n', ks) → ∀ e, Repr N e T → ∃ e', Repr N e' T' ∧ DRun P C.G N ops l ks (e, σ, n) (e', σ', n') := by
  intro l
  induction l with
  | nil =>
    intro T σ n T' σ' n' ks h e hr
    simp only [cregionD, Option.some.injEq, Prod.mk.injEq] at h
    obtain ⟨rfl, rfl, rfl, rfl⟩ := h
    exact ⟨e, hr, .nil _⟩
  | cons o l ih =>
    intro T σ n T' σ' n' ks h e hr
    simp only [cregionD] at h
    split at h
    · rename_i hd
      have go : ∀ {v σ₁ n₁ k}, aguard ops e o = some true → (copD C N (fzOf ops o) o).run call T σ n = some (v, σ₁, n₁, k) → (match (cregionD C N ops l).run call (cput o.dst v T) σ₁ n₁ with
          | some (T', s, m, ks) => some (T', s, m, k :: ks)
          | none => none) = some (T', σ', n', ks) → ∃ e', Repr N e' T' ∧ DRun P C.G N ops (o :: l) ks (e, σ, n) (e', σ', n') := fun {v σ₁ n₁ k} hg hop hrest => by
        split at hrest
        · rename_i hrun
          cases hrest
          obtain ⟨e', h1, h2⟩ := ih _ _ _ _ _ _ _ hrun _ (hr.put hN (dstOk_lt hd))
          exact ⟨e', h1, .cons (copD_sound hC hc hop hr hg hd) h2⟩
        · cases hrest
      have skip : aguard ops e o = some false → (match (cregionD C N ops l).run call (cput o.dst (.tup []) T) σ n with
          | some (T', s, m, ks) => some (T', s, m, .h0 :: ks)
          | none => none) = some (T', σ', n', ks) → ∃ e', Repr N e' T' ∧ DRun P C.G N ops (o :: l) ks (e, σ, n) (e', σ', n') := fun hg hrest => by
        split at hrest
        · rename_i hrun
          cases hrest
          obtain ⟨e', h1, h2⟩ := ih _ _ _ _ _ _ _ hrun _ (hr.put hN (dstOk_lt hd))
          exact ⟨e', h1, .cons (.skip hg hd) h2⟩
        · cases hrest
      split at h
      · rename_i hgd
        simp only at h
        split at h
        · rename_i v σ₁ n₁ k hop
          exact go (by simp [aguard, hgd]) hop h
        · cases h
      · rename_i j want hgd
        split at h
        · rename_i d hdst
          simp only at h
          split at h
          · rename_i b hb ht
            have hbd : eget e d = some (.bool b) := by rw [hr d ((blt_iff d N).mp hb)]; exact ht
            split at h
            · rename_i hx
              have hbw : b = want := by cases b <;> cases want <;> simp_all
              split at h
              · rename_i v σ₁ n₁ k hop
                exact go (by simp [aguard, hgd, hdst, hbd, hbw]) hop h
              · cases h
            · rename_i hx
              have hbw : (b == want) = false := by cases b <;> cases want <;> simp_all
              exact skip (by simp only [aguard, hgd, hdst, hbd, hbw]) h
          · rename_i vs hb ht
            have hbd : eget e d = some (.tup vs) := by rw [hr d ((blt_iff d N).mp hb)]; exact ht
            exact skip (by simp only [aguard, hgd, hdst, hbd]) h
          · cases h
        · cases h
    · cases h

/-! ### Code -/

inductive AX where
  | normal
  | exit (i : Nat)
  | ret

def AX.to : AX → Exit
  | .normal => .normal
  | .exit i => .exit i
  | .ret => .ret

structure Out where
  x : AX
  T : Tr
  σ : Heap
  n : Nat

structure CC where
  run : CallT → Tr → Heap → Nat → Option Out

def aloop (body : Tr → Heap → Nat → Option Out) : Nat → Tr → Heap → Nat → Option Out
  | 0, _, _, _ => none
  | k + 1, T, σ, n => match body T σ n with
    | some ⟨.normal, T', σ', n'⟩ => aloop body k T' σ' n'
    | r => r

def ccode (C : Ctx) (N lf : Nat) : Code → CC
  | .skip => ⟨fun _ T σ n => some ⟨.normal, T, σ, n⟩⟩
  | .region _ ops d => (match (match d with | true => drawOk ops ops.toList (ops.toList.map fun o => kindOf C o.op) | false => true), statOk ops ops.toList (masks ops.toList []) with
    | true, _ => ⟨fun call T σ n => match (cregion C N ops ops.toList).run call T σ n with
      | some (T', σ', n') => some ⟨.normal, T', σ', n'⟩
      | none => none⟩
    | false, true => ⟨fun call T σ n => match (cregionD C N ops ops.toList).run call T σ n with
      | some (T', σ', n', ks) => (match pairsOk ks (freePairs ops.toList (masks ops.toList [])) with
        | true => some ⟨.normal, T', σ', n'⟩
        | false => none)
      | none => none⟩
    | false, false => ⟨fun _ _ _ _ => none⟩)
  | .seq a b => ⟨fun call T σ n => match (ccode C N lf a).run call T σ n with
    | some ⟨.normal, T', σ', n'⟩ => (ccode C N lf b).run call T' σ' n'
    | r => r⟩
  | .cond c a b => ⟨fun call T σ n => match (copd C.G N c).run T with
    | some (.bool true) => (ccode C N lf a).run call T σ n
    | some (.bool false) => (ccode C N lf b).run call T σ n
    | _ => none⟩
  | .block i a => ⟨fun call T σ n => match (ccode C N lf a).run call T σ n with
    | some ⟨.exit j, T', σ', n'⟩ => (match Nat.beq j i with
      | true => some ⟨.normal, T', σ', n'⟩
      | false => some ⟨.exit j, T', σ', n'⟩)
    | r => r⟩
  | .loop a => ⟨fun call T σ n => aloop ((ccode C N lf a).run call) lf T σ n⟩
  | .exit i => ⟨fun _ T σ n => some ⟨.exit i, T, σ, n⟩⟩
  | .ret => ⟨fun _ T σ n => some ⟨.ret, T, σ, n⟩⟩
  | _ => ⟨fun _ _ _ _ => none⟩

theorem beq_nat (a b : Nat) : Nat.beq a b = true ↔ a = b := ⟨Nat.eq_of_beq_eq_true, fun h => by subst h; simp⟩

theorem ccode_sound (hC : CtxOk P C) (hN : N ≤ 4096) {call : CallT} (hc : CallOk P C call) {lf : Nat} : ∀ (c : Code) (T : Tr) (σ : Heap) (n : Nat) (r : Out), (ccode C N lf c).run call T σ n = some r →
    ∀ e, Repr N e T → ∀ Q : Exit → Env → Heap → Nat → Prop, (∀ e', Repr N e' r.T → Q r.x.to e' r.σ r.n) → AWp P C.G N n0 c Q e σ n := by
  intro c
  induction c with
  | skip => intro T σ n r h e hr Q hq; cases h; exact AWp.skip (hq e hr)
  | region id ops d =>
    intro T σ n r h e hr Q hq
    simp only [ccode] at h
    split at h
    · rename_i _ hd
      simp only at h
      split at h
      · rename_i T' σ' n' hrun
        cases h
        obtain ⟨e', h1, h2⟩ := cregion_sound hC hN hc ops.toList _ _ _ _ _ _ hrun e hr
        cases d with
        | true => exact AWp.draw hC.mixed hd h2 (hq e' h1)
        | false =>
          refine AWp.region ?_
          have := DRun.ops (n0 := n0) (Q := Q) ops.toList _ 0 _ _ [] (fun j o ho => by simpa using ho) h2 (AOps.nil (hq e' h1))
          simpa [List.range_eq_range'] using this
      · cases h
    · rename_i hd hst
      simp only at h
      split at h
      · rename_i T' σ' n' ks hrun
        split at h
        · rename_i hps
          cases h
          obtain ⟨e', h1, h2⟩ := cregionD_sound hC hN hc ops.toList _ _ _ _ _ _ _ hrun e hr
          cases d with
          | true => exact AWp.draw hC.mixed (by simp only [drawOk, hst, hps, Bool.and_self]) h2 (hq e' h1)
          | false => cases hd
        · cases h
      · cases h
    · cases h
  | seq a b iha ihb =>
    intro T σ n r h e hr Q hq
    simp only [ccode] at h
    refine AWp.seq ?_
    split at h
    · rename_i T' σ' n' ha
      refine iha _ _ _ _ ha e hr _ fun e' he' => ?_
      exact ihb _ _ _ _ h e' he' Q hq
    · rename_i hne
      refine iha _ _ _ _ h e hr _ fun e' he' => ?_
      obtain ⟨x, T', σ', n'⟩ := r
      cases x with
      | normal => exact absurd h (hne _ _ _)
      | exit i => exact hq e' he'
      | ret => exact hq e' he'
  | cond c a b iha ihb =>
    intro T σ n r h e hr Q hq
    simp only [ccode] at h
    split at h
    · rename_i hcd
      exact AWp.cond (copd_sound hr hcd) (iha _ _ _ _ h e hr Q hq)
    · rename_i hcd
      exact AWp.cond (copd_sound hr hcd) (ihb _ _ _ _ h e hr Q hq)
    · cases h
  | block i a iha =>
    intro T σ n r h e hr Q hq
    simp only [ccode] at h
    refine AWp.block ?_
    split at h
    · rename_i j T' σ' n' ha
      split at h
      · rename_i hji
        cases h
        refine iha _ _ _ _ ha e hr _ fun e' he' => ?_
        show (if j = i then Q .normal e' σ' n' else Q (.exit j) e' σ' n')
        rw [if_pos ((beq_nat j i).mp hji)]
        exact hq e' he'
      · rename_i hji
        cases h
        refine iha _ _ _ _ ha e hr _ fun e' he' => ?_
        show (if j = i then Q .normal e' σ' n' else Q (.exit j) e' σ' n')
        rw [if_neg (fun hh => by rw [(beq_nat j i).mpr hh] at hji; cases hji)]
        exact hq e' he'
    · rename_i hne
      refine iha _ _ _ _ h e hr _ fun e' he' => ?_
      obtain ⟨x, T', σ', n'⟩ := r
      cases x with
      | normal => exact hq e' he'
      | exit i => exact absurd h (hne _ _ _ _)
      | ret => exact hq e' he'
  | loop a iha =>
    intro T σ n r h e hr Q hq
    simp only [ccode] at h
    refine AWp.loop (ι := Nat) (fun k e σ n => ∃ T, Repr N e T ∧ aloop ((ccode C N lf a).run call) k T σ n = some r) id lf ⟨T, hr, h⟩ ?_
    rintro k e σ n ⟨T, hr, h⟩
    cases k with
    | zero => cases h
    | succ k =>
      simp only [aloop] at h
      split at h
      · rename_i T' σ' n' ha
        exact iha _ _ _ _ ha e hr _ fun e' he' => ⟨k, ⟨T', he', h⟩, by simp⟩
      · rename_i hne
        refine iha _ _ _ _ h e hr _ fun e' he' => ?_
        obtain ⟨x, T', σ', n'⟩ := r
        cases x with
        | normal => exact absurd h (hne _ _ _)
        | exit i => exact hq e' he'
        | ret => exact hq e' he'
  | exit i => intro T σ n r h e hr Q hq; cases h; exact AWp.exit (hq e hr)
  | ret => intro T σ n r h e hr Q hq; cases h; exact AWp.ret (hq e hr)
  | _ => intro T σ n r h; cases h
end
end Go.Ma
