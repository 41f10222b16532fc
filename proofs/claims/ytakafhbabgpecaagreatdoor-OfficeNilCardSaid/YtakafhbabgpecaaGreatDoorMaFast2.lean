/- The interpreter: operations, regions, code. -/
import Derived.Test.YtakafhbabgpecaaGreatDoorMaFast
import Derived.Test.YtakafhbabgpecaaGreatDoorMaExt
namespace Go.Ma
section
variable {P : Program} {N n0 : Nat}

/-- What the interpreter is told of a program: types, variables, externs, methods, how each function hands back. -/
structure Ctx where
  TT : Types
  G : Globals
  X : Nat → Option ExtK
  M : TypeId → String → Option FuncId
  md : Nat → Nat

structure CtxOk (P : Program) (C : Ctx) : Prop where
  tt : TOk P C.TT
  ext : ∀ f k, C.X f = some k → ∃ fn, ExtOk P f fn k
  meth : ∀ t s f, C.M t s = some f → amethod P t s = some f
  mixed : P.follows .mixedOrders = true

variable {C : Ctx}

def kindOf (C : Ctx) (o : Op) : Kind :=
  match o with
  | .move .. | .assign .. | .pick .. | .nilCheck .. | .binOp .. | .unOp .. | .makeInterface .. | .makeFunc .. | .fieldAddr .. | .field .. | .indexAddr .. | .index .. | .build .. | .extract .. | .typeAssert .. => .h0
  | .load .. | .slice .. | .lookup .. => .h1
  | .convert s _ _ => (match C.TT s with
    | some { desc := .slice _, .. } => .h1
    | _ => .h0)
  | .call c => (match c.callee with
    | .builtin .len => .h1
    | .builtin .min | .builtin .max | .builtin .cap => .h0
    | .value (.func f) => (match C.X f with
      | some _ => .h0
      | none => .ee)
    | _ => .ee)
  | _ => .ee

theorem apure_h0 {o : Oper} (hk : kindOf C o.op = .h0) (e : Env) (σ σ' : Heap) : apure C.TT C.G e σ o = apure C.TT C.G e σ' o := by
  unfold apure
  cases hop : o.op with
  | call c =>
    rw [hop] at hk
    obtain ⟨callee, args, ts⟩ := c
    cases callee with
    | builtin b => cases b <;> first | rfl | (simp [kindOf] at hk)
    | _ => rfl
  | load => rw [hop] at hk; simp [kindOf] at hk
  | slice => rw [hop] at hk; simp [kindOf] at hk
  | makeFunc fn first captured => cases fn <;> rfl
  | _ => rfl

theorem OpOk.env {o : Oper} {e e' : Env} {σ : Heap} {n : Nat} {Q : AV → Heap → Nat → Prop} (h : OpOk P C.G o e σ n Q) (he : ∀ t x, eget e t = some x → eget e' t = some x) : OpOk P C.G o e' σ n Q :=
  fun ρ Φ w ca K Qx hR hg hE hK => h ρ Φ w ca K Qx hR hg (fun t x hx => hE t x (he t x hx)) hK

/-- What a function for calls must keep. -/
def CallOk (P : Program) (C : Ctx) (call : CallT) : Prop :=
  ∀ f args σ n v σ' n', call f args σ n = some (v, σ', n') → (∃ fn c, FnOk P f fn c) ∧ ACalls P C.G f args σ n (fun x s m => x = v ∧ s = σ' ∧ m = n')

structure COp where
  run : CallT → Tr → Heap → Nat → Option (AV × Heap × Nat)

/-! ### Operations that make one new object -/

def amk (TT : Types) (G : Globals) (e : Env) (n : Nat) (o : Oper) : Option (AV × AObj) :=
  match o.op with
  | .alloc t => (match TT t with
    | some i => some (.ptr n 0, .cells (arrZ TT t) i.zero)
    | none => none)
  | .box t x => (match aeval G e x with
    | some v => some (.ptr n 0, .cells (arrZ TT t) v.cells)
    | none => none)
  | .buildSlice t len ps => (match aparts G e ps.toList with
    | some l => (match abuildSlice TT t len l with
      | some (size, cells) => some (.sl n 0 len, .cells size cells)
      | none => none)
    | none => none)
  | .makeMap t none => (match TT t with
    | some _ => some (.map n, .map [])
    | none => none)
  | .makeSlice _ _ _ => amake TT G e n o
  | _ => none

theorem OpOk.mk {TT : Types} {G : Globals} (hT : TOk P TT) {o : Oper} {e : Env} {σ : Heap} {n : Nat} {y : AV} {p : AObj} (h : amk TT G e n o = some (y, p)) : OpOk P G o e σ n (fun x s m => x = y ∧ s = (n, p) :: σ ∧ m = n + 1) := by
  unfold amk at h
  split at h
  · rename_i t ho
    refine OpOk.mem hT (σ' := (n, p) :: σ) (n' := n + 1) (y := y) ?_ ⟨rfl, rfl, rfl⟩
    unfold amem
    rw [ho]
    split at h
    · rename_i i hi; cases h; simp [hi]
    · cases h
  · rename_i t x ho
    refine OpOk.mem hT (σ' := (n, p) :: σ) (n' := n + 1) (y := y) ?_ ⟨rfl, rfl, rfl⟩
    unfold amem
    rw [ho]
    split at h
    · rename_i i hi; cases h; simp [hi]
    · cases h
  · rename_i t len ps ho
    refine OpOk.lit hT (σ' := (n, p) :: σ) (n' := n + 1) (y := y) ?_ ⟨rfl, rfl, rfl⟩
    unfold alit
    rw [ho]
    split at h
    · rename_i l hl
      split at h
      · rename_i size cells hb; cases h; simp [hl, hb]
      · cases h
    · cases h
  · rename_i t ho
    refine OpOk.lit hT (σ' := (n, p) :: σ) (n' := n + 1) (y := y) ?_ ⟨rfl, rfl, rfl⟩
    unfold alit
    rw [ho]
    split at h
    · rename_i i hi; cases h; simp [hi]
    · cases h
  · exact OpOk.make hT h ⟨rfl, rfl, rfl⟩
  · cases h

/-! ### Operations that turn one object -/

def awr (TT : Types) (G : Globals) (e : Env) (σ : Heap) (o : Oper) : Option (Nat × AObj) :=
  match o.op with
  | .store t a x => (match TT t, aeval G e a, aeval G e x with
    | some i, some (.ptr j off), some v => (match hget σ j with
      | some (.cells z l) => if v.cells.length = i.size ∧ off + i.size ≤ l.length ∧ v.cells.all AV.one = true then some (j, .cells z (lputs l off v.cells)) else none
      | _ => none)
    | _, _, _ => none)
  | .mapUpdate t x k v => (match TT t, aeval G e x, aeval G e k, aeval G e v with
    | some { desc := .map kt et, .. }, some (.map m), some kv, some vv => (match TT kt, hget σ m with
      | some ki, some (.map es) => (match keyOk ki kv, afind ki kv es 0 with
        | true, some (some (j, _)) => some (m, .map (es.set j (kv, vv)))
        | true, some none => some (m, .map (es ++ [(kv, vv)]))
        | _, _ => none)
      | _, _ => none)
    | _, _, _, _ => none)
  | _ => none

theorem awr_agree {TT : Types} {G : Globals} {e : Env} {σ σ' : Heap} {o : Oper} {i : Nat} {p : AObj} (h : awr TT G e σ o = some (i, p)) (hh : hget σ' i = hget σ i) : awr TT G e σ' o = some (i, p) := by
  unfold awr at h ⊢
  split at h
  · split at h
    · rename_i j off v _ _ _
      have hj : i = j := by
        split at h
        · split at h
          · cases h; rfl
          · cases h
        · cases h
      subst hj
      simp only [*]
    · cases h
  · split at h
    · rename_i m kv vv _ _ _ _
      have hj : i = m := by
        split at h
        · split at h
          · cases h; rfl
          · cases h; rfl
          · cases h
        · cases h
      subst hj
      simp only [*]
    · cases h
  · cases h

theorem OpOk.wr {TT : Types} {G : Globals} (hT : TOk P TT) {o : Oper} {e : Env} {σ : Heap} {n i : Nat} {p : AObj} (h : awr TT G e σ o = some (i, p)) : OpOk P G o e σ n (fun x s m => x = .tup [] ∧ s = hset σ i p ∧ m = n) := by
  unfold awr at h
  split at h
  · rename_i t a x ho
    refine OpOk.mem hT (σ' := hset σ i p) (n' := n) (y := .tup []) ?_ ⟨rfl, rfl, rfl⟩
    unfold amem
    rw [ho]
    split at h
    · rename_i ii j off v h1 h2 h3
      split at h
      · rename_i z l h4
        split at h
        · rename_i hc
          cases h
          simp only [h1, h2, h3, h4]
          rw [if_pos hc]
        · cases h
      · cases h
    · cases h
  · rename_i t x k v ho
    refine OpOk.mapUpdate hT (σ' := hset σ i p) (n' := n) (y := .tup []) ?_ ⟨rfl, rfl, rfl⟩
    unfold amap
    rw [ho]
    split at h
    · rename_i kt et _ _ _ _ m kv vv h1 h2 h3 h4
      split at h
      · rename_i ki es h5 h6
        split at h
        · rename_i h7 h8; cases h; simp only [h1, h2, h3, h4, h5, h6, h7, h8]
        · rename_i h7 h8; cases h; simp only [h1, h2, h3, h4, h5, h6, h7, h8]
        · cases h
      · cases h
    · cases h
  · cases h

/-! ### What an operation does -/

def ceff (C : Ctx) (N : Nat) (o : Oper) : COp :=
  match o.op with
  | .call { callee := .value x, args := args, argTypes := _ } => ⟨fun call T σ n => match (copd C.G N x).run T, evs T (args.toList.map (copd C.G N)) with
    | some (.fn f l m), some r => call f (l ++ r ++ m) σ n
    | _, _ => none⟩
  | .call { callee := .invoke x name, args := args, argTypes := _ } => ⟨fun call T σ n => match (copd C.G N x).run T, evs T (args.toList.map (copd C.G N)) with
    | some (.iface t v), some r => (match C.M t name with
      | some f => call f (v :: r) σ n
      | none => none)
    | _, _ => none⟩
  | .call { callee := .builtin .append, .. } => ⟨fun _ T σ n => aappend C.TT C.G (envOf N T (otmps o.op)) σ n o⟩
  | .call { callee := .builtin .copy, .. } => ⟨fun _ T σ n => acopy C.TT C.G (envOf N T (otmps o.op)) σ n o⟩
  | .call { callee := .builtin .clear, .. } => ⟨fun _ T σ n => match aclear C.TT C.G (envOf N T (otmps o.op)) σ o with
    | some r => some (.tup [], clearH σ r, n)
    | none => none⟩
  | .store _ _ _ => ⟨fun _ T σ n => match awr C.TT C.G (envOf N T (otmps o.op)) σ o with
    | some (i, p) => some (.tup [], hset σ i p, n)
    | none => none⟩
  | .mapUpdate _ _ _ _ => ⟨fun _ T σ n => match awr C.TT C.G (envOf N T (otmps o.op)) σ o with
    | some (i, p) => some (.tup [], hset σ i p, n)
    | none => none⟩
  | _ => ⟨fun _ T σ n => match amk C.TT C.G (envOf N T (otmps o.op)) n o with
    | some (v, p) => some (v, (n, p) :: σ, n + 1)
    | none => none⟩

/-- Operations that look at values and at the heap. -/
def clook (C : Ctx) (N : Nat) (o : Oper) : CPure :=
  match o.op with
  | .typeAssert _ _ _ _ => ⟨fun T _ => aassert C.TT C.G (envOf N T (otmps o.op)) o⟩
  | .lookup _ _ _ _ => ⟨fun T σ => alook C.TT C.G (envOf N T (otmps o.op)) σ o⟩
  | .convert s _ _ => (match C.TT s with
    | some { desc := .slice _, .. } => ⟨fun T σ => atoStr C.TT C.G (envOf N T (otmps o.op)) σ o⟩
    | some { desc := .string, .. } => ⟨fun T σ => match (cpure C.TT C.G N o).run T σ with
      | some v => some v
      | none => atoBytes C.TT C.G (envOf N T (otmps o.op)) o⟩
    | _ => cpure C.TT C.G N o)
  | .slice _ _ _ _ _ => ⟨fun T σ => match (cpure C.TT C.G N o).run T σ with
    | some v => some v
    | none => asl C.TT C.G (envOf N T (otmps o.op)) σ o⟩
  | .call { callee := .value (.func f), args := args, argTypes := _ } => (match C.X f with
    | some k => ⟨fun T _ => match evs T (args.toList.map (copd C.G N)) with
      | some r => aext k r
      | none => none⟩
    | none => ⟨fun _ _ => none⟩)
  | .call { callee := .builtin .cap, .. } => ⟨fun T _ => acap C.TT C.G (envOf N T (otmps o.op)) o⟩
  | _ => cpure C.TT C.G N o

theorem copd_get {e : Env} {T : Tr} {o : Op} {G : Globals} (he : ∀ t x, eget (envOf N T (otmps o)) t = some x → eget e t = some x) {x : Operand} {v : AV} (h : (copd G N x).run T = some v) (hx : x ∈ o.operands.toList) : aeval G e x = some v := by
  have := copd_env h hx
  cases x with
  | tmp t => exact he t v this
  | _ => exact this

theorem evs_get {e : Env} {T : Tr} {o : Op} {G : Globals} (he : ∀ t x, eget (envOf N T (otmps o)) t = some x → eget e t = some x) : ∀ {l : List Operand} {r : List AV}, evs T (l.map (copd G N)) = some r → (∀ x ∈ l, x ∈ o.operands.toList) → aevals G e l = some r := by
  intro l
  induction l with
  | nil => intro r h _; exact h
  | cons x l ih =>
    intro r h hx
    simp only [List.map_cons, evs] at h
    simp only [aevals]
    split at h
    · rename_i v m hv hm
      cases h
      rw [copd_get he hv (hx x (by simp)), ih hm (fun y hy => hx y (by simp [hy]))]
    · cases h

theorem clook_sound (hC : CtxOk P C) {o : Oper} {T : Tr} {σ : Heap} {v : AV} (h : (clook C N o).run T σ = some v) {e : Env} (he : ∀ t x, eget (envOf N T (otmps o.op)) t = some x → eget e t = some x) (n : Nat) :
    OpOk P C.G o e σ n (fun x s m => x = v ∧ s = σ ∧ m = n) := by
  have hT := hC.tt
  unfold clook at h
  split at h
  · exact (OpOk.assert hT h ⟨rfl, rfl, rfl⟩).env he
  · exact (OpOk.look hT h ⟨rfl, rfl, rfl⟩).env he
  · split at h
    · exact (OpOk.toStr hT h ⟨rfl, rfl, rfl⟩).env he
    · simp only at h
      split at h
      · rename_i hp
        cases h
        exact (OpOk.pure hT (cpure_sound hp) ⟨rfl, rfl, rfl⟩).env he
      · exact (OpOk.toBytes hT h ⟨rfl, rfl, rfl⟩).env he
    · exact (OpOk.pure hT (cpure_sound h) ⟨rfl, rfl, rfl⟩).env he
  · simp only at h
    split at h
    · rename_i hp
      cases h
      exact (OpOk.pure hT (cpure_sound hp) ⟨rfl, rfl, rfl⟩).env he
    · exact (OpOk.asl hT h ⟨rfl, rfl, rfl⟩).env he
  · rename_i f args ts hop
    split at h
    · rename_i k hk
      simp only at h
      split at h
      · rename_i r hr
        obtain ⟨fn, hf⟩ := hC.ext f k hk
        have hr' := evs_get he hr (fun y hy => by rw [hop]; simp only [Op.operands, Call.operands]; simp; exact .inr (by simpa using hy))
        exact OpOk.ext hop hr' hf h ⟨rfl, rfl, rfl⟩
      · cases h
    · cases h
  · exact (OpOk.cap hT h ⟨rfl, rfl, rfl⟩).env he
  · exact (OpOk.pure hT (cpure_sound h) ⟨rfl, rfl, rfl⟩).env he

theorem clook_h0 (hC : CtxOk P C) {o : Oper} {T : Tr} {σ : Heap} {v : AV} (h : (clook C N o).run T σ = some v) (hk : kindOf C o.op = .h0) {e : Env} (he : ∀ t x, eget (envOf N T (otmps o.op)) t = some x → eget e t = some x) (σ₁ : Heap) (n : Nat) :
    OpOk P C.G o e σ₁ n (fun x s m => x = v ∧ s = σ₁ ∧ m = n) := by
  have hT := hC.tt
  unfold clook at h
  split at h
  · exact (OpOk.assert hT h ⟨rfl, rfl, rfl⟩).env he
  · rename_i hop; rw [hop] at hk; simp [kindOf] at hk
  · rename_i hop
    split at h
    · rename_i hs
      rw [hop] at hk; simp [kindOf, hs] at hk
    · simp only at h
      split at h
      · rename_i hp
        cases h
        exact (OpOk.pure hT (by rw [apure_h0 hk _ σ₁ σ]; exact cpure_sound hp) ⟨rfl, rfl, rfl⟩).env he
      · exact (OpOk.toBytes hT h ⟨rfl, rfl, rfl⟩).env he
    · exact (OpOk.pure hT (by rw [apure_h0 hk _ σ₁ σ]; exact cpure_sound h) ⟨rfl, rfl, rfl⟩).env he
  · rename_i hop; rw [hop] at hk; simp [kindOf] at hk
  · rename_i f args ts hop
    split at h
    · rename_i k hk
      simp only at h
      split at h
      · rename_i r hr
        obtain ⟨fn, hf⟩ := hC.ext f k hk
        have hr' := evs_get he hr (fun y hy => by rw [hop]; simp only [Op.operands, Call.operands]; simp; exact .inr (by simpa using hy))
        exact OpOk.ext hop hr' hf h ⟨rfl, rfl, rfl⟩
      · cases h
    · cases h
  · exact (OpOk.cap hT h ⟨rfl, rfl, rfl⟩).env he
  · exact (OpOk.pure hT (by rw [apure_h0 hk _ σ₁ σ]; exact cpure_sound h) ⟨rfl, rfl, rfl⟩).env he

theorem ceff_sound (hC : CtxOk P C) {call : CallT} (hc : CallOk P C call) {o : Oper} {T : Tr} {σ σ' : Heap} {n n' : Nat} {v : AV} (h : (ceff C N o).run call T σ n = some (v, σ', n')) {e : Env}
    (he : ∀ t x, eget (envOf N T (otmps o.op)) t = some x → eget e t = some x) : OpOk P C.G o e σ n (fun x s m => x = v ∧ s = σ' ∧ m = n') := by
  have hT := hC.tt
  unfold ceff at h
  split at h
  · rename_i x args ts hop
    simp only at h
    split at h
    · rename_i f l m r hx hr
      obtain ⟨⟨fn, c, hf⟩, hcall⟩ := hc _ _ _ _ _ _ _ h
      have hx' := copd_get he hx (by rw [hop]; simp [Op.operands, Call.operands])
      have hr' := evs_get he hr (fun y hy => by rw [hop]; simp only [Op.operands, Call.operands]; simp; exact .inr (by simpa using hy))
      exact OpOk.call hop hx' hr' hf hcall
    · cases h
  · rename_i x name args ts hop
    simp only at h
    split at h
    · rename_i t u r hx hr
      split at h
      · rename_i f hm
        obtain ⟨⟨fn, c, hf⟩, hcall⟩ := hc _ _ _ _ _ _ _ h
        have hx' := copd_get he hx (by rw [hop]; simp [Op.operands, Call.operands])
        have hr' := evs_get he hr (fun y hy => by rw [hop]; simp only [Op.operands, Call.operands]; simp; exact .inr (by simpa using hy))
        exact OpOk.invoke hop hx' hr' (hC.meth _ _ _ hm) hf hcall
      · cases h
    · cases h
  · exact (OpOk.append hT h ⟨rfl, rfl, rfl⟩).env he
  · exact (OpOk.copy hT h ⟨rfl, rfl, rfl⟩).env he
  · simp only at h
    split at h
    · rename_i r hr
      cases h
      exact (OpOk.clear hT hr ⟨rfl, rfl, rfl⟩).env he
    · cases h
  · simp only at h
    split at h
    · rename_i i p hr
      cases h
      exact (OpOk.wr hT hr).env he
    · cases h
  · simp only at h
    split at h
    · rename_i i p hr
      cases h
      exact (OpOk.wr hT hr).env he
    · cases h
  · simp only at h
    split at h
    · rename_i w p hr
      cases h
      exact (OpOk.mk hT hr).env he
    · cases h

def cop (C : Ctx) (N : Nat) (o : Oper) : COp :=
  match kindOf C o.op with
  | .ee => ceff C N o
  | _ => ⟨fun _ T σ n => match (clook C N o).run T σ with
    | some v => some (v, σ, n)
    | none => none⟩

theorem kindOf_cases (C : Ctx) (o : Op) : kindOf C o = .h0 ∨ kindOf C o = .h1 ∨ kindOf C o = .ee := by
  unfold kindOf
  split <;> first | exact .inl rfl | exact .inr (.inl rfl) | exact .inr (.inr rfl) | skip
  · split
    · exact .inr (.inl rfl)
    · exact .inl rfl
  · split <;> first | exact .inl rfl | exact .inr (.inl rfl) | exact .inr (.inr rfl) | skip
    split
    · exact .inl rfl
    · exact .inr (.inr rfl)

theorem look_env {N : Nat} {ops : Array Oper} {o : Oper} {T : Tr} {e : Env} (hr : Repr N e T) {e' : Env} (ha : Agree (looks ops o) e' e) : ∀ t x, eget (envOf N T (otmps o.op)) t = some x → eget e' t = some x := fun t x hx => by
  obtain ⟨h1, h2⟩ := envOf_get hr hx
  rw [ha t (by simp [looks, h1])]
  exact h2

theorem cop_sound (hC : CtxOk P C) {call : CallT} (hc : CallOk P C call) {ops : Array Oper} {o : Oper} {T : Tr} {σ σ' : Heap} {n n' : Nat} {v : AV} (h : (cop C N o).run call T σ n = some (v, σ', n')) {e : Env} (hr : Repr N e T)
    (hg : aguard ops e o = some true) (hd : dstOk N o = true) : DStep P C.G N ops o (kindOf C o.op) (e, σ, n) (eput e o.dst v, σ', n') := by
  unfold cop at h
  rcases kindOf_cases C o.op with hk | hk | hk
  · rw [hk] at h ⊢
    simp only at h
    split at h
    · rename_i u hu
      cases h
      exact .h0 hg hd fun σ₁ n₁ e' ha => clook_h0 hC hu hk (look_env hr ha) σ₁ n₁
    · cases h
  · rw [hk] at h ⊢
    simp only at h
    split at h
    · rename_i u hu
      cases h
      exact .h1 hg hd fun e' ha => clook_sound hC hu (look_env hr ha) n
    · cases h
  · rw [hk] at h ⊢
    exact .ee hg hd fun e' ha => ceff_sound hC hc h (look_env hr ha)

/-! ### Which objects an operation reads -/

def topIds : AV → List Nat
  | .ptr i _ => [i]
  | .sl i _ _ => [i]
  | .map i => [i]
  | _ => []

def oids (C : Ctx) (N : Nat) (T : Tr) : List Operand → List Nat
  | [] => []
  | x :: l => match (copd C.G N x).run T with
    | some v => topIds v ++ oids C N T l
    | none => oids C N T l

theorem oids_mem {T : Tr} {x : Operand} {v : AV} {i : Nat} (hv : (copd C.G N x).run T = some v) (hi : i ∈ topIds v) : ∀ {l : List Operand}, x ∈ l → i ∈ oids C N T l := by
  intro l
  induction l with
  | nil => intro h; simp at h
  | cons y l ih =>
    intro h
    simp only [oids]
    rcases List.mem_cons.mp h with h | h
    · subst h
      rw [hv]
      simp [hi]
    · split
      · simp [ih h]
      · exact ih h

def Same (l : List Nat) (σ' σ : Heap) : Prop := ∀ i ∈ l, hget σ' i = hget σ i

theorem aload_same {TT : Types} {σ σ' : Heap} {t : TypeId} {x : AV} (h : Same (topIds x) σ' σ) : aload TT σ' t x = aload TT σ t x := by
  unfold aload
  have : acells σ' x = acells σ x := by
    cases x <;> try rfl
    simp only [acells]
    rw [h _ (by simp [topIds])]
  rw [this]

theorem aslice_same {TT : Types} {σ σ' : Heap} {t : TypeId} {x : AV} {lo hi : Option AV} (h : Same (topIds x) σ' σ) : aslice TT σ' t x lo hi = aslice TT σ t x lo hi := by
  unfold aslice
  cases TT t with
  | none => rfl
  | some info =>
    obtain ⟨d, _, _, _, _⟩ := info
    cases x with
    | sl i off len =>
      have := h i (by simp [topIds])
      cases d <;> first | rfl | simp only [this]
    | _ => cases d <;> rfl

theorem asliceA_same {TT : Types} {σ σ' : Heap} {t : TypeId} {x : AV} {lo hi : Option AV} (h : Same (topIds x) σ' σ) : asliceA TT σ' t x lo hi = asliceA TT σ t x lo hi := by
  unfold asliceA
  cases TT t with
  | none => rfl
  | some info =>
    obtain ⟨d, _, _, _, _⟩ := info
    cases x with
    | ptr i off =>
      have := h i (by simp [topIds])
      cases d <;> first | rfl | simp only [this]
    | _ => cases d <;> rfl

theorem alen_same {TT : Types} {σ σ' : Heap} {t : TypeId} {x : AV} (h : Same (topIds x) σ' σ) : alen TT σ' t x = alen TT σ t x := by
  unfold alen
  cases TT t with
  | none => rfl
  | some info =>
    obtain ⟨d, _, _, _, _⟩ := info
    cases x with
    | map i =>
      have := h i (by simp [topIds])
      cases d <;> first | rfl | simp only [this]
    | _ => cases d <;> rfl

theorem aentries_same {σ σ' : Heap} {x : AV} (h : Same (topIds x) σ' σ) : aentries σ' x = aentries σ x := by
  cases x <;> try rfl
  rename_i i
  simp only [aentries]
  rw [h i (by simp [topIds])]

theorem acells1_same {σ σ' : Heap} {x : AV} (h : Same (topIds x) σ' σ) : acells1 σ' x = acells1 σ x := by
  cases x <;> try rfl
  rename_i i off len
  cases len with
  | zero => rfl
  | succ len =>
    simp only [acells1]
    rw [h i (by simp [topIds])]

theorem envOf_tget {N : Nat} {T : Tr} : ∀ {l : List Nat} {t : Nat} {x : AV}, eget (envOf N T l) t = some x → Nat.blt t N = true ∧ tget (pathOf t) T = some x := by
  intro l
  induction l with
  | nil => intro t x h; simp [envOf, eget] at h
  | cons a l ih =>
    intro t x h
    simp only [envOf] at h
    split at h
    · rename_i y hb hy
      simp only [eget] at h
      by_cases hat : a = t
      · subst hat
        simp only [if_true, Option.some.injEq] at h
        subst h
        exact ⟨hb, hy⟩
      · rw [if_neg hat] at h
        exact ih h
    · exact ih h

theorem aeval_copd {G : Globals} {T : Tr} {l : List Nat} {x : Operand} {v : AV} (h : aeval G (envOf N T l) x = some v) : (copd G N x).run T = some v := by
  cases x with
  | tmp t =>
    obtain ⟨h1, h2⟩ := envOf_tget h
    simp only [copd, h1, cond_true, h2]
  | _ => exact h

theorem clook_same {o : Oper} {T : Tr} {σ σ' : Heap} {v : AV} (hk : kindOf C o.op = .h1) (h : Same (oids C N T o.op.operands.toList) σ' σ) (hv : (clook C N o).run T σ = some v) : (clook C N o).run T σ' = some v := by
  have sub : ∀ {x : Operand} {u : AV}, x ∈ o.op.operands.toList → (copd C.G N x).run T = some u → Same (topIds u) σ' σ := fun hx hu i hi => h i (oids_mem hu hi hx)
  cases hop : o.op with
  | load t x =>
    simp only [clook, hop, cpure] at hv ⊢
    cases hx : (copd C.G N x).run T with
    | none => simp [hx] at hv
    | some u =>
      simp only [hx] at hv ⊢
      rw [aload_same (sub (by rw [hop]; simp [Op.operands]) hx)]
      exact hv
  | lookup t x k c =>
    simp only [clook, hop, alook] at hv ⊢
    cases h1 : C.TT t with
    | none => simp [h1] at hv
    | some info =>
      obtain ⟨d, _, _, _, _⟩ := info
      cases h2 : aeval C.G (envOf N T (otmps (.lookup t x k c))) x with
      | none => cases d <;> simp [h1, h2] at hv
      | some xv =>
        cases h3 : aeval C.G (envOf N T (otmps (.lookup t x k c))) k with
        | none => cases d <;> simp [h1, h2, h3] at hv
        | some kv =>
          have he := aentries_same (sub (by rw [hop]; simp [Op.operands]) (aeval_copd h2))
          cases d <;> simp only [h1, h2, h3, he] at hv ⊢ <;> exact hv
  | slice t x lo hi mx =>
    cases mx with
    | some m =>
      simp only [clook, hop, cpure, apure, asl] at hv
      cases hv
    | none =>
      simp only [clook, hop, cpure] at hv ⊢
      cases hx : (copd C.G N x).run T with
      | none =>
        simp only [hx, asl, hop] at hv ⊢
        cases h1 : aeval C.G (envOf N T (otmps (.slice t x lo hi none))) x with
        | none => simp only [h1] at hv; cases hv
        | some u => rw [aeval_copd h1] at hx; cases hx
      | some u =>
        have hs := sub (by rw [hop]; simp [Op.operands]) hx
        have h1 : ∀ l m, aslice C.TT σ' t u l m = aslice C.TT σ t u l m := fun l m => aslice_same hs
        have h2 : asl C.TT C.G (envOf N T (otmps (.slice t x lo hi none))) σ' o = asl C.TT C.G (envOf N T (otmps (.slice t x lo hi none))) σ o := by
          simp only [asl, hop]
          cases h3 : aeval C.G (envOf N T (otmps (.slice t x lo hi none))) x with
          | none => rfl
          | some y =>
            have h4 := aeval_copd h3
            rw [hx] at h4
            cases h4
            have h5 : ∀ l m, asliceA C.TT σ' t u l m = asliceA C.TT σ t u l m := fun l m => asliceA_same hs
            cases aopt C.G (envOf N T (otmps (.slice t x lo hi none))) lo with
            | none => rfl
            | some l =>
              cases aopt C.G (envOf N T (otmps (.slice t x lo hi none))) hi with
              | none => rfl
              | some m => exact h5 l m
        simp only [hx, h2] at hv ⊢
        cases h6 : copt C.G N T lo with
        | none => simp only [h6] at hv ⊢; exact hv
        | some l =>
          cases h7 : copt C.G N T hi with
          | none => simp only [h6, h7] at hv ⊢; exact hv
          | some m => simp only [h6, h7, h1] at hv ⊢; exact hv
  | convert s d x =>
    rw [hop] at hk
    simp only [kindOf] at hk
    split at hk
    · rename_i el _ _ _ _ hs
      simp only [clook, hop, hs, atoStr] at hv ⊢
      cases h3 : aeval C.G (envOf N T (otmps (.convert s d x))) x with
      | none => simp only [h3] at hv; split at hv <;> simp_all
      | some u =>
        have he := acells1_same (sub (by rw [hop]; simp [Op.operands]) (aeval_copd h3))
        cases h4 : C.TT d with
        | none => simp [h4] at hv
        | some info =>
          obtain ⟨dd, _, _, _, _⟩ := info
          cases dd <;> simp only [h3, h4, he] at hv ⊢ <;> exact hv
    · cases hk
  | call c =>
    obtain ⟨callee, args, ts⟩ := c
    cases callee with
    | builtin b =>
      cases b <;> first
        | (rw [hop] at hk; simp [kindOf] at hk; done)
        | skip
      simp only [clook, hop, cpure, apure] at hv ⊢
      split at hv
      · rename_i x t hx ht
        cases hu : aeval C.G (envOf N T (otmps (.call { callee := .builtin .len, args := args, argTypes := ts }))) x with
        | none => simp only [hu] at hv; cases hv
        | some u =>
          have he : ∀ t, alen C.TT σ' t u = alen C.TT σ t u := fun t => alen_same (sub (by rw [hop]; simp [Op.operands, Call.operands, hx]) (aeval_copd hu))
          simp only [hu, he] at hv ⊢
          exact hv
      · cases hv
    | value f =>
      rw [hop] at hk
      cases f <;> first
        | (simp [kindOf] at hk; done)
        | (simp only [kindOf] at hk; split at hk <;> cases hk)
    | invoke r m => rw [hop] at hk; simp [kindOf] at hk
  | _ => rw [hop] at hk; simp [kindOf] at hk
end
end Go.Ma
