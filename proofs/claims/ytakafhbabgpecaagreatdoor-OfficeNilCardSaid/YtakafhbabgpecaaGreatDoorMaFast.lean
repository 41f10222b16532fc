/- An interpreter made for the kernel: code is turned into functions once, the temporaries lie in a tree. -/
import Derived.Test.YtakafhbabgpecaaGreatDoorMaPure
namespace Go.Ma

inductive Tr where
  | leaf
  | node (l : Tr) (v : Option AV) (r : Tr)

def pathF : Nat → Nat → List Bool
  | 0, _ => []
  | f + 1, t => bif Nat.beq t 0 then [] else bif Nat.beq (t % 2) 1 then true :: pathF f (t / 2) else false :: pathF f (t / 2 - 1)

def pathOf (t : Nat) : List Bool := pathF 12 t

theorem pathF_inj : ∀ (f t u : Nat), t < 2 ^ f → u < 2 ^ f → pathF f t = pathF f u → t = u := by
  intro f
  induction f with
  | zero => intro t u ht hu _; simp at ht hu; omega
  | succ f ih =>
    intro t u ht hu h
    have h2 : 2 ^ (f + 1) = 2 * 2 ^ f := by rw [Nat.pow_succ]; omega
    simp only [pathF] at h
    have hb : ∀ a b : Nat, Nat.beq a b = (decide (a = b)) := fun a b => by
      by_cases hab : a = b
      · subst hab; simp
      · cases hh : Nat.beq a b with
        | true => exact absurd (Nat.eq_of_beq_eq_true hh) hab
        | false => simp [hab]
    simp only [hb, cond_eq_ite, decide_eq_true_eq] at h
    by_cases t0 : t = 0 <;> by_cases u0 : u = 0
    · omega
    · rw [if_pos t0, if_neg u0] at h; split at h <;> simp at h
    · rw [if_neg t0, if_pos u0] at h; split at h <;> simp at h
    · rw [if_neg t0, if_neg u0] at h
      by_cases t1 : t % 2 = 1 <;> by_cases u1 : u % 2 = 1
      · rw [if_pos t1, if_pos u1] at h
        have := ih (t / 2) (u / 2) (by omega) (by omega) (by simpa using h)
        omega
      · rw [if_pos t1, if_neg u1] at h; simp at h
      · rw [if_neg t1, if_pos u1] at h; simp at h
      · rw [if_neg t1, if_neg u1] at h
        have := ih (t / 2 - 1) (u / 2 - 1) (by omega) (by omega) (by simpa using h)
        omega

theorem pathOf_inj {t u : Nat} (ht : t < 4096) (hu : u < 4096) (h : pathOf t = pathOf u) : t = u := pathF_inj 12 t u ht hu h

def tget : List Bool → Tr → Option AV
  | [], .leaf => none
  | [], .node _ v _ => v
  | _ :: _, .leaf => none
  | b :: p, .node l _ r => match b with
    | true => tget p l
    | false => tget p r

def tput (x : AV) : List Bool → Tr → Tr
  | [], .leaf => .node .leaf (some x) .leaf
  | [], .node l _ r => .node l (some x) r
  | b :: p, .leaf => match b with
    | true => .node (tput x p .leaf) none .leaf
    | false => .node .leaf none (tput x p .leaf)
  | b :: p, .node l v r => match b with
    | true => .node (tput x p l) v r
    | false => .node l v (tput x p r)

theorem tget_leaf (p : List Bool) : tget p .leaf = none := by cases p <;> rfl

theorem tget_tput (x : AV) : ∀ (p q : List Bool) (T : Tr), tget q (tput x p T) = if p = q then some x else tget q T := by
  intro p
  induction p with
  | nil =>
    intro q T
    cases T <;> cases q <;> simp [tput, tget]
    rename_i b q
    cases b <;> simp [tget_leaf]
  | cons a p ih =>
    intro q T
    cases T with
    | leaf =>
      cases q with
      | nil => cases a <;> simp [tput, tget]
      | cons b q => cases a <;> cases b <;> simp [tput, tget, ih, tget_leaf]
    | node l v r =>
      cases q with
      | nil => cases a <;> simp [tput, tget]
      | cons b q => cases a <;> cases b <;> simp [tput, tget, ih]

/-- The temporaries below N are known as the tree tells. -/
def Repr (N : Nat) (e : Env) (T : Tr) : Prop := ∀ t, t < N → eget e t = tget (pathOf t) T

abbrev CallT := Nat → List AV → Heap → Nat → Option (AV × Heap × Nat)

section
variable {P : Program} {TT : Types} {G : Globals} {N n0 : Nat}

structure COpd where
  run : Tr → Option AV

def copd (G : Globals) (N : Nat) : Operand → COpd
  | .tmp t => bif Nat.blt t N then ⟨tget (pathOf t)⟩ else ⟨fun _ => none⟩
  | x => ⟨fun _ => aeval G [] x⟩

theorem blt_iff (a b : Nat) : Nat.blt a b = true ↔ a < b := by
  simp [Nat.blt, Nat.ble_eq, Nat.lt_iff_add_one_le]

theorem copd_sound {e : Env} {T : Tr} (hr : Repr N e T) {x : Operand} {v : AV} (h : (copd G N x).run T = some v) : aeval G e x = some v := by
  cases x with
  | tmp t =>
    simp only [copd] at h
    cases hb : Nat.blt t N with
    | false => simp [hb] at h
    | true =>
      simp only [hb, cond_true] at h
      simp only [aeval]
      rw [hr t ((blt_iff t N).mp hb)]
      exact h
  | _ => exact h

def evs (T : Tr) : List COpd → Option (List AV)
  | [] => some []
  | x :: l => match x.run T, evs T l with
    | some v, some r => some (v :: r)
    | _, _ => none

theorem evs_sound {e : Env} {T : Tr} (hr : Repr N e T) : ∀ {l : List Operand} {r : List AV}, evs T (l.map (copd G N)) = some r → aevals G e l = some r := by
  intro l
  induction l with
  | nil => intro r h; exact h
  | cons x l ih =>
    intro r h
    simp only [List.map_cons, evs] at h
    simp only [aevals]
    split at h
    · rename_i v m hv hm
      cases h
      rw [copd_sound hr hv, ih hm]
    · cases h

/-- The operands alone. -/
def envOf (N : Nat) (T : Tr) : List Nat → Env
  | [] => []
  | t :: l => match Nat.blt t N, tget (pathOf t) T with
    | true, some x => (t, x) :: envOf N T l
    | _, _ => envOf N T l

theorem envOf_get {e : Env} {T : Tr} (hr : Repr N e T) : ∀ {l : List Nat} {t : Nat} {x : AV}, eget (envOf N T l) t = some x → t ∈ l ∧ eget e t = some x := by
  intro l
  induction l with
  | nil => intro t x h; simp [envOf, eget] at h
  | cons a l ih =>
    intro t x h
    simp only [envOf] at h
    split at h
    · rename_i y hb hy
      simp only [eget] at h
      by_cases hat : a = t
      · subst hat
        simp only [if_true, Option.some.injEq] at h
        subst h
        rw [hr a ((blt_iff a N).mp hb)]
        exact ⟨by simp, hy⟩
      · rw [if_neg hat] at h
        exact ⟨by simp [(ih h).1], (ih h).2⟩
    · exact ⟨by simp [(ih h).1], (ih h).2⟩

/-! ### Whole numbers, kept in their plain form -/

def forceInt (k : IntKind) (n : Int) : AV := match n with
  | .ofNat m => (match m with
    | 0 => .int k (.ofNat 0)
    | m + 1 => .int k (.ofNat (m + 1)))
  | .negSucc m => (match m with
    | 0 => .int k (.negSucc 0)
    | m + 1 => .int k (.negSucc (m + 1)))

theorem forceInt_eq (k : IntKind) (n : Int) : forceInt k n = .int k n := by
  cases n with
  | ofNat m => cases m <;> rfl
  | negSucc m => cases m <;> rfl

structure CBin where
  run : Int → Int → AV

def cbin (op : BinOp) (k : IntKind) : Option CBin :=
  match op with
  | .add => some ⟨fun a b => forceInt k (k.wrap (a + b))⟩
  | .sub => some ⟨fun a b => forceInt k (k.wrap (a - b))⟩
  | .mul => some ⟨fun a b => forceInt k (k.wrap (a * b))⟩
  | .eql => some ⟨fun a b => .bool (a == b)⟩
  | .neq => some ⟨fun a b => .bool (a != b)⟩
  | .lss => some ⟨fun a b => .bool (a < b)⟩
  | .leq => some ⟨fun a b => .bool (a ≤ b)⟩
  | .gtr => some ⟨fun a b => .bool (a > b)⟩
  | .geq => some ⟨fun a b => .bool (a ≥ b)⟩
  | _ => none

theorem cbin_sound {op : BinOp} {k : IntKind} {f : CBin} (h : cbin op k = some f) (TT : Types) (t : TypeId) (c : Bool) (a b : Int) : abin TT op t c (.int k a) (.int k b) = some (f.run a b) := by
  cases op <;> simp only [cbin, Option.some.injEq, reduceCtorEq] at h <;> subst h <;> simp [abin, abinInt, forceInt_eq]

structure CKind where
  run : IntKind → Bool

def ckind : IntKind → CKind
  | .i64 => ⟨fun k => match k with | .i64 => true | _ => false⟩
  | .u8 => ⟨fun k => match k with | .u8 => true | _ => false⟩
  | .u64 => ⟨fun k => match k with | .u64 => true | _ => false⟩
  | .i8 => ⟨fun k => match k with | .i8 => true | _ => false⟩
  | .i16 => ⟨fun k => match k with | .i16 => true | _ => false⟩
  | .i32 => ⟨fun k => match k with | .i32 => true | _ => false⟩
  | .u16 => ⟨fun k => match k with | .u16 => true | _ => false⟩
  | .u32 => ⟨fun k => match k with | .u32 => true | _ => false⟩

theorem ckind_sound {k k' : IntKind} (h : (ckind k).run k' = true) : k' = k := by
  cases k <;> cases k' <;> first | rfl | (simp [ckind] at h)

/-! ### Operations that hang on values and on the heap alone -/

structure CPure where
  run : Tr → Heap → Option AV

def cbinOp (TT : Types) (G : Globals) (N : Nat) (op : BinOp) (t : TypeId) (x y : Operand) : CPure :=
  let slow : CPure := ⟨fun T _ => match (copd G N x).run T, (copd G N y).run T with
    | some v, some u => abin TT op t (isConst x || isConst y) v u
    | _, _ => none⟩
  match TT t with
  | some i => (match i.desc with
    | .int k => (match cbin op k with
      | some f => ⟨fun T _ => match (copd G N x).run T with
        | some (.int k1 u) => (match (copd G N y).run T with
          | some (.int k2 v) => bif (ckind k).run k1 && (ckind k).run k2 then some (f.run u v) else none
          | _ => none)
        | _ => none⟩
      | none => slow)
    | _ => slow)
  | none => slow

def copt (G : Globals) (N : Nat) (T : Tr) : Option Operand → Option (Option AV)
  | none => some none
  | some x => match (copd G N x).run T with
    | some v => some (some v)
    | none => none

def cparts (T : Tr) : List (Nat × COpd) → Option (List (Nat × AV))
  | [] => some []
  | (i, x) :: l => match x.run T, cparts T l with
    | some v, some r => some ((i, v) :: r)
    | _, _ => none

def cpure (TT : Types) (G : Globals) (N : Nat) (o : Oper) : CPure :=
  match o.op with
  | .move x => ⟨fun T _ => (copd G N x).run T⟩
  | .assign x => ⟨fun T _ => (copd G N x).run T⟩
  | .pick c a b => ⟨fun T _ => match (copd G N c).run T with
    | some (.bool true) => (copd G N a).run T
    | some (.bool false) => (copd G N b).run T
    | _ => none⟩
  | .load t x => ⟨fun T σ => match (copd G N x).run T with
    | some v => aload TT σ t v
    | none => none⟩
  | .binOp op t x y _ => cbinOp TT G N op t x y
  | .unOp op _ x => ⟨fun T _ => match (copd G N x).run T with
    | some v => aunOp op v
    | none => none⟩
  | .convert s d x => ⟨fun T _ => match (copd G N x).run T with
    | some v => aconvert TT s d v
    | none => none⟩
  | .slice t x lo hi none => ⟨fun T σ => match (copd G N x).run T, copt G N T lo, copt G N T hi with
    | some v, some l, some h => aslice TT σ t v l h
    | _, _, _ => none⟩
  | .fieldAddr t x f => ⟨fun T _ => match (copd G N x).run T with
    | some v => afieldAddr TT t f v
    | none => none⟩
  | .field t x f => ⟨fun T _ => match (copd G N x).run T with
    | some v => afield TT t f v
    | none => none⟩
  | .indexAddr t x ix => ⟨fun T _ => match (copd G N x).run T, (copd G N ix).run T with
    | some v, some u => aindexAddr TT t v u
    | _, _ => none⟩
  | .index t x ix => ⟨fun T _ => match (copd G N x).run T, (copd G N ix).run T with
    | some v, some u => aindex TT t v u
    | _, _ => none⟩
  | .extract x ix => ⟨fun T _ => match (copd G N x).run T with
    | some (.tup l) => l[ix]?
    | _ => none⟩
  | _ => ⟨fun T σ => apure TT G (envOf N T (otmps o.op)) σ o⟩

theorem envOf_has {T : Tr} : ∀ {l : List Nat} {t : Nat} {x : AV}, t ∈ l → t < N → tget (pathOf t) T = some x → eget (envOf N T l) t = some x := by
  intro l
  induction l with
  | nil => intro t x h; simp at h
  | cons a l ih =>
    intro t x h ht hx
    simp only [envOf]
    by_cases hat : a = t
    · subst hat
      rw [(blt_iff a N).mpr ht, hx]
      simp [eget]
    · have hm : t ∈ l := by
        rcases List.mem_cons.mp h with h | h
        · exact absurd h.symm hat
        · exact h
      split
      · simp only [eget]
        rw [if_neg hat]
        exact ih hm ht hx
      · exact ih hm ht hx

theorem copd_env {o : Op} {T : Tr} {x : Operand} {v : AV} (h : (copd G N x).run T = some v) (hx : x ∈ o.operands.toList) : aeval G (envOf N T (otmps o)) x = some v := by
  cases x with
  | tmp t =>
    simp only [copd] at h
    cases hb : Nat.blt t N with
    | false => simp [hb] at h
    | true =>
      simp only [hb, cond_true] at h
      exact envOf_has (by simp only [otmps, List.mem_filterMap]; exact ⟨.tmp t, hx, rfl⟩) ((blt_iff t N).mp hb) h
  | _ => exact h

theorem copt_env {o : Op} {T : Tr} {x : Option Operand} {v : Option AV} (h : copt G N T x = some v) (hx : ∀ y, x = some y → y ∈ o.operands.toList) : aopt G (envOf N T (otmps o)) x = some v := by
  cases x with
  | none => exact h
  | some y =>
    simp only [copt] at h
    split at h
    · rename_i u hu
      cases h
      simp only [aopt, copd_env hu (hx y rfl), Option.map_some]
    · cases h

theorem cbinOp_sound {o : Op} {T : Tr} {σ : Heap} {op : BinOp} {t : TypeId} {x y : Operand} {v : AV} (h : (cbinOp TT G N op t x y).run T σ = some v) (hx : x ∈ o.operands.toList) (hy : y ∈ o.operands.toList) :
    ∃ a b, aeval G (envOf N T (otmps o)) x = some a ∧ aeval G (envOf N T (otmps o)) y = some b ∧ abin TT op t (isConst x || isConst y) a b = some v := by
  have slow : ∀ {v : AV}, (match (copd G N x).run T, (copd G N y).run T with
    | some v, some u => abin TT op t (isConst x || isConst y) v u
    | _, _ => none) = some v → ∃ a b, aeval G (envOf N T (otmps o)) x = some a ∧ aeval G (envOf N T (otmps o)) y = some b ∧ abin TT op t (isConst x || isConst y) a b = some v := by
    intro v h
    split at h
    · rename_i a b ha hb
      exact ⟨a, b, copd_env ha hx, copd_env hb hy, h⟩
    · cases h
  unfold cbinOp at h
  simp only at h
  split at h
  · split at h
    · rename_i k hk
      split at h
      · rename_i f hf
        simp only at h
        split at h
        · rename_i k1 a ha
          split at h
          · rename_i k2 b hb
            cases hc : ((ckind k).run k1 && (ckind k).run k2) with
            | false => simp [hc] at h
            | true =>
              simp only [hc, cond_true, Option.some.injEq] at h
              simp only [Bool.and_eq_true] at hc
              have h1 := ckind_sound hc.1
              have h2 := ckind_sound hc.2
              subst h1; subst h2; subst h
              exact ⟨_, _, copd_env ha hx, copd_env hb hy, cbin_sound hf TT t _ a b⟩
          · cases h
        · cases h
      · exact slow h
    · exact slow h
  · exact slow h

theorem cpure_sound {o : Oper} {T : Tr} {σ : Heap} {v : AV} (h : (cpure TT G N o).run T σ = some v) : apure TT G (envOf N T (otmps o.op)) σ o = some v := by
  unfold cpure at h
  cases hop : o.op with
  | move x => rw [hop] at h; unfold apure; rw [hop]; exact copd_env (o := .move x) h (by simp [Op.operands])
  | assign x => rw [hop] at h; unfold apure; rw [hop]; exact copd_env (o := .assign x) h (by simp [Op.operands])
  | pick c a b =>
    rw [hop] at h; unfold apure; rw [hop]
    simp only at h ⊢
    split at h
    · rename_i hc
      rw [copd_env (o := .pick c a b) hc (by simp [Op.operands])]
      exact copd_env (o := .pick c a b) h (by simp [Op.operands])
    · rename_i hc
      rw [copd_env (o := .pick c a b) hc (by simp [Op.operands])]
      exact copd_env (o := .pick c a b) h (by simp [Op.operands])
    · cases h
  | load t x =>
    rw [hop] at h; unfold apure; rw [hop]
    simp only at h ⊢
    split at h
    · rename_i u hu
      rw [copd_env (o := .load t x) hu (by simp [Op.operands])]
      exact h
    · cases h
  | binOp op t x y ty =>
    rw [hop] at h; unfold apure; rw [hop]
    simp only at h ⊢
    obtain ⟨a, b, ha, hb, hv⟩ := cbinOp_sound (o := .binOp op t x y ty) h (by simp [Op.operands]) (by simp [Op.operands])
    rw [ha, hb]
    exact hv
  | unOp op t x =>
    rw [hop] at h; unfold apure; rw [hop]
    simp only at h ⊢
    split at h
    · rename_i u hu
      rw [copd_env (o := .unOp op t x) hu (by simp [Op.operands])]
      exact h
    · cases h
  | convert s d x =>
    rw [hop] at h; unfold apure; rw [hop]
    simp only at h ⊢
    split at h
    · rename_i u hu
      rw [copd_env (o := .convert s d x) hu (by simp [Op.operands])]
      exact h
    · cases h
  | slice t x lo hi mx =>
    cases mx with
    | some m => rw [hop] at h; simp only at h; exact h
    | none =>
      rw [hop] at h; unfold apure; rw [hop]
      simp only at h ⊢
      split at h
      · rename_i u l m hu hl hm
        rw [copd_env (o := .slice t x lo hi none) hu (by simp [Op.operands]), copt_env (o := .slice t x lo hi none) hl (fun y hy => by subst hy; simp [Op.operands]), copt_env (o := .slice t x lo hi none) hm (fun y hy => by subst hy; simp [Op.operands])]
        exact h
      · cases h
  | fieldAddr t x f =>
    rw [hop] at h; unfold apure; rw [hop]
    simp only at h ⊢
    split at h
    · rename_i u hu
      rw [copd_env (o := .fieldAddr t x f) hu (by simp [Op.operands])]
      exact h
    · cases h
  | field t x f =>
    rw [hop] at h; unfold apure; rw [hop]
    simp only at h ⊢
    split at h
    · rename_i u hu
      rw [copd_env (o := .field t x f) hu (by simp [Op.operands])]
      exact h
    · cases h
  | indexAddr t x ix =>
    rw [hop] at h; unfold apure; rw [hop]
    simp only at h ⊢
    split at h
    · rename_i u m hu hm
      rw [copd_env (o := .indexAddr t x ix) hu (by simp [Op.operands]), copd_env (o := .indexAddr t x ix) hm (by simp [Op.operands])]
      exact h
    · cases h
  | index t x ix =>
    rw [hop] at h; unfold apure; rw [hop]
    simp only at h ⊢
    split at h
    · rename_i u m hu hm
      rw [copd_env (o := .index t x ix) hu (by simp [Op.operands]), copd_env (o := .index t x ix) hm (by simp [Op.operands])]
      exact h
    · cases h
  | extract x ix =>
    rw [hop] at h; unfold apure; rw [hop]
    simp only at h ⊢
    split at h
    · rename_i l hl
      rw [copd_env (o := .extract x ix) hl (by simp [Op.operands])]
      exact h
    · cases h
  | _ => rw [hop] at h; simp only at h; exact h
end
end Go.Ma
