/- Operations that turn nothing in memory, second part: arithmetic, comparisons, conversions, lengths, slices. -/
import Derived.Test.YtakafhbabgpecaaGreatDoorMaOps
namespace Go.Ma
section
variable {P : Program} {TT : Types}

def abinInt (op : BinOp) (k : IntKind) (a b : Int) : Option AV :=
  match op with
  | .add => some (.int k (k.wrap (a + b)))
  | .sub => some (.int k (k.wrap (a - b)))
  | .mul => some (.int k (k.wrap (a * b)))
  | .quo => if b = 0 then none else some (.int k (k.wrap (a.tdiv b)))
  | .rem => if b = 0 then none else some (.int k (a.tmod b))
  | .and => some (.int k (k.wrap (BitVec.ofInt k.bits a &&& BitVec.ofInt k.bits b).toNat))
  | .or => some (.int k (k.wrap (BitVec.ofInt k.bits a ||| BitVec.ofInt k.bits b).toNat))
  | .xor => some (.int k (k.wrap (BitVec.ofInt k.bits a ^^^ BitVec.ofInt k.bits b).toNat))
  | .andNot => some (.int k (k.wrap (BitVec.ofInt k.bits a &&& ~~~BitVec.ofInt k.bits b).toNat))
  | .eql => some (.bool (a == b))
  | .neq => some (.bool (a != b))
  | .lss => some (.bool (a < b))
  | .leq => some (.bool (a ≤ b))
  | .gtr => some (.bool (a > b))
  | .geq => some (.bool (a ≥ b))
  | _ => none

def abinStr (op : BinOp) (a b : ByteArray) : Option AV :=
  match op with
  | .add => if a.size + b.size < 9223372036854775808 then some (.str (a ++ b)) else none
  | .eql => some (.bool (a.data.toList == b.data.toList))
  | .neq => some (.bool (!(a.data.toList == b.data.toList)))
  | .lss => some (.bool (Op.bytesLess a.data.toList b.data.toList))
  | .leq => some (.bool (Op.bytesLess a.data.toList b.data.toList || a.data.toList == b.data.toList))
  | .gtr => some (.bool (!(Op.bytesLess a.data.toList b.data.toList || a.data.toList == b.data.toList)))
  | .geq => some (.bool (!(Op.bytesLess a.data.toList b.data.toList)))
  | _ => none

/-- '==' at Bools, and against nil. c: one of the operands is a constant. -/
def aeql (TT : Types) (t : TypeId) (c : Bool) (x y : AV) : Option Bool :=
  match TT t with
  | some i => match i.desc, x, y with
    | .bool, .bool a, .bool b => some (a == b)
    | .pointer _, .nilp, .nilp => some true
    | .pointer _, .nilp, .ptr _ _ => some false
    | .pointer _, .ptr _ _, .nilp => some false
    | .pointer _, .nilp, .fp _ _ => some false
    | .pointer _, .fp _ _, .nilp => some false
    | .slice _, .nils, .nils => some true
    | .slice _, .nils, .sl _ _ (_ + 1) => some false
    | .slice _, .sl _ _ (_ + 1), .nils => some false
    | .slice _, .nils, .fs (_ :: _) => some false
    | .slice _, .fs (_ :: _), .nils => some false
    | .map _ _, .nilm, .nilm => some true
    | .map _ _, .nilm, .map _ => some false
    | .map _ _, .map _, .nilm => some false
    | .interface _, .niliface, .niliface => if c then some true else none
    | .interface _, .niliface, .iface _ _ => some false
    | .interface _, .iface _ _, .niliface => some false
    | .struct _, .agg l, .agg m => if i.eq then (if l.length = i.size ∧ m.length = i.size ∧ shapeA i.zero l = true then scalsEq l m else none) else none
    | .array _ _, .agg l, .agg m => if i.eq then (if l.length = i.size ∧ m.length = i.size ∧ shapeA i.zero l = true then scalsEq l m else none) else none
    | _, _, _ => none
  | none => none

def abin (TT : Types) (op : BinOp) (t : TypeId) (c : Bool) (x y : AV) : Option AV :=
  match x, y with
  | .int k a, .int k' b => match op with
    | .shl => if b < 0 then none else some (.int k (k.wrap (a * 2 ^ (min b.toNat k.bits))))
    | .shr => if b < 0 then none else some (.int k (a.fdiv (2 ^ (min b.toNat k.bits))))
    | _ => if k = k' then abinInt op k a b else none
  | .str a, .str b => abinStr op a b
  | x, y => match op with
    | .eql => (aeql TT t c x y).map .bool
    | .neq => (aeql TT t c x y).map fun b => .bool (!b)
    | _ => none

def isConst : Operand → Bool
  | .const _ => true
  | _ => false

theorem scalEq_V {ρ : Ren} {Φ : Frz} {x y : AV} {v u : Value} (hx : VR ρ Φ x v) (hy : VR ρ Φ y u) {b : Bool} (h : scalEq x y = some b) : scalEqV v u = some b := by
  cases hx <;> cases hy <;> simp_all [scalEq, scalEqV]

theorem scalsEq_V {ρ : Ren} {Φ : Frz} : ∀ {l m : List AV} {c d : List Value}, l.length = c.length → m.length = d.length → (∀ (j : Nat) (x : AV) (v : Value), l[j]? = some x → c[j]? = some v → VR ρ Φ x v) →
    (∀ (j : Nat) (x : AV) (v : Value), m[j]? = some x → d[j]? = some v → VR ρ Φ x v) → ∀ {b : Bool}, scalsEq l m = some b → scalsEqV c d = some b := by
  intro l
  induction l with
  | nil =>
    intro m c d hl hm _ _ b h
    cases m with
    | nil =>
      have hc : c = [] := by simpa using hl.symm
      have hd : d = [] := by simpa using hm.symm
      subst hc; subst hd; exact h
    | cons y m => simp [scalsEq] at h
  | cons x l ih =>
    intro m c d hl hm hvl hvm b h
    cases m with
    | nil => simp [scalsEq] at h
    | cons y m =>
      cases c with
      | nil => simp at hl
      | cons v c =>
        cases d with
        | nil => simp at hm
        | cons u d =>
          simp only [scalsEq] at h
          split at h
          · rename_i p q hp hq
            simp only [Option.some.injEq] at h
            have h1 := scalEq_V (hvl 0 x v rfl rfl) (hvm 0 y u rfl rfl) hp
            have h2 := ih (by simpa using hl) (by simpa using hm) (fun j z r hz hr => hvl (j + 1) z r (by simpa using hz) (by simpa using hr)) (fun j z r hz hr => hvm (j + 1) z r (by simpa using hz) (by simpa using hr)) hq
            simp [scalsEqV, h1, h2, h]
          · cases h

theorem equal_succ (t : TypeId) (x y : Value) : Op.equal t x y = Op.equalIn (9999 + 1) t x y := rfl

def nilEqV : TypeDesc → Value → Value → Option Bool
  | .bool, .bool a, .bool b => some (a == b)
  | .pointer _, .pointer none, .pointer b => some b.isNone
  | .pointer _, .pointer (some _), .pointer none => some false
  | .slice _, .slice none _ _, .slice b _ _ => some b.isNone
  | .slice _, .slice (some _) _ _, .slice none _ _ => some false
  | .map _ _, .map none, .map b => some b.isNone
  | .map _ _, .map (some _), .map none => some false
  | .interface _, .nilIface, .nilIface => some true
  | .interface _, .nilIface, .iface _ _ => some false
  | .interface _, .iface _ _, .nilIface => some false
  | _, _, _ => none

theorem nilEqV_run {d : Nat} {t : TypeId} {D : TypeDesc} {w : World} (hu : (underlying t).run P w = .ok D w) {v u : Value} {b : Bool} (h : nilEqV D v u = some b) : (Op.equalIn (d + 1) t v u).run P w = .ok b w := by
  unfold nilEqV at h
  split at h <;> first
    | cases h
    | skip
  all_goals (unfold Op.equalIn; rw [Sem.run_bind, hu]; simp)

theorem equal_9 (t : TypeId) (x y : Value) : Op.equal t x y = Op.equalIn (9991 + 9) t x y := rfl

theorem eql_of_equal {t : TypeId} {w : World} {v u : Value} {b : Bool} (hk : ∀ d, (Op.equalIn (d + 9) t v u).run P w = .ok b w) (h1 : ∀ k n, v ≠ .int k n) (h2 : ∀ s, v ≠ .string s) (h3 : ∀ k n, v ≠ .float k n) (h4 : ∀ k n m, v ≠ .complex k n m) :
    (binOp .eql t v u).run P w = .ok (.bool b) w ∧ (binOp .neq t v u).run P w = .ok (.bool (!b)) w := by
  have hk' : (Op.equal t v u).run P w = .ok b w := by rw [equal_9]; exact hk 9991
  cases v <;> first
    | (exact absurd rfl (h1 _ _))
    | (exact absurd rfl (h2 _))
    | (exact absurd rfl (h3 _ _))
    | (exact absurd rfl (h4 _ _ _))
    | (constructor <;> (unfold binOp; simp only [Sem.run_bind, hk', Result.andThen_ok, Sem.run_pure]))

theorem aeql_sound (hT : TOk P TT) {ρ : Ren} {Φ : Frz} (w : World) {x y : AV} {v u : Value} (hx : VR ρ Φ x v) (hy : VR ρ Φ y u) {t : TypeId} {ox oy : Operand} {b : Bool} (h : aeql TT t (isConst ox || isConst oy) x y = some b) :
    (∀ op, (eqGuard op t ox oy v u).run P w = .ok () w) ∧ (binOp .eql t v u).run P w = .ok (.bool b) w ∧ (binOp .neq t v u).run P w = .ok (.bool (!b)) w := by
  unfold aeql at h
  split at h
  · rename_i i hi
    have hu := hT.run_und hi
    split at h <;> rename_i hd <;> (try cases h)
    all_goals first
      | (cases hx; cases hy; refine ⟨fun op => ?_, eql_of_equal (fun d => nilEqV_run (hu w) ?_) ?_ ?_ ?_ ?_⟩
         · simp [eqGuard]; done
         · rw [hd]; simp [nilEqV]; done
         all_goals (intros; simp))
      | skip
    · -- two nil interface values, one of them a constant
      split at h
      · rename_i hc
        cases h
        cases hx; cases hy
        refine ⟨fun op => ?_, eql_of_equal (fun d => nilEqV_run (hu w) (by rw [hd]; simp [nilEqV])) (by intros; simp) (by intros; simp) (by intros; simp) (by intros; simp)⟩
        revert hc
        cases ox <;> cases oy <;> intro hc <;> first
          | (simp [isConst] at hc; done)
          | (cases op <;> simp [eqGuard])
      · cases h
    · rename_i l m
      split at h
      · rename_i heq
        split at h
        · rename_i hlen
          cases hx with
          | agg h1 hv1 =>
            cases hy with
            | agg h2 hv2 =>
              have := hT.eqs t i hi heq _ _ b w (h1.symm.trans hlen.1) (h2.symm.trans hlen.2.1) (shape_V (by simpa using h1) (fun j z r hz hr => hv1 j z r hz (by simpa using hr)) hlen.2.2) (scalsEq_V (by simpa using h1) (by simpa using h2) (fun j z r hz hr => hv1 j z r hz (by simpa using hr)) (fun j z r hz hr => hv2 j z r hz (by simpa using hr)) h)
              exact ⟨fun op => this.1 op ox oy, eql_of_equal this.2.1 (by intros; simp) (by intros; simp) (by intros; simp) (by intros; simp)⟩
        · cases h
      · cases h
    · rename_i l m
      split at h
      · rename_i heq
        split at h
        · rename_i hlen
          cases hx with
          | agg h1 hv1 =>
            cases hy with
            | agg h2 hv2 =>
              have := hT.eqs t i hi heq _ _ b w (h1.symm.trans hlen.1) (h2.symm.trans hlen.2.1) (shape_V (by simpa using h1) (fun j z r hz hr => hv1 j z r hz (by simpa using hr)) hlen.2.2) (scalsEq_V (by simpa using h1) (by simpa using h2) (fun j z r hz hr => hv1 j z r hz (by simpa using hr)) (fun j z r hz hr => hv2 j z r hz (by simpa using hr)) h)
              exact ⟨fun op => this.1 op ox oy, eql_of_equal this.2.1 (by intros; simp) (by intros; simp) (by intros; simp) (by intros; simp)⟩
        · cases h
      · cases h
  · cases h

theorem abin_sound (hT : TOk P TT) {ρ : Ren} {Φ : Frz} (w : World) {x y z : AV} {v u : Value} (hx : VR ρ Φ x v) (hy : VR ρ Φ y u) {op : BinOp} {t : TypeId} {ox oy : Operand}
    (h : abin TT op t (isConst ox || isConst oy) x y = some z) : ∃ r, (do eqGuard op t ox oy v u; binOp op t v u : Sem Value).run P w = .ok r w ∧ VR ρ Φ z r := by
  unfold abin at h
  split at h
  · cases hx; cases hy
    split at h
    · split at h
      · cases h
      · rename_i hb
        cases h
        refine ⟨_, ?_, .int _ _⟩; simp [eqGuard, binOp, Op.shift, hb]
    · split at h
      · cases h
      · rename_i hb
        cases h
        refine ⟨_, ?_, .int _ _⟩; simp [eqGuard, binOp, Op.shift, hb]
    · rename_i hshl hshr
      split at h
      · rename_i hk
        subst hk
        unfold abinInt at h
        split at h
        all_goals first
          | (cases h; refine ⟨_, ?_, .int _ _⟩; simp [eqGuard, binOp, Op.intArith, Op.intBits]; done)
          | (cases h; refine ⟨_, ?_, .bool _⟩; simp [eqGuard, binOp, Op.intCmp]; done)
          | (split at h
             · cases h
             · rename_i hb
               cases h
               refine ⟨_, ?_, .int _ _⟩; simp [eqGuard, binOp, Op.intDiv, hb])
          | cases h
      · cases h
  · cases hx; cases hy
    unfold abinStr at h
    simp only [← ba_toList] at h
    split at h
    · split at h
      · rename_i hs
        cases h
        refine ⟨_, ?_, .str _⟩
        have hmax : IntKind.i64.max = 9223372036854775807 := by decide
        simp [eqGuard, binOp, Op.stringOp, hmax]
        omega
      · cases h
    all_goals first
      | (cases h; refine ⟨_, ?_, .bool _⟩; simp [eqGuard, binOp, Op.stringOp]; done)
      | cases h
  · rename_i h1 h2
    split at h
    · cases hb : aeql TT t (isConst ox || isConst oy) x y with
      | none => simp [hb] at h
      | some b =>
        simp only [hb, Option.map_some, Option.some.injEq] at h
        subst h
        obtain ⟨k1, k2, _⟩ := aeql_sound hT w hx hy hb
        refine ⟨_, ?_, .bool _⟩; simp [k1, k2]
    · cases hb : aeql TT t (isConst ox || isConst oy) x y with
      | none => simp [hb] at h
      | some b =>
        simp only [hb, Option.map_some, Option.some.injEq] at h
        subst h
        obtain ⟨k1, _, k2⟩ := aeql_sound hT w hx hy hb
        refine ⟨_, ?_, .bool _⟩; simp [k1, k2]
    · cases h
end
end Go.Ma
