/- Functions of the library without a body; calls through an interface. -/
import Derived.Test.YtakafhbabgpecaaGreatDoorMaOps6
import Derived.Test.YtakafhbabgpecaaGreatDoorMaMore
import Derived.Lib.Bytealg
import Derived.KernelRfl
namespace Go.Ma
section
variable {P : Program} {TT : Types} {G : Globals} {N n0 : Nat}

inductive ExtK where
  | indexByte
  | count
  | cmp
  deriving Inhabited

def idxB (c : Nat) : List UInt8 → Nat → Int
  | [], _ => -1
  | x :: l, i => match Nat.beq x.toNat c with
    | true => i
    | false => idxB c l (i + 1)

def cntB (c : Nat) : List UInt8 → Nat
  | [] => 0
  | x :: l => match Nat.beq x.toNat c with
    | true => cntB c l + 1
    | false => cntB c l

def cmpB : List UInt8 → List UInt8 → Int
  | [], [] => 0
  | [], _ :: _ => -1
  | _ :: _, [] => 1
  | x :: l, y :: m => match Nat.blt x.toNat y.toNat with
    | true => -1
    | false => match Nat.blt y.toNat x.toNat with
      | true => 1
      | false => cmpB l m

def aext : ExtK → List AV → Option AV
  | .indexByte, [.str b, .int .u8 c] => some (.int .i64 (idxB c.toNat.toUInt8.toNat b.data.toList 0))
  | .count, [.str b, .int .u8 c] => some (.int .i64 (cntB c.toNat.toUInt8.toNat b.data.toList))
  | .cmp, [.str a, .str b] => some (.int .i64 (cmpB a.data.toList b.data.toList))
  | _, _ => none

def extSem : ExtK → Array Value → Sem Value
  | .indexByte => Extern.BytealgIndexByte.indexByte
  | .count => Extern.BytealgCount.count
  | .cmp => Extern.BytealgCompare.compare

theorem beq8 (x c : UInt8) : Nat.beq x.toNat c.toNat = (x == c) := by
  cases h : (x == c) with
  | true =>
    have : x = c := by simpa using h
    subst this; simp
  | false =>
    cases hb : Nat.beq x.toNat c.toNat with
    | false => rfl
    | true =>
      have h1 := Nat.eq_of_beq_eq_true hb
      have : x = c := UInt8.toNat_inj.mp h1
      subst this; simp at h

theorem idxB_eq (c : UInt8) : ∀ (l : List UInt8) (k : Nat), idxB c.toNat l k = if Lib.indexByte l c == -1 then -1 else (k : Int) + Lib.indexByte l c := by
  intro l
  induction l with
  | nil => intro k; rfl
  | cons x l ih =>
    intro k
    have hge := Lib.indexByte_ge l c
    cases hxc : (x == c) with
    | true => simp only [idxB, Lib.indexByte, beq8, hxc]; simp
    | false =>
      simp only [idxB, Lib.indexByte, beq8, hxc, ih, Bool.false_eq_true, if_false]
      by_cases h : Lib.indexByte l c = -1
      · simp [h]
      · have h1 : (Lib.indexByte l c == -1) = false := by simpa using h
        have h2 : (Lib.indexByte l c + 1 == -1) = false := by simp; omega
        simp only [h1, h2, Bool.false_eq_true, if_false]
        omega

theorem idxB_zero (c : UInt8) (l : List UInt8) : idxB c.toNat l 0 = Lib.indexByte l c := by
  rw [idxB_eq]
  split
  · rename_i h; simpa using (by simpa using h : Lib.indexByte l c = -1).symm
  · simp

theorem cntB_eq (c : UInt8) : ∀ (l : List UInt8), cntB c.toNat l = Lib.countByte l c := by
  intro l
  induction l with
  | nil => rfl
  | cons x l ih =>
    unfold Lib.countByte at ih ⊢
    simp only [cntB, beq8, ih, List.count_cons]
    cases hxc : (x == c) <;> simp

theorem cmpB_eq : ∀ (a b : List UInt8), cmpB a b = Lib.compareBytes a b
  | [], [] => rfl
  | [], _ :: _ => rfl
  | _ :: _, [] => rfl
  | x :: a, y :: b => by
    have ih := cmpB_eq a b
    have e : ∀ p q : UInt8, Nat.blt p.toNat q.toNat = decide (p < q) := fun p q => by
      have h1 : (p < q) ↔ p.toNat < q.toNat := UInt8.lt_iff_toNat_lt
      by_cases h : p < q
      · simp only [h, decide_true]; simpa [Nat.blt, Nat.lt_iff_add_one_le] using h1.mp h
      · have h2 : ¬ p.toNat < q.toNat := fun hh => h (h1.mpr hh)
        simp only [h, decide_false]
        cases hb : Nat.blt p.toNat q.toNat with
        | false => rfl
        | true => exact absurd (by simpa [Nat.blt, Nat.lt_iff_add_one_le] using hb) h2
    simp only [cmpB, Lib.compareBytes, e, ih]
    by_cases h1 : x < y
    · simp [h1]
    · by_cases h2 : y < x <;> simp [h1, h2]

theorem aext_sound {ρ : Ren} {Φ : Frz} {k : ExtK} {l : List AV} {c : Array Value} (hc : CR ρ Φ l c) {y : AV} (h : aext k l = some y) (w : World) : ∃ u, (extSem k c).run P w = .ok u w ∧ VR ρ Φ y u := by
  have two : ∀ {a b : AV}, l = [a, b] → ∃ u v, c = #[u, v] ∧ VR ρ Φ a u ∧ VR ρ Φ b v := fun {a b} hl => by
    subst hl
    have hs : c.size = 2 := by have := hc.1; simpa using this.symm
    obtain ⟨⟨cl⟩⟩ := c
    · simp at hs
    · rename_i u cl
      match cl, hs with
      | [v], _ => exact ⟨u, v, rfl, hc.2 0 a u rfl rfl, hc.2 1 b v rfl rfl⟩
  unfold aext at h
  split at h
  · cases h
    obtain ⟨u, v, rfl, h1, h2⟩ := two rfl
    cases h1; cases h2
    exact ⟨_, by rw [extSem, Lib.run_indexByteString, ← idxB_zero], .int _ _⟩
  · cases h
    obtain ⟨u, v, rfl, h1, h2⟩ := two rfl
    cases h1; cases h2
    exact ⟨_, by rw [extSem, Lib.run_countString, ← cntB_eq], .int _ _⟩
  · cases h
    obtain ⟨u, v, rfl, h1, h2⟩ := two rfl
    cases h1; cases h2
    exact ⟨_, by rw [extSem, Lib.run_compareString, ← cmpB_eq], .int _ _⟩
  · cases h

/-- The function f is one of the library's, without a body. -/
structure ExtOk (P : Program) (f : FuncId) (fn : Func) (k : ExtK) : Prop where
  func : P.funcs[f]? = some fn
  name : (fn.name == "runtime.NumGoroutine") = false
  body : fn.body.isNone = true
  next : Extern.findNext fn = none
  find : Extern.find fn = some (extSem k)

theorem OpOk.ext {o : Oper} {e : Env} {σ : Heap} {n : Nat} {Q : AV → Heap → Nat → Prop} {f : FuncId} {args : Array Operand} {ts : Array TypeId} (ho : o.op = .call { callee := .value (.func f), args := args, argTypes := ts })
    {vs : List AV} (ha : aevals G e args.toList = some vs) {fn : Func} {k : ExtK} (hf : ExtOk P f fn k) {y : AV} (h : aext k vs = some y) (hq : Q y σ n) : OpOk P G o e σ n Q := by
  intro ρ Φ w ca K Qx hR hg he hK
  obtain ⟨h1, h2⟩ := aevals_sound hg he ha
  have hca : CR ρ Φ vs (args.map ca.eval) := ⟨by simpa using h1, fun j y u hy hu => h2 j y u hy (by simpa using hu)⟩
  obtain ⟨u, k1, k2⟩ := aext_sound (P := P) hca h w
  unfold Oper.wp
  have : (execOp ca.eval o).run P w = .ok (.value u) w := by
    have := run_callFunc_extern hf.func hf.name hf.body hf.next hf.find (args.map ca.eval) w
    rw [k1] at this
    simp [execOp, ho, resolve, Act.eval, Deferred.ofValue, invoke, this, Result.andThen]
  rw [this, Oper.upon_value]
  exact hK _ _ _ _ _ _ _ hq k2 hR (Step.refl _ _ _ _)

def extName : ExtK → String
  | .indexByte => "internal/bytealg.IndexByteString"
  | .count => "internal/bytealg.CountString"
  | .cmp => "internal/bytealg.abigen_runtime_cmpstring"

theorem find_of_name {fn : Func} {k : ExtK} (hn : fn.name = extName k) : Extern.find fn = some (extSem k) := by
  have h1 : Extern.allGenericRows.lookup (extName k) = none := by cases k <;> kernel_rfl
  have h2 : Extern.allTypedRows.lookup (extName k) = none := by cases k <;> kernel_rfl
  have h3 : Extern.allRows.lookup (extName k) = some (extSem k) := by cases k <;> kernel_rfl
  simp only [Extern.find, hn, h1, h2, h3, Option.map_none, HOrElse.hOrElse, OrElse.orElse, Option.orElse]

/-- The externs of a program, by their names. -/
def extOf (P : Program) (f : Nat) : Option ExtK :=
  match P.funcs[f]? with
  | some fn => (match fn.body, (Extern.findNext fn).isNone with
    | none, true => if fn.name = extName .indexByte then some .indexByte else if fn.name = extName .count then some .count else if fn.name = extName .cmp then some .cmp else none
    | _, _ => none)
  | none => none

theorem extOf_ok {f : Nat} {k : ExtK} (h : extOf P f = some k) : ∃ fn, ExtOk P f fn k := by
  unfold extOf at h
  split at h
  · rename_i fn hfn
    split at h
    · rename_i hb hnx
      have hbb : fn.body.isNone = true := by simp [hb]
      have hn : fn.name = extName k := by
        split at h
        · rename_i hn; cases h; exact hn
        · split at h
          · rename_i hn; cases h; exact hn
          · split at h
            · rename_i hn; cases h; exact hn
            · cases h
      exact ⟨fn, hfn, by rw [hn]; cases k <;> rfl, hbb, by simpa using hnx, find_of_name hn⟩
    · cases h
  · cases h

/-! ### Calls through an interface -/

/-- The method of a type, where it is the type's own. -/
def amethod (P : Program) (t : TypeId) (name : String) : Option FuncId :=
  match P.info? t, P.underlying t with
  | some i, some d => (match i.methods.find? (fun m => m.name == name) with
    | some m => (match m.path.toList, m.func with
      | [], some (f, pr) => (match d, pr with
        | .pointer _, true => some f
        | .pointer _, false => none
        | _, true => none
        | _, false => some f)
      | _, _ => none)
    | none => none)
  | _, _ => none

theorem run_method {t : TypeId} {name : String} {f : FuncId} (h : amethod P t name = some f) (k : Nat) (v : Value) (w : World) : (method (k + 1) t v name).run P w = .ok (f, v) w := by
  unfold amethod at h
  split at h
  · rename_i i d hi hd
    split at h
    · rename_i m hm
      split at h
      · rename_i f' pr hp hf
        have hti : ∀ w, (typeInfo t).run P w = .ok i w := fun w => by simp [typeInfo, hi]
        have hu : ∀ w, (underlying t).run P w = .ok d w := fun w => run_underlying (w := w) hd
        have hm' : i.methods.find? (·.name == name) = some m := hm
        have base : ∀ (hh : (receiverAt t (.val v) pr (if m.path.isEmpty then some ((name.splitOn ".").getLastD name) else none)).run P w = .ok v w), f = f' → (method (k + 1) t v name).run P w = .ok (f, v) w := fun hh he => by
          subst he
          simp only [method, Sem.run_bind, hti, Result.andThen_ok, hm', hp, follow, Sem.run_pure, hf, hh]
        split at h
        · cases h
          exact base (by simp [receiverAt, hu, Place.get]) rfl
        · cases h
        · cases h
        · cases h
          rename_i hnp
          refine base ?_ rfl
          cases d <;> first | exact absurd rfl (hnp _) | simp [receiverAt, hu, Place.get]
      · cases h
    · cases h
  · cases h

theorem OpOk.invoke {o : Oper} {e : Env} {σ : Heap} {n : Nat} {Q : AV → Heap → Nat → Prop} {x : Operand} {name : String} {args : Array Operand} {ts : Array TypeId} (ho : o.op = .call { callee := .invoke x name, args := args, argTypes := ts })
    {t : TypeId} {v : AV} {vs : List AV} (hx : aeval G e x = some (.iface t v)) (ha : aevals G e args.toList = some vs) {f : FuncId} (hm : amethod P t name = some f) {fn : Func} {c : Code} (hf : FnOk P f fn c) (h : ACalls P G f (v :: vs) σ n Q) :
    OpOk P G o e σ n Q := by
  intro ρ Φ w ca K Qx hR hg he hK
  have hvx := aeval_sound hg he hx
  obtain ⟨h1, h2⟩ := aevals_sound hg he ha
  generalize hq : ca.eval x = q at hvx
  cases hvx with
  | iface hv =>
    rename_i u
    obtain ⟨k, hk⟩ : ∃ k, P.types.size + Made.depth = k + 1 := ⟨P.types.size + (Made.depth - 1), rfl⟩
    have hrun : (execOp ca.eval o).run P w = .ok (.enter f (#[u] ++ args.map ca.eval)) w := by
      have hn := hf.name
      have hmm := run_method hm k u w
      rw [← hk] at hmm
      have he0 : (#[Value.iface t u] ++ args.map ca.eval)[0]? = some (.iface t u) := by rw [Array.getElem?_append_left (by simp)]; rfl
      have he1 : (#[Value.iface t u] ++ args.map ca.eval).extract 1 (#[Value.iface t u] ++ args.map ca.eval).size = args.map ca.eval := by
        apply Array.ext'
        simp [Array.toList_extract]
        exact List.take_of_length_le (by simp)
      simp only [execOp, ho, resolve, hq, Sem.run_bind, Sem.run_pure, Result.andThen_ok, Go.invoke, he0, he1, callMethod, program, Sem.run, hmm, callFunc, hf.func, hf.body, hn, if_false, Option.isNone_some, Bool.false_eq_true]
    have hca : CR ρ Φ (v :: vs) (#[u] ++ args.map ca.eval) := by
      refine ⟨by simpa [Nat.add_comm] using h1, fun j y z hy hz => ?_⟩
      cases j with
      | zero =>
        have hz' : (#[u] ++ args.map ca.eval)[0]? = some u := by rw [Array.getElem?_append_left (by simp)]; rfl
        rw [hz'] at hz
        simp at hy hz
        subst hy; subst hz
        exact hv
      | succ j =>
        have hz' : (args.map ca.eval)[j]? = some z := by
          rw [← hz, Array.getElem?_append_right (by simp)]
          simp
        exact h2 j y z (by simpa using hy) (by simpa using hz')
    unfold Oper.wp
    rw [hrun, Oper.upon_enter]
    refine (h ρ Φ w _ hR hg hca).mono fun x' w' hp => ?_
    obtain ⟨v', σ', n', ρ', Φ', cv, rfl, k1, k2, k3, k4⟩ := hp
    exact hK v' σ' n' ρ' Φ' cv w' k1 k2 k3 k4
end
end Go.Ma
