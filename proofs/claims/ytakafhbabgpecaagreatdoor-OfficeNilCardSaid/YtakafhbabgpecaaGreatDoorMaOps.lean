/- Operations that turn nothing in memory: an executable abstract function, proved sound against the model's operation. -/
import Derived.Test.YtakafhbabgpecaaGreatDoorMaCore
namespace Go.Ma

/-- What is known of a type. -/
structure TI where
  desc : TypeDesc
  size : Nat
  bytes : Nat
  zero : List AV
  eq : Bool := false
  deriving Inhabited

abbrev Types := TypeId → Option TI

def isAggD : TypeDesc → Bool
  | .struct _ | .array _ _ => true
  | _ => false

/-- Equality of two lists of cells that hold numbers, texts and Bools of the same kinds. -/
theorem ba_loop (s : ByteArray) : ∀ (k i : Nat) (r : List UInt8), s.size - i = k → ByteArray.toList.loop s i r = r.reverse ++ s.data.toList.drop i := by
  intro k
  have hs : s.size = s.data.toList.length := by cases s; rfl
  induction k with
  | zero =>
    intro i r h
    unfold ByteArray.toList.loop
    rw [if_neg (by omega), List.drop_eq_nil_of_le (by omega)]
    simp
  | succ k ih =>
    intro i r h
    unfold ByteArray.toList.loop
    have hlt : i < s.data.toList.length := by omega
    rw [if_pos (by omega), ih (i + 1) _ (by omega), List.drop_eq_getElem_cons hlt]
    have hlt' : i < s.data.size := by simpa using hlt
    have : s.get! i = s.data.toList[i] := by
      show s.data[i]! = _
      rw [getElem!_pos s.data i hlt']; simp
    rw [this]
    simp
theorem ba_toList (s : ByteArray) : s.toList = s.data.toList := by
  unfold ByteArray.toList
  rw [ba_loop s _ 0 [] rfl]
  simp
theorem ba_beq (a b : ByteArray) : (a == b) = (a.data.toList == b.data.toList) := by
  cases a; cases b
  rename_i a b
  show (a == b) = (a.toList == b.toList)
  by_cases h : a = b
  · subst h; simp
  · have : ¬ a.toList = b.toList := fun hh => h (by cases a; cases b; simpa using hh)
    rw [beq_eq_false_iff_ne.mpr h, beq_eq_false_iff_ne.mpr this]
theorem ba_beq' (a b : ByteArray) : (a == b) = (a.toList == b.toList) := by rw [ba_beq, ba_toList, ba_toList]

def scalEqV : Value → Value → Option Bool
  | .int k a, .int k' b => if k = k' then some (a == b) else none
  | .string a, .string b => some (a.data.toList == b.data.toList)
  | .bool a, .bool b => some (a == b)
  | _, _ => none

def scalsEqV : List Value → List Value → Option Bool
  | [], [] => some true
  | a :: x, b :: y => match scalEqV a b, scalsEqV x y with
    | some p, some q => some (p && q)
    | _, _ => none
  | _, _ => none

def scalEq : AV → AV → Option Bool
  | .int k a, .int k' b => if k = k' then some (a == b) else none
  | .str a, .str b => some (a.data.toList == b.data.toList)
  | .bool a, .bool b => some (a == b)
  | _, _ => none

def scalsEq : List AV → List AV → Option Bool
  | [], [] => some true
  | a :: x, b :: y => match scalEq a b, scalsEq x y with
    | some p, some q => some (p && q)
    | _, _ => none
  | _, _ => none

/-- The values are of the kinds of the first list. -/
def shapeV : List AV → List Value → Bool
  | [], [] => true
  | .int k _ :: z, .int k' _ :: c => (match decEq k k' with
    | isTrue _ => shapeV z c
    | isFalse _ => false)
  | .str _ :: z, .string _ :: c => shapeV z c
  | .bool _ :: z, .bool _ :: c => shapeV z c
  | _, _ => false

def shapeA : List AV → List AV → Bool
  | [], [] => true
  | .int k _ :: z, .int k' _ :: c => (match decEq k k' with
    | isTrue _ => shapeA z c
    | isFalse _ => false)
  | .str _ :: z, .str _ :: c => shapeA z c
  | .bool _ :: z, .bool _ :: c => shapeA z c
  | _, _ => false

theorem shape_V {ρ : Ren} {Φ : Frz} : ∀ {z l : List AV} {c : List Value}, l.length = c.length → (∀ (j : Nat) (x : AV) (v : Value), l[j]? = some x → c[j]? = some v → VR ρ Φ x v) → shapeA z l = true → shapeV z c = true := by
  intro z
  induction z with
  | nil =>
    intro l c hl _ h
    cases l with
    | nil =>
      cases c with
      | nil => rfl
      | cons v c => simp at hl
    | cons x l => simp [shapeA] at h
  | cons a z ih =>
    intro l c hl hv h
    cases l with
    | nil => cases a <;> simp [shapeA] at h
    | cons x l =>
      cases c with
      | nil => simp at hl
      | cons v c =>
        have h0 := hv 0 x v rfl rfl
        have hl' : l.length = c.length := by simpa using hl
        have hv' : ∀ (j : Nat) (x : AV) (v : Value), l[j]? = some x → c[j]? = some v → VR ρ Φ x v := fun j x v hx hv1 => hv (j + 1) x v (by simpa using hx) (by simpa using hv1)
        unfold shapeA at h
        split at h <;> rename_i h1 h2
        · cases h1
        · cases h1; cases h2
          cases h0
          simp only [shapeV]
          split at h
          · exact ih hl' hv' h
          · cases h
        · cases h1; cases h2
          cases h0
          exact ih hl' hv' h
        · cases h1; cases h2
          cases h0
          exact ih hl' hv' h
        · cases h

/-- The zero of a type. -/
def azero (i : TI) : AV := if isAggD i.desc then .agg i.zero else i.zero.headD .nilp

structure TOk (P : Program) (TT : Types) : Prop where
  und : ∀ t i, TT t = some i → P.underlying t = some i.desc
  eqs : ∀ t i, TT t = some i → i.eq = true → ∀ (xs ys : Array Value) (b : Bool) (w : World), xs.size = i.size → ys.size = i.size → shapeV i.zero xs.toList = true → scalsEqV xs.toList ys.toList = some b →
    (∀ op ox oy, (eqGuard op t ox oy (.agg xs) (.agg ys)).run P w = .ok () w) ∧ (∀ d, (Op.equalIn (d + 9) t (.agg xs) (.agg ys)).run P w = .ok b w) ∧ (∀ e d, (Instr.checkKey e (d + 9) t (.agg xs)).run P w = .ok () w)
  size : ∀ t i, TT t = some i → ∀ w, (sizeOf t).run P w = .ok i.size w
  zero : ∀ t i, TT t = some i → ∃ z, (∀ w, (zeroValue t).run P w = .ok z w) ∧ ofScalars z.cells.toList = some i.zero
  bytes : ∀ t i, TT t = some i → i.bytes ≠ 0 → (P.info? t).map (·.bytes) = some i.bytes
  zval : ∀ t i, TT t = some i → ∀ z, (∀ w, (zeroValue t).run P w = .ok z w) → ofConst z = some (azero i)

section
variable {P : Program} {TT : Types}

theorem TOk.run_und (hT : TOk P TT) {t : TypeId} {i : TI} (h : TT t = some i) (w : World) : (underlying t).run P w = .ok i.desc w := run_underlying (hT.und t i h) w

theorem TOk.run_size (hT : TOk P TT) {t : TypeId} {i : TI} (h : TT t = some i) (w : World) : (sizeOf t).run P w = .ok i.size w := hT.size t i h w

theorem TOk.run_isAgg (hT : TOk P TT) {t : TypeId} {i : TI} (h : TT t = some i) (w : World) : (isAgg t).run P w = .ok (isAggD i.desc) w := by
  unfold isAgg
  rw [Sem.run_bind, hT.run_und h w]
  cases i.desc <;> simp [isAggD]

theorem TOk.run_zero (hT : TOk P TT) {t : TypeId} {i : TI} (h : TT t = some i) (w : World) : ∃ z, (zeroValue t).run P w = .ok z w ∧ ofScalars z.cells.toList = some i.zero := by
  obtain ⟨z, h1, h2⟩ := hT.zero t i h
  exact ⟨z, h1 w, h2⟩

theorem addr_add (b o n : Nat) : (⟨b, o, none⟩ : Addr).add n = ⟨b, o + n, none⟩ := by
  unfold Addr.add
  split <;> simp_all

/-! ### Reading memory -/

/-- The row in which a pointer lies, and where. -/
def acells (σ : Heap) : AV → Option (List AV × Nat)
  | .ptr i off => match hget σ i with
    | some (.cells _ l) => some (l, off)
    | _ => none
  | .fp l off => some (l, off)
  | _ => none

theorem acells_sound {ρ : Ren} {Φ : Frz} {σ : Heap} {n : Nat} {w : World} (hR : Rel ρ Φ σ n w) {x : AV} {v : Value} (hv : VR ρ Φ x v) {l : List AV} {off : Nat} (h : acells σ x = some (l, off)) :
    ∃ b s c T fr, v = .pointer (some ⟨b, s + off, none⟩) ∧ w.heap[b]? = some (.cells c T fr) ∧ s + l.length ≤ c.size ∧
      ∀ (j : Nat) (y : AV) (u : Value), l[j]? = some y → c[s + j]? = some u → VR ρ Φ y u := by
  cases hv with
  | ptr off' hi =>
    simp only [acells] at h
    split at h
    · rename_i z l' hg
      simp only [Option.some.injEq, Prod.mk.injEq] at h
      obtain ⟨rfl, rfl⟩ := h
      obtain ⟨L, h1, _, c, T, fr, h2, _, h3, h4, _⟩ := hR.heap _ _ hg
      rw [hi] at h1
      cases h1
      exact ⟨_, _, c, T, fr, rfl, h2, h3, h4⟩
    · cases h
  | fp off' hb hl hc =>
    simp only [acells, Option.some.injEq, Prod.mk.injEq] at h
    obtain ⟨rfl, rfl⟩ := h
    obtain ⟨T, fr, h2⟩ := hR.frz _ _ hb
    exact ⟨_, _, _, T, fr, rfl, h2, hl, hc⟩
  | _ => simp [acells] at h

def aload (TT : Types) (σ : Heap) (t : TypeId) (x : AV) : Option AV :=
  match TT t, acells σ x with
  | some i, some (l, off) =>
    if isAggD i.desc then (if off + i.size ≤ l.length then some (.agg ((l.drop off).take i.size)) else none)
    else l[off]?
  | _, _ => none

theorem run_loadCells_block (P : Program) (w : World) {b o n : Nat} {c : Array Value} {T : TypeId} {fr : Nat × Nat} (hb : w.heap[b]? = some (.cells c T fr)) (hn : o + n ≤ c.size) :
    (loadCells ⟨b, o, none⟩ n).run P w = .ok (c.extract o (o + n)) w := by
  have h := run_loadCells_list (P := P) w ⟨b, o, none⟩ (c.extract o (o + n)).toList (fun j v hv => by
    rw [addr_add, cell_of_row w b (o + j) c T fr hb]
    have hv' : (c.extract o (o + n))[j]? = some v := by rw [Array.getElem?_toList] at hv; exact hv
    rw [Array.getElem?_extract] at hv'
    split at hv'
    · exact hv'
    · cases hv')
  have hl : (c.extract o (o + n)).toList.length = n := by simp; omega
  rw [hl, Array.toArray_toList] at h
  exact h

theorem run_load_cell (P : Program) (w : World) {b o : Nat} {c : Array Value} {T : TypeId} {fr : Nat × Nat} (hb : w.heap[b]? = some (.cells c T fr)) {v : Value} (hv : c[o]? = some v) :
    (load ⟨b, o, none⟩).run P w = .ok v w := by
  rw [run_load, cell_of_row w b o c T fr hb, hv]

theorem aload_sound (hT : TOk P TT) {ρ : Ren} {Φ : Frz} {σ : Heap} {n : Nat} {w : World} (hR : Rel ρ Φ σ n w) {x y : AV} {v : Value} (hv : VR ρ Φ x v) {t : TypeId} (h : aload TT σ t x = some y) :
    ∃ u, (Instr.loadAt t v).run P w = .ok u w ∧ VR ρ Φ y u := by
  unfold aload at h
  split at h
  · rename_i i l off hi hc
    obtain ⟨b, s, c, T, fr, rfl, hb, hl, hval⟩ := acells_sound hR hv hc
    simp only [Instr.loadAt, Instr.sureAddr, Sem.run_bind, Sem.run_pure, Result.andThen_ok, loadVar, hT.run_isAgg hi w]
    by_cases ha : isAggD i.desc = true
    · simp only [ha, if_true] at h ⊢
      split at h
      · rename_i hle
        simp only [Option.some.injEq] at h
        subst h
        refine ⟨.agg (c.extract (s + off) (s + off + i.size)), by simp [hT.run_size hi w, run_loadCells_block P w hb (by omega : s + off + i.size ≤ c.size)], ?_⟩
        refine .agg (by simp; omega) fun j z u hz hu => ?_
        rw [List.getElem?_take] at hz
        split at hz
        · rw [List.getElem?_drop] at hz
          rw [Array.getElem?_extract] at hu
          split at hu
          · exact hval (off + j) z u hz (by rw [← hu, Nat.add_assoc])
          · cases hu
        · cases hz
      · cases h
    · simp only [ha] at h ⊢
      have hlt : off < l.length := by
        rcases Nat.lt_or_ge off l.length with hh | hh
        · exact hh
        · simp [List.getElem?_eq_none hh] at h
      have hcs : c[s + off]? = some c[s + off] := by simp
      exact ⟨_, by simpa using run_load_cell P w hb hcs, hval off y _ (by simpa using h) hcs⟩
  · cases h

/-! ### Addresses -/

def afieldAddr (TT : Types) (t : TypeId) (f : Nat) (x : AV) : Option AV :=
  match TT t with
  | some { desc := .struct fs, .. } => match fs[f]? with
    | some fd => match TT fd.type with
      | some fi => if fi.size = 0 then none else match x with
        | .ptr i off => some (.ptr i (off + fd.offset))
        | .fp l off => some (.fp l (off + fd.offset))
        | _ => none
      | none => none
    | none => none
  | _ => none

theorem afieldAddr_sound (hT : TOk P TT) {ρ : Ren} {Φ : Frz} {w : World} {x y : AV} {v : Value} (hv : VR ρ Φ x v) {t : TypeId} {f : Nat} (h : afieldAddr TT t f x = some y) :
    ∃ u, (Instr.fieldAt t v f).run P w = .ok u w ∧ VR ρ Φ y u := by
  unfold afieldAddr at h
  split at h
  · rename_i fs sz by_ ze hi
    split at h
    · rename_i fd hf
      split at h
      · rename_i fi hfi
        split at h
        · cases h
        · rename_i hsz
          have hrun : ∀ b o, (Instr.fieldAt t (.pointer (some ⟨b, o, none⟩)) f).run P w = .ok (.pointer (some ⟨b, o + fd.offset, none⟩)) w := fun b o => by
            simp [Instr.fieldAt, hT.run_und hi w, hf, Instr.sureAddr, fieldPlace, hT.run_size hfi w, hsz, addr_add]
          split at h
          · rename_i i off
            cases hv with
            | ptr _ hr =>
              simp only [Option.some.injEq] at h; subst h
              exact ⟨_, hrun _ _, by rw [Nat.add_assoc]; exact .ptr _ hr⟩
          · rename_i l off
            cases hv with
            | fp _ hr h1 h2 =>
              simp only [Option.some.injEq] at h; subst h
              exact ⟨_, hrun _ _, by rw [Nat.add_assoc]; exact .fp _ hr h1 h2⟩
          · cases h
      · cases h
    · cases h
  · cases h

/-- The address of an element: of a slice that nobody writes, of a slice of the heap, of an array behind a pointer. -/
def aindexAddr (TT : Types) (t : TypeId) (x ix : AV) : Option AV :=
  match TT t, ix with
  | some { desc := .slice e, .. }, .int _ n => match TT e with
    | some ei => match x with
      | .fs els => if 0 ≤ n then match els[n.toNat]? with
          | some l => if l.length = ei.size then some (.fp l 0) else none
          | none => none
        else none
      | .sl i off len => if 0 ≤ n ∧ n < len then some (.ptr i (off + n.toNat * ei.size)) else none
      | _ => none
    | none => none
  | some { desc := .array m e, .. }, .int _ n => match TT e with
    | some ei => if 0 ≤ n ∧ n < m then match x with
        | .ptr i off => some (.ptr i (off + n.toNat * ei.size))
        | .fp l off => some (.fp l (off + n.toNat * ei.size))
        | _ => none
      else none
    | none => none
  | _, _ => none

theorem aindexAddr_sound (hT : TOk P TT) {ρ : Ren} {Φ : Frz} {w : World} {x ix y : AV} {v vi : Value} (hv : VR ρ Φ x v) (hvi : VR ρ Φ ix vi) {t : TypeId} (h : aindexAddr TT t x ix = some y) :
    ∃ u, (Instr.indexAt t v vi).run P w = .ok u w ∧ VR ρ Φ y u := by
  unfold aindexAddr at h
  split at h
  · rename_i e sz by_ ze k n hi
    cases hvi
    split at h
    · rename_i ei hei
      split at h
      · rename_i els
        split at h
        · rename_i hn
          split at h
          · rename_i l hl
            split at h
            · rename_i hlen
              simp only [Option.some.injEq] at h; subst h
              have hlt : n.toNat < els.length := by
                rcases Nat.lt_or_ge n.toNat els.length with hh | hh
                · exact hh
                · simp [List.getElem?_eq_none hh] at hl
              generalize hels : els = els' at hv
              cases hv with
              | fs0 => subst hels; simp at hlt
              | fs hb hc hz hsz hval =>
                rename_i b s z cap c
                subst hels
                have hzl : z = ei.size := by rw [← hlen]; exact (hz l (List.mem_of_getElem? hl)).symm
                refine ⟨.pointer (some ⟨b, s + n.toNat * z, none⟩), ?_, ?_⟩
                · have h2 : n < (els.length : Int) := by omega
                  simp [Instr.indexAt, asIntOf, hT.run_und hi w, hn, h2, hT.run_size hei w, addr_add, hzl]
                · refine .fp 0 hb ?_ fun j a u ha hu => hval n.toNat l j a u hl ha hu
                  show s + n.toNat * z + l.length ≤ c.size
                  have := hz l (List.mem_of_getElem? hl)
                  have : n.toNat * z + z ≤ els.length * z := by
                    have := Nat.mul_le_mul_right z (show n.toNat + 1 ≤ els.length by omega)
                    rw [Nat.add_mul] at this; omega
                  omega
            · cases h
          · cases h
        · cases h
      · rename_i i off len
        split at h
        · rename_i hn
          simp only [Option.some.injEq] at h; subst h
          cases hv with
          | sl0 => omega
          | sl _ hr hc hm =>
            rename_i cap L
            refine ⟨.pointer (some ⟨L.b, L.s + (off + n.toNat * ei.size), none⟩), ?_, .ptr _ hr⟩
            simp [Instr.indexAt, asIntOf, hT.run_und hi w, hn.1, hn.2, hT.run_size hei w, addr_add, Nat.add_assoc]
        · cases h
      · cases h
    · cases h
  · rename_i m e sz by_ ze k n hi
    cases hvi
    split at h
    · rename_i ei hei
      split at h
      · rename_i hn
        split at h
        · rename_i i off
          simp only [Option.some.injEq] at h; subst h
          cases hv with
          | ptr _ hr =>
            rename_i L
            refine ⟨.pointer (some ⟨L.b, L.s + (off + n.toNat * ei.size), none⟩), ?_, .ptr _ hr⟩
            simp [Instr.indexAt, asIntOf, hT.run_und hi w, hn.1, hn.2, hT.run_size hei w, addr_add, Instr.sureAddr, Nat.add_assoc]
        · rename_i l off
          simp only [Option.some.injEq] at h; subst h
          cases hv with
          | fp _ hr h1 h2 =>
            rename_i b s c
            refine ⟨.pointer (some ⟨b, s + (off + n.toNat * ei.size), none⟩), ?_, .fp _ hr h1 h2⟩
            simp [Instr.indexAt, asIntOf, hT.run_und hi w, hn.1, hn.2, hT.run_size hei w, addr_add, Instr.sureAddr, Nat.add_assoc]
        · cases h
      · cases h
    · cases h
  · cases h
end
end Go.Ma
