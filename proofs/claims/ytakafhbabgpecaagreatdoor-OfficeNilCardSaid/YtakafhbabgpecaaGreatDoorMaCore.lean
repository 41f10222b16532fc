/- An abstract view of the model's values and memory: slices that nobody writes any more are values, what is still written lies in a small heap of ids. The relation to the model's worlds, and the frame. -/
import Derived.Calls
import Derived.Laws.Rows
import Derived.RowKit3
namespace Go.Ma

/-- An abstract value. 'fp': a pointer into a row that nobody writes; 'fs': a slice of such elements, each a list of cells; 'ptr', 'sl', 'map': of the abstract heap. -/
inductive AV where
  | bool (b : Bool)
  | int (k : IntKind) (n : Int)
  | str (s : ByteArray)
  | nilp
  | ptr (i off : Nat)
  | fp (cells : List AV) (off : Nat)
  | nils
  | sl (i off len : Nat)
  | fs (els : List (List AV))
  | nilm
  | map (i : Nat)
  | nilf
  | fn (f : FuncId) (first captured : List AV)
  | niliface
  | iface (t : TypeId) (v : AV)
  | agg (cells : List AV)
  | tup (vs : List AV)
  deriving Inhabited

/-- Where an object lies: the block, the first cell, how many cells the block has, how many cells an element of the row has. -/
structure Loc where
  b : Nat
  s : Nat
  m : Nat
  z : Nat

/-- Where the objects of the ids lie; which blocks nobody writes, with their cells. -/
abbrev Ren := Nat → Option Loc
abbrev Frz := Nat → Option (Array Value)

inductive VR (ρ : Ren) (Φ : Frz) : AV → Value → Prop
  | bool (b : Bool) : VR ρ Φ (.bool b) (.bool b)
  | int (k : IntKind) (n : Int) : VR ρ Φ (.int k n) (.int k n)
  | str (s : ByteArray) : VR ρ Φ (.str s) (.string s)
  | nilp : VR ρ Φ .nilp (.pointer none)
  | ptr {i : Nat} {L : Loc} (off : Nat) (h : ρ i = some L) : VR ρ Φ (.ptr i off) (.pointer (some ⟨L.b, L.s + off, none⟩))
  | fp {b s : Nat} {c : Array Value} {l : List AV} (off : Nat) (h : Φ b = some c) (hl : s + l.length ≤ c.size) (hv : ∀ (j : Nat) (x : AV) (v : Value), l[j]? = some x → c[s + j]? = some v → VR ρ Φ x v) :
      VR ρ Φ (.fp l off) (.pointer (some ⟨b, s + off, none⟩))
  | nils : VR ρ Φ .nils (.slice none 0 0)
  | sl {i len cap : Nat} {L : Loc} (off : Nat) (h : ρ i = some L) (hc : len ≤ cap) (hm : L.s + off + cap * L.z ≤ L.m) : VR ρ Φ (.sl i off len) (.slice (some ⟨L.b, L.s + off, none⟩) len cap)
  | sl0 (i off : Nat) (a : Option Addr) : VR ρ Φ (.sl i off 0) (.slice a 0 0)
  | fs0 (a : Option Addr) (cap : Nat) : VR ρ Φ (.fs []) (.slice a 0 cap)
  | fs {b s z cap : Nat} {c : Array Value} {els : List (List AV)} (h : Φ b = some c) (hc : els.length ≤ cap) (hz : ∀ x ∈ els, x.length = z) (hl : s + els.length * z ≤ c.size)
      (hv : ∀ (i : Nat) (x : List AV) (j : Nat) (y : AV) (v : Value), els[i]? = some x → x[j]? = some y → c[s + i * z + j]? = some v → VR ρ Φ y v) :
      VR ρ Φ (.fs els) (.slice (some ⟨b, s, none⟩) els.length cap)
  | nilm : VR ρ Φ .nilm (.map none)
  | map {i : Nat} {L : Loc} (h : ρ i = some L) : VR ρ Φ (.map i) (.map (some L.b))
  | nilf : VR ρ Φ .nilf .nilFunc
  | fn {f : FuncId} {l m : List AV} {cl cm : Array Value} (h1 : l.length = cl.size) (h2 : m.length = cm.size) (hv1 : ∀ (j : Nat) (x : AV) (v : Value), l[j]? = some x → cl[j]? = some v → VR ρ Φ x v)
      (hv2 : ∀ (j : Nat) (x : AV) (v : Value), m[j]? = some x → cm[j]? = some v → VR ρ Φ x v) : VR ρ Φ (.fn f l m) (.func (.func f) cl cm)
  | niliface : VR ρ Φ .niliface .nilIface
  | iface {t : TypeId} {x : AV} {v : Value} (h : VR ρ Φ x v) : VR ρ Φ (.iface t x) (.iface t v)
  | agg {l : List AV} {c : Array Value} (h : l.length = c.size) (hv : ∀ (j : Nat) (x : AV) (v : Value), l[j]? = some x → c[j]? = some v → VR ρ Φ x v) : VR ρ Φ (.agg l) (.agg c)
  | tup {l : List AV} {c : Array Value} (h : l.length = c.size) (hv : ∀ (j : Nat) (x : AV) (v : Value), l[j]? = some x → c[j]? = some v → VR ρ Φ x v) : VR ρ Φ (.tup l) (.tuple c)

theorem VR.mono {ρ ρ' : Ren} {Φ Φ' : Frz} (hρ : ∀ i b, ρ i = some b → ρ' i = some b) (hΦ : ∀ b c, Φ b = some c → Φ' b = some c) {x : AV} {v : Value} (h : VR ρ Φ x v) : VR ρ' Φ' x v := by
  induction h with
  | bool b => exact .bool b
  | int k n => exact .int k n
  | str s => exact .str s
  | nilp => exact .nilp
  | ptr off h => exact .ptr off (hρ _ _ h)
  | fp off h hl _ ih => exact .fp off (hΦ _ _ h) hl ih
  | nils => exact .nils
  | sl off h hc hm => exact .sl off (hρ _ _ h) hc hm
  | sl0 i off a => exact .sl0 i off a
  | fs0 a cap => exact .fs0 a cap
  | fs h hc hz hl _ ih => exact .fs (hΦ _ _ h) hc hz hl ih
  | nilm => exact .nilm
  | map h => exact .map (hρ _ _ h)
  | nilf => exact .nilf
  | fn h1 h2 _ _ ih1 ih2 => exact .fn h1 h2 ih1 ih2
  | niliface => exact .niliface
  | iface _ ih => exact .iface ih
  | agg h _ ih => exact .agg h ih
  | tup h _ ih => exact .tup h ih

/-- One cell. -/
def AV.one : AV → Bool
  | .agg _ | .tup _ => false
  | _ => true

theorem VR.oneCell {ρ : Ren} {Φ : Frz} {x : AV} {v : Value} (h : VR ρ Φ x v) (hx : x.one = true) : v.oneCell' = true := by
  cases h <;> first | rfl | (simp [AV.one] at hx)

def AV.cells : AV → List AV
  | .agg l => l
  | x => [x]

/-- The abstract heap. -/
inductive AObj where
  | cells (z : Nat) (l : List AV)
  | map (es : List (AV × AV))
  deriving Inhabited

abbrev Heap := List (Nat × AObj)

def hget : Heap → Nat → Option AObj
  | [], _ => none
  | (k, o) :: r, i => match Nat.beq k i with
    | true => some o
    | false => hget r i

theorem hget_nil (i : Nat) : hget [] i = none := rfl
theorem hget_cons (k : Nat) (o : AObj) (r : Heap) (i : Nat) : hget ((k, o) :: r) i = if k = i then some o else hget r i := by
  simp only [hget]
  by_cases h : k = i
  · subst h
    simp
  · have : Nat.beq k i = false := by
      cases hb : Nat.beq k i with
      | false => rfl
      | true => exact absurd (Nat.eq_of_beq_eq_true hb) h
    simp [this, h]

def hset : Heap → Nat → AObj → Heap
  | [], i, o => [(i, o)]
  | (k, p) :: r, i, o => match Nat.beq k i with
    | true => (i, o) :: r
    | false => (k, p) :: hset r i o

theorem hset_nil (i : Nat) (o : AObj) : hset [] i o = [(i, o)] := rfl
theorem hset_cons (k : Nat) (p : AObj) (r : Heap) (i : Nat) (o : AObj) : hset ((k, p) :: r) i o = if k = i then (i, o) :: r else (k, p) :: hset r i o := by
  simp only [hset]
  by_cases h : k = i
  · subst h
    simp
  · have : Nat.beq k i = false := by
      cases hb : Nat.beq k i with
      | false => rfl
      | true => exact absurd (Nat.eq_of_beq_eq_true hb) h
    simp [this, h]

def hdel : Heap → Nat → Heap
  | [], _ => []
  | (k, p) :: r, i => if k = i then hdel r i else (k, p) :: hdel r i

theorem hget_hset (σ : Heap) (i j : Nat) (o : AObj) : hget (hset σ i o) j = if i = j then some o else hget σ j := by
  induction σ with
  | nil => simp [hset_nil, hget_cons, hget_nil]
  | cons p r ih =>
    obtain ⟨k, q⟩ := p
    simp only [hset_cons]
    by_cases h : k = i
    · subst h
      simp only [if_true, hget_cons]
      by_cases h2 : k = j <;> simp [h2]
    · simp only [h, if_false, hget_cons, ih]
      by_cases h2 : k = j
      · subst h2; simp [Ne.symm h]
      · simp [h2]

theorem hget_hdel (σ : Heap) (i j : Nat) : hget (hdel σ i) j = if i = j then none else hget σ j := by
  induction σ with
  | nil => simp [hdel, hget_nil]
  | cons p r ih =>
    obtain ⟨k, q⟩ := p
    simp only [hdel]
    by_cases h : k = i
    · subst h
      simp only [if_true, ih, hget_cons]
      by_cases h2 : k = j <;> simp [h2]
    · simp only [h, if_false, hget_cons, ih]
      by_cases h2 : k = j
      · subst h2; simp [Ne.symm h]
      · simp [h2]

/-- An object of the heap where it lies. -/
def OR (ρ : Ren) (Φ : Frz) (w : World) (L : Loc) : AObj → Prop
  | .cells z l => L.z = z ∧ ∃ (c : Array Value) (T : TypeId) (fr : Nat × Nat), w.heap[L.b]? = some (.cells c T fr) ∧ L.m = c.size ∧ L.s + l.length ≤ c.size ∧
      (∀ (j : Nat) (x : AV) (v : Value), l[j]? = some x → c[L.s + j]? = some v → VR ρ Φ x v) ∧ (∀ j, j < c.size → ¬ (fr.1 ≤ j ∧ j < fr.2))
  | .map es => ∃ (es' : Array MapEntry) (clock : Nat), w.heap[L.b]? = some (.map es' clock) ∧ es.length = es'.size ∧
      (∀ (j : Nat) (x : AV × AV) (e : MapEntry), es[j]? = some x → es'[j]? = some e → VR ρ Φ x.1 e.key ∧ VR ρ Φ x.2 e.val)

theorem OR.mono {ρ ρ' : Ren} {Φ Φ' : Frz} (hρ : ∀ i b, ρ i = some b → ρ' i = some b) (hΦ : ∀ b c, Φ b = some c → Φ' b = some c) {w w' : World} {L : Loc} {o : AObj}
    (hw : w'.heap[L.b]? = w.heap[L.b]?) (h : OR ρ Φ w L o) : OR ρ' Φ' w' L o := by
  cases o with
  | cells z l =>
    obtain ⟨h0, c, T, fr, h1, h2, h3, h4, h5⟩ := h
    exact ⟨h0, c, T, fr, hw.trans h1, h2, h3, fun j x v hx hv => (h4 j x v hx hv).mono hρ hΦ, h5⟩
  | map es =>
    obtain ⟨es', clock, h1, h2, h3⟩ := h
    exact ⟨es', clock, hw.trans h1, h2, fun j x e hx he => ⟨(h3 j x e hx he).1.mono hρ hΦ, (h3 j x e hx he).2.mono hρ hΦ⟩⟩

structure Rel (ρ : Ren) (Φ : Frz) (σ : Heap) (n : Nat) (w : World) : Prop where
  heap : ∀ i o, hget σ i = some o → ∃ L, ρ i = some L ∧ OR ρ Φ w L o
  inj : ∀ i j o p L M, hget σ i = some o → hget σ j = some p → ρ i = some L → ρ j = some M → L.b = M.b → i = j
  dis : ∀ i o L, hget σ i = some o → ρ i = some L → Φ L.b = none
  frz : ∀ b c, Φ b = some c → ∃ T fr, w.heap[b]? = some (.cells c T fr)
  low : ∀ i L, ρ i = some L → i < n

/-- Is the block one of an object of the heap? -/
def Owns (ρ : Ren) (σ : Heap) (b : Nat) : Prop := ∃ i o L, hget σ i = some o ∧ ρ i = some L ∧ L.b = b

/-- What a step may have done: the ids below n0 and the rows that nobody writes stay; blocks of no object of the heap are as they were; what the new heap names is new, or was named by the old one. -/
structure StepN (n0 : Nat) (ρ : Ren) (Φ : Frz) (σ : Heap) (w : World) (ρ' : Ren) (Φ' : Frz) (σ' : Heap) (w' : World) : Prop where
  ren : ∀ i L, i < n0 → ρ i = some L → ρ' i = some L
  frz : ∀ b c, Φ b = some c → Φ' b = some c
  os : w'.os = w.os
  tape : w'.tape = w.tape
  output : w'.output = w.output
  size : w.heap.size ≤ w'.heap.size
  frame : ∀ b, b < w.heap.size → ¬ Owns ρ σ b → w'.heap[b]? = w.heap[b]?
  own : ∀ b, Owns ρ' σ' b → w.heap.size ≤ b ∨ Owns ρ σ b
  ownF : ∀ b c, Φ' b = some c → (∃ d, Φ b = some d) ∨ w.heap.size ≤ b ∨ Owns ρ σ b

theorem StepN.refl (n0 : Nat) (ρ : Ren) (Φ : Frz) (σ : Heap) (w : World) : StepN n0 ρ Φ σ w ρ Φ σ w where
  ren := fun _ _ _ h => h
  frz := fun _ _ h => h
  os := rfl
  tape := rfl
  output := rfl
  size := Nat.le_refl _
  frame := fun _ _ _ => rfl
  own := fun _ h => .inr h
  ownF := fun b c h => .inl ⟨c, h⟩

theorem StepN.trans {n0 : Nat} {ρ ρ₁ ρ₂ : Ren} {Φ Φ₁ Φ₂ : Frz} {σ σ₁ σ₂ : Heap} {w w₁ w₂ : World} (h : StepN n0 ρ Φ σ w ρ₁ Φ₁ σ₁ w₁) (k : StepN n0 ρ₁ Φ₁ σ₁ w₁ ρ₂ Φ₂ σ₂ w₂) : StepN n0 ρ Φ σ w ρ₂ Φ₂ σ₂ w₂ where
  ren := fun i b hlt hi => k.ren i b hlt (h.ren i b hlt hi)
  frz := fun b c hb => k.frz b c (h.frz b c hb)
  os := k.os.trans h.os
  tape := k.tape.trans h.tape
  output := k.output.trans h.output
  size := Nat.le_trans h.size k.size
  frame := fun b hb hn => by
    refine (k.frame b (Nat.lt_of_lt_of_le hb h.size) fun ho => ?_).trans (h.frame b hb hn)
    rcases h.own b ho with hge | ho
    · omega
    · exact hn ho
  own := fun b ho => by
    rcases k.own b ho with hge | ho
    · exact .inl (Nat.le_trans h.size hge)
    · exact h.own b ho
  ownF := fun b c hc => by
    rcases k.ownF b c hc with ⟨d, hd⟩ | hge | ho
    · exact h.ownF b d hd
    · exact .inr (.inl (Nat.le_trans h.size hge))
    · exact .inr (h.own b ho)

theorem StepN.mono {n0 n1 : Nat} {ρ ρ' : Ren} {Φ Φ' : Frz} {σ σ' : Heap} {w w' : World} (h : StepN n1 ρ Φ σ w ρ' Φ' σ' w') (hle : n0 ≤ n1) : StepN n0 ρ Φ σ w ρ' Φ' σ' w' :=
  ⟨fun i L hi => h.ren i L (Nat.lt_of_lt_of_le hi hle), h.frz, h.os, h.tape, h.output, h.size, h.frame, h.own, h.ownF⟩

/-- A step that keeps all ids. -/
structure Step (ρ : Ren) (Φ : Frz) (σ : Heap) (w : World) (ρ' : Ren) (Φ' : Frz) (σ' : Heap) (w' : World) : Prop extends StepN 0 ρ Φ σ w ρ' Φ' σ' w' where
  keep : ∀ i L, ρ i = some L → ρ' i = some L

theorem Step.toN {ρ ρ' : Ren} {Φ Φ' : Frz} {σ σ' : Heap} {w w' : World} (h : Step ρ Φ σ w ρ' Φ' σ' w') (n0 : Nat) : StepN n0 ρ Φ σ w ρ' Φ' σ' w' :=
  ⟨fun i L _ => h.keep i L, h.frz, h.os, h.tape, h.output, h.size, h.frame, h.own, h.ownF⟩

theorem StepN.all {n0 : Nat} {ρ ρ' : Ren} {Φ Φ' : Frz} {σ σ' : Heap} {w w' : World} (h : StepN n0 ρ Φ σ w ρ' Φ' σ' w') (hl : ∀ i L, ρ i = some L → i < n0) : Step ρ Φ σ w ρ' Φ' σ' w' :=
  ⟨h.mono (Nat.zero_le _), fun i L hi => h.ren i L (hl i L hi) hi⟩

theorem Step.refl (ρ : Ren) (Φ : Frz) (σ : Heap) (w : World) : Step ρ Φ σ w ρ Φ σ w := ⟨StepN.refl 0 ρ Φ σ w, fun _ _ h => h⟩

theorem Step.trans {ρ ρ₁ ρ₂ : Ren} {Φ Φ₁ Φ₂ : Frz} {σ σ₁ σ₂ : Heap} {w w₁ w₂ : World} (h : Step ρ Φ σ w ρ₁ Φ₁ σ₁ w₁) (k : Step ρ₁ Φ₁ σ₁ w₁ ρ₂ Φ₂ σ₂ w₂) : Step ρ Φ σ w ρ₂ Φ₂ σ₂ w₂ :=
  ⟨h.toStepN.trans k.toStepN, fun i L hi => k.keep i L (h.keep i L hi)⟩

/-- A step that only moves the count of the draws. -/
theorem Rel.drawn {ρ : Ren} {Φ : Frz} {σ : Heap} {n : Nat} {w : World} (h : Rel ρ Φ σ n w) (k : Nat) : Rel ρ Φ σ n { w with drawn := k } where
  heap := fun i o hi => by
    obtain ⟨L, h1, h2⟩ := h.heap i o hi
    exact ⟨L, h1, h2.mono (fun _ _ h => h) (fun _ _ h => h) rfl⟩
  inj := h.inj
  dis := h.dis
  frz := h.frz
  low := h.low

theorem Step.drawn (ρ : Ren) (Φ : Frz) (σ : Heap) (w : World) (k : Nat) : Step ρ Φ σ w ρ Φ σ { w with drawn := k } where
  ren := fun _ _ _ h => h
  keep := fun _ _ h => h
  frz := fun _ _ h => h
  os := rfl
  tape := rfl
  output := rfl
  size := Nat.le_refl _
  frame := fun _ _ _ => rfl
  own := fun _ h => .inr h
  ownF := fun b c h => .inl ⟨c, h⟩

/-- The temporaries of a function: what is known of them. -/
abbrev Env := List (Nat × AV)

def eget : Env → Nat → Option AV
  | [], _ => none
  | (k, x) :: r, t => if k = t then some x else eget r t

def edel : Env → Nat → Env
  | [], _ => []
  | (k, x) :: r, t => if k = t then edel r t else (k, x) :: edel r t

theorem eget_edel (e : Env) (t u : Nat) : eget (edel e t) u = if t = u then none else eget e u := by
  induction e with
  | nil => simp [edel, eget]
  | cons p r ih =>
    obtain ⟨k, q⟩ := p
    simp only [edel]
    by_cases h : k = t
    · subst h
      simp only [if_true, ih, eget]
      by_cases h2 : k = u <;> simp [h2]
    · simp only [h, if_false, eget, ih]
      by_cases h2 : k = u
      · subst h2; simp [Ne.symm h]
      · simp [h2]

/-- The temporary d holds x from now on. -/
def eput (e : Env) (d : Option Nat) (x : AV) : Env :=
  match d with
  | some d => (d, x) :: edel e d
  | none => e

def EnvR (ρ : Ren) (Φ : Frz) (e : Env) (tmps : Array Value) : Prop := ∀ t x, eget e t = some x → ∃ v, tmps[t]? = some v ∧ VR ρ Φ x v

theorem EnvR.mono {ρ ρ' : Ren} {Φ Φ' : Frz} (hρ : ∀ i b, ρ i = some b → ρ' i = some b) (hΦ : ∀ b c, Φ b = some c → Φ' b = some c) {e : Env} {tmps : Array Value} (h : EnvR ρ Φ e tmps) : EnvR ρ' Φ' e tmps :=
  fun t x hx => let ⟨v, h1, h2⟩ := h t x hx; ⟨v, h1, h2.mono hρ hΦ⟩

theorem EnvR.put {ρ : Ren} {Φ : Frz} {e : Env} {a : Act} {d : Option Nat} {x : AV} {v : Value} (h : EnvR ρ Φ e a.tmps) (hv : VR ρ Φ x v) (hd : ∀ t, d = some t → t < a.tmps.size) : EnvR ρ Φ (eput e d x) (a.put d v).tmps := by
  cases d with
  | none => exact h
  | some d =>
    have hlt := hd d rfl
    intro t y hy
    simp only [eput, eget] at hy
    simp only [Act.put, Array.getElem?_setIfInBounds]
    by_cases hdt : d = t
    · subst hdt
      simp only [if_true] at hy
      obtain rfl : x = y := by simpa using hy
      exact ⟨v, by simp [hlt], hv⟩
    · simp only [hdt, if_false] at hy
      rw [eget_edel] at hy
      simp only [hdt, if_false] at hy
      obtain ⟨u, h1, h2⟩ := h t y hy
      exact ⟨u, by simp [hdt, h1], h2⟩

/-- What is skipped is not known any more. -/
theorem EnvR.skip {ρ : Ren} {Φ : Frz} {e : Env} {a : Act} {d : Option Nat} {v : Value} (h : EnvR ρ Φ e a.tmps) : EnvR ρ Φ (match d with | some d => edel e d | none => e) (a.put d v).tmps := by
  cases d with
  | none => exact h
  | some d =>
    intro t y hy
    simp only at hy
    rw [eget_edel] at hy
    by_cases hdt : d = t
    · simp [hdt] at hy
    · simp only [hdt, if_false] at hy
      obtain ⟨u, h1, h2⟩ := h t y hy
      exact ⟨u, by simp [Act.put, Array.getElem?_setIfInBounds, hdt, h1], h2⟩

/-- Constants. -/
def ofScalar : Value → Option AV
  | .bool b => some (.bool b)
  | .int k n => some (.int k n)
  | .string s => some (.str s)
  | .pointer none => some .nilp
  | .slice none 0 0 => some .nils
  | .map none => some .nilm
  | .nilFunc => some .nilf
  | .nilIface => some .niliface
  | _ => none

def ofScalars : List Value → Option (List AV)
  | [] => some []
  | v :: r => match ofScalar v, ofScalars r with
    | some x, some l => some (x :: l)
    | _, _ => none

def ofConst : Value → Option AV
  | .agg c => (ofScalars c.toList).map .agg
  | .tuple c => (ofScalars c.toList).map .tup
  | v => ofScalar v

theorem VR_ofScalar (ρ : Ren) (Φ : Frz) {v : Value} {x : AV} (h : ofScalar v = some x) : VR ρ Φ x v := by
  unfold ofScalar at h
  split at h <;> first | (cases h; constructor) | cases h

theorem VR_ofScalars (ρ : Ren) (Φ : Frz) : ∀ {c : List Value} {l : List AV}, ofScalars c = some l → l.length = c.length ∧ ∀ (j : Nat) (x : AV) (v : Value), l[j]? = some x → c[j]? = some v → VR ρ Φ x v := by
  intro c
  induction c with
  | nil => intro l h; simp only [ofScalars, Option.some.injEq] at h; subst h; simp
  | cons v r ih =>
    intro l h
    simp only [ofScalars] at h
    split at h
    · rename_i x m hx hm
      simp only [Option.some.injEq] at h
      subst h
      obtain ⟨h1, h2⟩ := ih hm
      refine ⟨by simp [h1], fun j y u hy hu => ?_⟩
      cases j with
      | zero =>
        simp only [List.getElem?_cons_zero, Option.some.injEq] at hy hu
        subst hy; subst hu
        exact VR_ofScalar ρ Φ hx
      | succ j => exact h2 j y u (by simpa using hy) (by simpa using hu)
    · cases h

theorem VR_ofConst (ρ : Ren) (Φ : Frz) {v : Value} {x : AV} (h : ofConst v = some x) : VR ρ Φ x v := by
  unfold ofConst at h
  split at h
  · rename_i c
    cases hc : ofScalars c.toList with
    | none => simp [hc] at h
    | some l =>
      simp only [hc, Option.map_some, Option.some.injEq] at h
      subst h
      obtain ⟨h1, h2⟩ := VR_ofScalars ρ Φ hc
      exact .agg (by simpa using h1) fun j y u hy hu => h2 j y u hy (by simpa using hu)
  · rename_i c
    cases hc : ofScalars c.toList with
    | none => simp [hc] at h
    | some l =>
      simp only [hc, Option.map_some, Option.some.injEq] at h
      subst h
      obtain ⟨h1, h2⟩ := VR_ofScalars ρ Φ hc
      exact .tup (by simpa using h1) fun j y u hy hu => h2 j y u hy (by simpa using hu)
  · exact VR_ofScalar ρ Φ h

/-- The package-level variables that are read. -/
abbrev Globals := Nat → Option AV

def GR (Φ : Frz) (G : Globals) : Prop := ∀ g x, G g = some x → VR (fun _ => none) Φ x (.pointer (some ⟨g, 0, none⟩))

theorem GR.mono {Φ Φ' : Frz} (hΦ : ∀ b c, Φ b = some c → Φ' b = some c) {G : Globals} (h : GR Φ G) : GR Φ' G :=
  fun g x hx => (h g x hx).mono (fun _ _ h => h) hΦ

def aeval (G : Globals) (e : Env) : Operand → Option AV
  | .tmp t => eget e t
  | .const v => ofConst v
  | .global g => G g
  | .func f => some (.fn f [] [])

theorem aeval_sound {ρ : Ren} {Φ : Frz} {G : Globals} {e : Env} {a : Act} (hg : GR Φ G) (he : EnvR ρ Φ e a.tmps) {x : Operand} {y : AV} (h : aeval G e x = some y) : VR ρ Φ y (a.eval x) := by
  cases x with
  | tmp t =>
    obtain ⟨v, h1, h2⟩ := he t y h
    have : a.eval (.tmp t) = v := by simp [Act.eval, h1]
    rw [this]; exact h2
  | const v => exact VR_ofConst ρ Φ h
  | global g => exact (hg g y h).mono (fun _ _ h => by cases h) (fun _ _ h => h)
  | func f =>
    simp only [aeval, Option.some.injEq] at h
    subst h
    exact .fn rfl rfl (fun j x v hx => by simp at hx) (fun j x v hx => by simp at hx)

end Go.Ma
