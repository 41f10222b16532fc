/- Operations that turn nothing in memory, third part: parts, lengths, conversions, slices, structs built; and all of them as one function. -/
import Derived.Test.YtakafhbabgpecaaGreatDoorMaOps2
namespace Go.Ma
section
variable {P : Program} {TT : Types}

/-- Cells that hold what a list says. -/
def CR (ρ : Ren) (Φ : Frz) (l : List AV) (c : Array Value) : Prop := l.length = c.size ∧ ∀ (j : Nat) (x : AV) (v : Value), l[j]? = some x → c[j]? = some v → VR ρ Φ x v

theorem CR.set {ρ : Ren} {Φ : Frz} {l : List AV} {c : Array Value} (h : CR ρ Φ l c) {x : AV} {v : Value} (hx : VR ρ Φ x v) (k : Nat) : CR ρ Φ (l.set k x) (c.setIfInBounds k v) := by
  refine ⟨by simp [h.1], fun j y u hy hu => ?_⟩
  rw [List.getElem?_set] at hy
  rw [Array.getElem?_setIfInBounds] at hu
  by_cases hk : k = j
  · subst hk
    simp only [if_true] at hy hu
    split at hy
    · split at hu
      · cases hy; cases hu; exact hx
      · cases hu
    · cases hy
  · simp only [hk, if_false] at hy hu
    exact h.2 j y u hy hu

theorem CR.mono {ρ ρ' : Ren} {Φ Φ' : Frz} (hρ : ∀ i b, ρ i = some b → ρ' i = some b) (hΦ : ∀ b c, Φ b = some c → Φ' b = some c) {l : List AV} {c : Array Value} (h : CR ρ Φ l c) : CR ρ' Φ' l c :=
  ⟨h.1, fun j x v hx hv => (h.2 j x v hx hv).mono hρ hΦ⟩

theorem CR_cells {ρ : Ren} {Φ : Frz} {x : AV} {v : Value} (h : VR ρ Φ x v) : CR ρ Φ x.cells v.cells := by
  have one : ∀ {x : AV} {v : Value}, VR ρ Φ x v → CR ρ Φ [x] #[v] := fun {x v} h => ⟨rfl, fun j y u hy hu => by
    cases j with
    | zero => simp at hy hu; subst hy; subst hu; exact h
    | succ j => simp at hy⟩
  cases h with
  | agg h hv => exact ⟨h, hv⟩
  | bool b => exact one (.bool b)
  | int k n => exact one (.int k n)
  | str s => exact one (.str s)
  | nilp => exact one .nilp
  | ptr off h => exact one (.ptr off h)
  | fp off h hl hv => exact one (.fp off h hl hv)
  | nils => exact one .nils
  | sl off h hc hm => exact one (.sl off h hc hm)
  | sl0 i off a => exact one (.sl0 i off a)
  | fs0 a cap => exact one (.fs0 a cap)
  | fs h hc hz hl hv => exact one (.fs h hc hz hl hv)
  | nilm => exact one .nilm
  | map h => exact one (.map h)
  | nilf => exact one .nilf
  | fn h1 h2 h3 h4 => exact one (.fn h1 h2 h3 h4)
  | niliface => exact one .niliface
  | iface h => exact one (.iface h)
  | tup h hv => exact one (.tup h hv)

theorem CR_scalars {ρ : Ren} {Φ : Frz} {c : Array Value} {l : List AV} (h : ofScalars c.toList = some l) : CR ρ Φ l c := by
  obtain ⟨h1, h2⟩ := VR_ofScalars ρ Φ h
  exact ⟨by simpa using h1, fun j x v hx hv => h2 j x v hx (by simpa using hv)⟩

/-- A list of cells put over others. -/
def lputs : List AV → Nat → List AV → List AV
  | l, _, [] => l
  | l, o, x :: r => lputs (l.set o x) (o + 1) r

theorem length_lputs : ∀ (r l : List AV) (o : Nat), (lputs l o r).length = l.length := by
  intro r
  induction r with
  | nil => intro l o; rfl
  | cons x r ih => intro l o; simp [lputs, ih]

theorem CR_lputs {ρ : Ren} {Φ : Frz} : ∀ (r : List AV) (vs : List Value) (k : Nat) (l : List AV) (c : Array Value) (o : Nat), CR ρ Φ l c → r.length = vs.length →
    (∀ (j : Nat) (x : AV) (v : Value), r[j]? = some x → vs[j]? = some v → VR ρ Φ x v) →
    CR ρ Φ (lputs l (o + k) r) ((vs.zipIdx k).foldl (fun cs (p : Value × Nat) => cs.setIfInBounds (o + p.2) p.1) c) := by
  intro r
  induction r with
  | nil =>
    intro vs k l c o h hl _
    have : vs = [] := by simpa using hl.symm
    subst this
    simpa [lputs] using h
  | cons x r ih =>
    intro vs k l c o h hl hv
    cases vs with
    | nil => simp at hl
    | cons v vs =>
      have := ih vs (k + 1) (l.set (o + k) x) (c.setIfInBounds (o + k) v) o (h.set (hv 0 x v rfl rfl) _) (by simpa using hl) (fun j y u hy hu => hv (j + 1) y u (by simpa using hy) (by simpa using hu))
      simpa [lputs, Nat.add_assoc] using this

def afill (place : Nat → Option (Nat × Nat)) (cells : List AV) : List (Nat × AV) → Option (List AV)
  | [] => some cells
  | (i, x) :: r => match place i with
    | none => none
    | some (off, size) => if x.cells.length ≠ size ∨ off + x.cells.length > cells.length then none else afill place (lputs cells off x.cells) r

theorem afill_sound {ρ : Ren} {Φ : Frz} {place : Nat → Option (Nat × Nat)} : ∀ {ps : List (Nat × AV)} {vs : List (Nat × Value)} {l : List AV} {c : Array Value} {m : List AV}, ps.length = vs.length →
    (∀ (j : Nat) (p : Nat × AV) (q : Nat × Value), ps[j]? = some p → vs[j]? = some q → p.1 = q.1 ∧ VR ρ Φ p.2 q.2) → CR ρ Φ l c → afill place l ps = some m →
    ∃ d, Instr.fill place c vs = some d ∧ CR ρ Φ m d := by
  intro ps
  induction ps with
  | nil =>
    intro vs l c m hl _ hc h
    have : vs = [] := by simpa using hl.symm
    subst this
    simp only [afill, Option.some.injEq] at h
    subst h
    exact ⟨c, rfl, hc⟩
  | cons p ps ih =>
    intro vs l c m hl hv hc h
    cases vs with
    | nil => simp at hl
    | cons q vs =>
      obtain ⟨i, x⟩ := p
      obtain ⟨i', v⟩ := q
      obtain ⟨hi, hx⟩ := hv 0 (i, x) (i', v) rfl rfl
      simp only at hi hx
      subst hi
      simp only [afill] at h
      split at h
      · cases h
      · rename_i off size hpl
        split at h
        · cases h
        · rename_i hsz
          have hcx := CR_cells hx
          have h3 := CR_lputs x.cells v.cells.toList 0 l c off hc (by simpa using hcx.1) (fun j y u hy hu => hcx.2 j y u hy (by simpa using hu))
          obtain ⟨d, h1, h2⟩ := ih (by simpa using hl) (fun j p q hp hq => hv (j + 1) p q (by simpa using hp) (by simpa using hq)) h3 h
          refine ⟨d, ?_, h2⟩
          have hc1 := hcx.1
          have hc2 := hc.1
          have hn : ¬ ((v.cells.size ≠ size || off + v.cells.size > c.size) = true) := by simp; simp at hsz; omega
          simp only [Instr.fill, hpl]
          rw [if_neg hn]
          rw [← h1]
          congr 1
          rw [← Array.foldl_toList]
          simp
end
end Go.Ma
