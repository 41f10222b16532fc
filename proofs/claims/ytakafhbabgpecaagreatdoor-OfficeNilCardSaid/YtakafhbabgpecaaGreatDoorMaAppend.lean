/- append. -/
import Derived.Test.YtakafhbabgpecaaGreatDoorMaMake
namespace Go.Ma
section
variable {P : Program} {TT : Types} {G : Globals} {N n0 : Nat}

theorem growBy_le (need : Nat) : ∀ (k c : Nat), c ≤ 2 * need + 768 → Builtin.growBy need k c ≤ 2 * need + 768 := by
  intro k
  induction k with
  | zero => intro c h; exact h
  | succ k ih =>
    intro c h
    simp only [Builtin.growBy]
    split
    · exact h
    · exact ih _ (by omega)

theorem nextcap_le (need cap : Nat) (h : cap < need) : Builtin.nextslicecap need cap ≤ 2 * need + 768 := by
  unfold Builtin.nextslicecap
  split
  · omega
  · split
    · omega
    · exact growBy_le need 4 cap (by omega)

/-- What append's second argument holds: how many elements, their cells. -/
def asource (σ : Heap) (z : Nat) : AV → Option (Nat × List AV)
  | .nils => some (0, [])
  | .fs els => if els.all (fun x => x.length == z) then some (els.length, els.flatten) else none
  | .sl i off len => match hget σ i with
    | some (.cells z' l) => if z' = z ∧ off + len * z ≤ l.length then some (len, (l.drop off).take (len * z)) else none
    | _ => if len = 0 then some (0, []) else none
  | .str s => if z = 1 then some (s.size, s.data.toList.map fun b => .int .u8 b.toNat) else none
  | _ => none

theorem flatten_back {z : Nat} : ∀ (rows : List (List AV)), (∀ x ∈ rows, x.length = z) → ∀ (k : Nat) (y : AV), rows.flatten[k]? = some y → ∃ i x j, rows[i]? = some x ∧ x[j]? = some y ∧ k = i * z + j := by
  intro rows
  induction rows with
  | nil => intro _ k y h; simp at h
  | cons r rows ih =>
    intro hz k y h
    have hr : r.length = z := hz r (by simp)
    rw [List.flatten_cons] at h
    rcases Nat.lt_or_ge k r.length with hk | hk
    · rw [List.getElem?_append_left hk] at h
      exact ⟨0, r, k, by simp, h, by omega⟩
    · rw [List.getElem?_append_right hk] at h
      obtain ⟨i, x, j, h1, h2, h3⟩ := ih (fun x hx => hz x (by simp [hx])) _ y h
      exact ⟨i + 1, x, j, by simpa using h1, h2, by rw [Nat.succ_mul]; omega⟩

theorem asource_sound {ρ : Ren} {Φ : Frz} {σ : Heap} {n : Nat} {w : World} (hR : Rel ρ Φ σ n w) {x : AV} {v : Value} (hv : VR ρ Φ x v) {z m : Nat} {l : List AV} (h : asource σ z x = some (m, l)) :
    ∃ c, (Builtin.lenOf v).run P w = .ok m w ∧ (∀ d, (Builtin.firstCells z m v).run P { w with drawn := d } = .ok c { w with drawn := d }) ∧ CR ρ Φ l c ∧ l.length = m * z := by
  unfold asource at h
  split at h
  · cases h
    cases hv
    exact ⟨#[], by simp [Builtin.lenOf], fun d => by simp [Builtin.firstCells], ⟨rfl, fun j x v hx => by simp at hx⟩, by simp⟩
  · rename_i els
    split at h
    · rename_i hall
      cases h
      have hz : ∀ x ∈ els, x.length = z := fun x hx => by have := List.all_eq_true.1 hall x hx; simpa using this
      generalize hq : AV.fs els = q at hv
      cases hv with
      | fs0 a cap =>
        cases hq
        refine ⟨#[], by simp [Builtin.lenOf], ?_, ⟨rfl, fun j x v hx => by simp at hx⟩, by simp⟩
        intro d
        cases a with
        | none => simp [Builtin.firstCells]
        | some a => simp [Builtin.firstCells, loadCells, loadCellsFrom]
      | fs hb hc hz' hl hval =>
        cases hq
        rename_i b s z' cap c
        obtain ⟨T, fr, hw⟩ := hR.frz _ _ hb
        have hzz : els = [] ∨ z' = z := by
          cases els with
          | nil => exact .inl rfl
          | cons r rs => exact .inr (by rw [← hz r (by simp)]; exact (hz' r (by simp)).symm)
        have hle : s + els.length * z ≤ c.size := by
          rcases hzz with h | h
          · subst h; simp at hl ⊢; omega
          · rw [← h]; exact hl
        refine ⟨c.extract s (s + els.length * z), by simp [Builtin.lenOf], ?_, ⟨?_, ?_⟩, flatten_length els hz⟩
        · intro d
          simp only [Builtin.firstCells]
          exact run_loadCells_block P { w with drawn := d } (by exact hw) hle
        · rw [flatten_length els hz]; simp; omega
        · intro k y u hy hu
          obtain ⟨i, x, j, h1, h2, h3⟩ := flatten_back els hz k y hy
          rw [Array.getElem?_extract] at hu
          split at hu
          · refine hval i x j y u h1 h2 ?_
            rcases hzz with h | h
            · subst h; simp at h1
            · subst h; rw [← hu]; congr 1; omega
          · cases hu
      | _ => cases hq
    · cases h
  · rename_i i off len
    split at h
    · rename_i z' l' hg
      split at h
      · rename_i hc
        cases h
        obtain ⟨rfl, hc⟩ := hc
        cases hv with
        | sl _ hr hcap hmm =>
          rename_i cap L
          obtain ⟨L', h1, h2, c, T, fr, hw, hm, hsz, hval, hfr⟩ := hR.heap _ _ hg
          rw [hr] at h1
          obtain rfl : L = L' := by simpa using h1
          refine ⟨c.extract (L.s + off) (L.s + off + m * z'), by simp [Builtin.lenOf], ?_, ⟨by simp; omega, ?_⟩, by simp; omega⟩
          · intro d
            simp only [Builtin.firstCells]
            exact run_loadCells_block P { w with drawn := d } (by exact hw) (by omega)
          · intro k y u hy hu
            rw [List.getElem?_take] at hy
            split at hy
            · rw [List.getElem?_drop] at hy
              rw [Array.getElem?_extract] at hu
              split at hu
              · exact hval (off + k) y u hy (by rw [← hu]; congr 1; omega)
              · cases hu
            · cases hy
        | sl0 _ _ a =>
          refine ⟨#[], by simp [Builtin.lenOf], ?_, ⟨by simp, fun j x v hx => by simp at hx⟩, by simp⟩
          intro d
          cases a with
          | none => simp [Builtin.firstCells]
          | some a => simp [Builtin.firstCells, loadCells, loadCellsFrom]
      · cases h
    · split at h
      · rename_i hlen
        cases h
        subst hlen
        cases hv with
        | sl _ hr hcap hmm =>
          exact ⟨#[], by simp [Builtin.lenOf], fun d => by simp [Builtin.firstCells, loadCells, loadCellsFrom], ⟨rfl, fun j x v hx => by simp at hx⟩, by simp⟩
        | sl0 _ _ a =>
          refine ⟨#[], by simp [Builtin.lenOf], ?_, ⟨by simp, fun j x v hx => by simp at hx⟩, by simp⟩
          intro d
          cases a with
          | none => simp [Builtin.firstCells]
          | some a => simp [Builtin.firstCells, loadCells, loadCellsFrom]
      · cases h
  · rename_i s
    split at h
    · rename_i hz
      cases h
      subst hz
      cases hv
      have he : s.extract 0 s.size = s := by
        apply ByteArray.ext
        simp
      refine ⟨s.data.map fun b => .int .u8 b.toNat, by simp [Builtin.lenOf], fun d => by simp [Builtin.firstCells, he], ⟨by simp, fun j x v hx hv => ?_⟩, by simp only [List.length_map, Array.length_toList, Nat.mul_one]; rfl⟩
      simp only [List.getElem?_map, Array.getElem?_map, Array.getElem?_toList, Option.map_eq_some_iff] at hx hv
      obtain ⟨b, hb, rfl⟩ := hx
      obtain ⟨b', hb', rfl⟩ := hv
      rw [hb] at hb'
      cases hb'
      exact .int _ _
    · cases h
  · cases h

/-- The slice that is appended to: its object (gone behind it), its elements' number and cells. -/
def atarget (σ : Heap) (z : Nat) : AV → Option (Heap × Nat × List AV)
  | .nils => some (σ, 0, [])
  | .sl i off len => match hget σ i with
    | some (.cells z' l) => if z' = z ∧ off + len * z ≤ l.length then some (hdel σ i, len, (l.drop off).take (len * z)) else none
    | _ => none
  | _ => none

def seqD : TypeDesc → Bool
  | .slice _ | .string => true
  | _ => false

theorem seqD_iff {D : TypeDesc} (h : seqD D = true) : (∃ e, D = .slice e) ∨ D = .string := by
  cases D <;> simp [seqD] at h <;> simp

def aappend (TT : Types) (G : Globals) (e : Env) (σ : Heap) (n : Nat) (o : Oper) : Option (AV × Heap × Nat) :=
  match o.op with
  | .call { callee := .builtin .append, args, argTypes } => match args.toList, argTypes.toList with
    | [a, b], [t, u] => match TT t, TT u, aeval G e a, aeval G e b with
      | some { desc := .slice el, .. }, some ui, some s, some x => match TT el, seqD ui.desc with
        | some ei, true => match atarget σ ei.size s, asource σ ei.size x with
          | some (σ', k, old), some (m, new) =>
            if m = 0 then some (s, σ, n)
            else if ei.bytes ≠ 0 ∧ (k + m) * ei.bytes ≤ 70368744177664 ∧ ei.bytes ≤ 1073741824 ∧ ei.zero.length = ei.size ∧ old.all AV.one = true ∧ new.all AV.one = true then some (.sl n 0 (k + m), (n, .cells ei.size (old ++ new)) :: σ', n + 1) else none
          | _, _ => none
        | _, _ => none
      | _, _, _, _ => none
    | _, _ => none
  | _ => none

/-- An object of the heap turns into another one, under a new id, in the same block. -/
theorem Rel.move {ρ : Ren} {Φ : Frz} {σ : Heap} {n : Nat} {w w' : World} (hR : Rel ρ Φ σ n w) {i : Nat} {o o' : AObj} {L M : Loc} (hi : hget σ i = some o) (hb : ρ i = some L) (hML : M.b = L.b) (hother : ∀ d, d ≠ L.b → w'.heap[d]? = w.heap[d]?)
    (hos : w'.os = w.os) (htape : w'.tape = w.tape) (hout : w'.output = w.output) (hsz : w'.heap.size = w.heap.size) (hO : OR (upd ρ n M) Φ w' M o') :
    Rel (upd ρ n M) Φ ((n, o') :: hdel σ i) (n + 1) w' ∧ Step ρ Φ σ w (upd ρ n M) Φ ((n, o') :: hdel σ i) w' := by
  have hm := upd_mono (p := M) hR.low
  have hin : i < n := hR.dom hi
  have updn : ∀ j, j ≠ n → upd ρ n M j = ρ j := fun j hj => by simp only [upd]; rw [if_neg hj]
  have updeq : upd ρ n M n = some M := by simp [upd]
  have getn : hget ((n, o') :: hdel σ i) n = some o' := by simp [hget_cons, hget_nil]
  have geto : ∀ j p, j ≠ n → hget ((n, o') :: hdel σ i) j = some p → i ≠ j ∧ hget σ j = some p := fun j p hj h => by
    simp only [hget_cons, hget_nil] at h
    rw [if_neg (by omega), hget_hdel] at h
    by_cases hij : i = j
    · simp [hij] at h
    · rw [if_neg hij] at h; exact ⟨hij, h⟩
  have hne : ∀ j p K, i ≠ j → hget σ j = some p → ρ j = some K → K.b ≠ L.b := fun j p K hij hj hK h => hij (hR.inj i j _ _ _ _ hi hj hb hK h.symm)
  refine ⟨⟨?_, ?_, ?_, ?_, ?_⟩, ⟨⟨fun j K _ => hm j K, fun _ _ h => h, hos, htape, hout, by omega, ?_, ?_, fun b c h => .inl ⟨c, h⟩⟩, hm⟩⟩
  · intro j p hj
    by_cases hjn : j = n
    · subst hjn
      rw [getn] at hj
      cases hj
      exact ⟨M, updeq, hO⟩
    · obtain ⟨hij, h1⟩ := geto j p hjn hj
      obtain ⟨K, h2, h3⟩ := hR.heap j p h1
      exact ⟨K, (updn j hjn).trans h2, h3.mono hm (fun _ _ h => h) (hother _ (hne j p K hij h1 h2))⟩
  · intro j j' p q K K' h1 h2 h3 h4 hbb
    by_cases hjn : j = n <;> by_cases hjn' : j' = n
    · exact hjn.trans hjn'.symm
    · subst hjn
      rw [updeq] at h3
      cases h3
      obtain ⟨hij, g1⟩ := geto j' q hjn' h2
      rw [updn j' hjn'] at h4
      exact absurd (hbb.symm.trans hML) (hne j' q K' hij g1 h4)
    · subst hjn'
      rw [updeq] at h4
      cases h4
      obtain ⟨hij, g1⟩ := geto j p hjn h1
      rw [updn j hjn] at h3
      exact absurd (hbb.trans hML) (hne j p K hij g1 h3)
    · rw [updn j hjn] at h3
      rw [updn j' hjn'] at h4
      exact hR.inj j j' p q K K' (geto j p hjn h1).2 (geto j' q hjn' h2).2 h3 h4 hbb
  · intro j p K h1 h2
    by_cases hjn : j = n
    · subst hjn
      rw [updeq] at h2
      cases h2
      rw [hML]
      exact hR.dis i _ L hi hb
    · rw [updn j hjn] at h2
      exact hR.dis j p K (geto j p hjn h1).2 h2
  · intro d c hd
    obtain ⟨T, fr, h1⟩ := hR.frz d c hd
    have : d ≠ L.b := fun h => by
      subst h
      rw [hR.dis i _ L hi hb] at hd
      cases hd
    exact ⟨T, fr, (hother d this).trans h1⟩
  · intro j K h
    by_cases hjn : j = n
    · omega
    · rw [updn j hjn] at h
      have := hR.low j K h
      omega
  · intro d hd hn
    exact hother d fun h => hn ⟨i, o, L, hi, hb, h.symm⟩
  · rintro d ⟨j, p, K, h1, h2, rfl⟩
    by_cases hjn : j = n
    · subst hjn
      rw [updeq] at h2
      cases h2
      exact .inr ⟨i, o, L, hi, hb, hML.symm⟩
    · rw [updn j hjn] at h2
      exact .inr ⟨j, p, K, (geto j p hjn h1).2, h2, rfl⟩

/-- Objects may be forgotten. -/
theorem Rel.sub {ρ : Ren} {Φ : Frz} {σ σ' : Heap} {n : Nat} {w : World} (hR : Rel ρ Φ σ n w) (hs : ∀ i o, hget σ' i = some o → hget σ i = some o) : Rel ρ Φ σ' n w :=
  ⟨fun i o h => hR.heap i o (hs i o h), fun i j o p L M h1 h2 => hR.inj i j o p L M (hs i o h1) (hs j p h2), fun i o L h => hR.dis i o L (hs i o h), hR.frz, hR.low⟩

theorem Step.sub {ρ ρ' : Ren} {Φ Φ' : Frz} {σ σ₁ σ' : Heap} {w w' : World} (h : Step ρ Φ σ₁ w ρ' Φ' σ' w') (hs : ∀ i o, hget σ₁ i = some o → hget σ i = some o) : Step ρ Φ σ w ρ' Φ' σ' w' := by
  have ho : ∀ b, Owns ρ σ₁ b → Owns ρ σ b := fun b ⟨i, o, L, h1, h2, h3⟩ => ⟨i, o, L, hs i o h1, h2, h3⟩
  exact ⟨⟨h.ren, h.frz, h.os, h.tape, h.output, h.size, fun b hb hn => h.frame b hb fun hh => hn (ho b hh), fun b hb => (h.own b hb).imp id (ho b), fun b c hb => (h.ownF b c hb).imp id (Or.imp id (ho b))⟩, h.keep⟩

theorem get_append_cells {a b : Array Value} (j : Nat) : (a ++ b)[j]? = if j < a.size then a[j]? else b[j - a.size]? := by
  rcases Nat.lt_or_ge j a.size with h | h
  · rw [if_pos h, Array.getElem?_append_left h]
  · rw [if_neg (by omega), Array.getElem?_append_right h]

theorem run_append_fits {w : World} {t u el : TypeId} {D : TypeDesc} {ty : TypeId} {z k cap m : Nat} {base : Option Addr} {vb : Value} {c : Array Value} (hut : (underlying t).run P w = .ok (.slice el) w) (huu : (underlying u).run P w = .ok D w) (hD : (∃ e, D = .slice e) ∨ D = .string)
    (hsz : (sizeOf el).run P w = .ok z w) (hlen : (Builtin.lenOf vb).run P w = .ok m w) (hcells : (Builtin.firstCells z m vb).run P w = .ok c w) (hfit : k + m ≤ cap) :
    (Builtin.append_ #[t, u] ty #[.slice base k cap, vb]).run P w = ((match base with | some a => storeCells (a.add (k * z)) c.toList | none => pure () : Sem Unit).run P w).andThen fun _ w' => .ok (.slice base (k + m) cap) w' := by
  rcases hD with ⟨e2, rfl⟩ | rfl <;> simp only [Builtin.append_, List.getElem?_toArray, List.getElem?_cons_zero, List.getElem?_cons_succ, Sem.run_bind, hut, huu, hsz, Result.andThen_ok, Sem.run_pure, Bool.false_eq_true, if_false, hlen, hfit, if_true, Bool.not_false, hcells]
  all_goals cases base <;> simp

theorem run_append_grows {w : World} {t u el : TypeId} {D : TypeDesc} {ty : TypeId} {z k cap m : Nat} {base : Option Addr} {vb : Value} {c oc : Array Value} {f : TypeInfo} {zv : Value} (hut : (underlying t).run P w = .ok (.slice el) w) (huu : (underlying u).run P w = .ok D w) (hD : (∃ e, D = .slice e) ∨ D = .string)
    (hsz : (sizeOf el).run P w = .ok z w) (hlen : (Builtin.lenOf vb).run P w = .ok m w) (hcells : ∀ d, (Builtin.firstCells z m vb).run P { w with drawn := d } = .ok c { w with drawn := d }) (hold : ∀ d, (Builtin.firstCells z k (.slice base k cap)).run P { w with drawn := d } = .ok oc { w with drawn := d })
    (hinfo : P.info? el = some f) (hb0 : f.bytes ≠ 0) (hbytes : (k + m) * f.bytes ≤ 70368744177664) (hbb : f.bytes ≤ 1073741824) (hz : ∀ w, (zeroValue el).run P w = .ok zv w) (hfit : ¬ k + m ≤ cap) :
    ∃ newCap, k + m ≤ newCap ∧ (Builtin.append_ #[t, u] ty #[.slice base k cap, vb]).run P w =
      .ok (.slice (some ⟨w.heap.size, 0, none⟩) (k + m) newCap) (({ w with drawn := w.drawn + 1 } : World).alloc (.cells (oc ++ c ++ Builtin.zeroCells zv.cells (newCap - (k + m))) el)) := by
  have hti : ∀ w, (typeInfo el).run P w = .ok f w := fun w => by simp [typeInfo, hinfo]
  have hn : ¬ (Builtin.nextslicecap (k + m) cap * f.bytes > 2 ^ 48) := by
    have h1 := nextcap_le (k + m) cap (by omega)
    have h2 : Builtin.nextslicecap (k + m) cap * f.bytes ≤ (2 * (k + m) + 768) * f.bytes := Nat.mul_le_mul_right _ h1
    rw [Nat.add_mul, Nat.mul_assoc] at h2
    omega
  refine ⟨k + m + w.tape w.drawn (.appendCap (k + m) cap el) % (2 ^ 63 - (k + m)), Nat.le_add_right _ _, ?_⟩
  rcases hD with ⟨e2, rfl⟩ | rfl
  all_goals
   simp only [Builtin.append_, List.getElem?_toArray, List.getElem?_cons_zero, List.getElem?_cons_succ, Sem.run_bind, hut, huu, hsz, Result.andThen_ok, Sem.run_pure, Bool.false_eq_true, if_false, hlen, hfit, Bool.not_false, if_true, hti]
   have hf : (false = true ∨ f.bytes = 0) = False := by simp [hb0]
   simp only [false_or, hb0, and_false, if_false, Sem.run_pure, Result.andThen_ok, hn, Sem.run_bind, hti, run_choose, Question.forced, Bool.false_eq_true, Question.cut, run_askRoom, hold, hcells, hz, newRow, run_newObj]
   rfl

theorem CR.append {ρ : Ren} {Φ : Frz} {l m : List AV} {c d : Array Value} (hc : CR ρ Φ l c) (hd : CR ρ Φ m d) : CR ρ Φ (l ++ m) (c ++ d) := by
  refine ⟨by simp [hc.1, hd.1], fun j y u hy hu => ?_⟩
  rw [get_append_cells] at hu
  rcases Nat.lt_or_ge j l.length with hj | hj
  · rw [List.getElem?_append_left hj] at hy
    rw [if_pos (by rw [← hc.1]; exact hj)] at hu
    exact hc.2 j y u hy hu
  · rw [List.getElem?_append_right hj] at hy
    rw [if_neg (by rw [← hc.1]; omega), ← hc.1] at hu
    exact hd.2 _ y u hy hu

/-- What is known of the slice that is appended to. -/
theorem atarget_sound {ρ : Ren} {Φ : Frz} {σ : Heap} {n : Nat} {w : World} (hR : Rel ρ Φ σ n w) {x : AV} {v : Value} (hv : VR ρ Φ x v) {z k : Nat} {old : List AV} {σ₁ : Heap} (h : atarget σ z x = some (σ₁, k, old)) :
    old.length = k * z ∧ (∀ i o, hget σ₁ i = some o → hget σ i = some o) ∧
    ((∃ (base : Option Addr) (cap : Nat), v = .slice base k cap ∧ k = 0 ∧ cap = 0) ∨
     (∃ i L c off cap l, v = .slice (some ⟨L.b, L.s + off, none⟩) k cap ∧ k ≤ cap ∧ L.s + off + cap * z ≤ L.m ∧ L.z = z ∧ σ₁ = hdel σ i ∧ hget σ i = some (.cells z l) ∧ ρ i = some L ∧ off + k * z ≤ l.length ∧ old = (l.drop off).take (k * z) ∧
      ∃ T fr, w.heap[L.b]? = some (.cells c T fr) ∧ L.m = c.size ∧ L.s + l.length ≤ c.size ∧ (∀ (j : Nat) (x : AV) (v : Value), l[j]? = some x → c[L.s + j]? = some v → VR ρ Φ x v) ∧ (∀ j, j < c.size → ¬ (fr.1 ≤ j ∧ j < fr.2)))) := by
  unfold atarget at h
  split at h
  · cases h
    cases hv
    exact ⟨by simp, fun _ _ h => h, .inl ⟨none, 0, rfl, rfl, rfl⟩⟩
  · split at h
    · rename_i i off len _ z' l hg
      split at h
      · rename_i hc
        obtain ⟨rfl, hc⟩ := hc
        cases h
        refine ⟨by simp; omega, fun j o hj => ?_, ?_⟩
        · rw [hget_hdel] at hj
          by_cases hij : i = j
          · simp [hij] at hj
          · rw [if_neg hij] at hj; exact hj
        · cases hv with
          | sl _ hr hcap hmm =>
            rename_i cap L
            obtain ⟨L', h1, h2, c, T, fr, hw, hm, hsz, hval, hfr⟩ := hR.heap _ _ hg
            rw [hr] at h1
            obtain rfl : L = L' := by simpa using h1
            exact .inr ⟨i, L, c, off, cap, l, rfl, hcap, by rw [← h2]; exact hmm, h2, rfl, hg, hr, hc, rfl, T, fr, hw, hm, hsz, hval, hfr⟩
          | sl0 _ _ a => exact .inl ⟨a, 0, rfl, rfl, rfl⟩
      · cases h
    · cases h
  · cases h

theorem OpOk.append (hT : TOk P TT) {o : Oper} {e : Env} {σ σ' : Heap} {n n' : Nat} {y : AV} {Q : AV → Heap → Nat → Prop} (h : aappend TT G e σ n o = some (y, σ', n')) (hq : Q y σ' n') : OpOk P G o e σ n Q := by
  intro ρ Φ w ca K Qx hR hg he hK
  unfold aappend at h
  split at h <;> rename_i ho
  · split at h
    · rename_i a b t u hargs hts
      have hargs := toList_two hargs
      have hts := toList_two hts
      subst hargs; subst hts
      split at h
      · rename_i el _ _ _ _ ui s x ht hu ha hb
        split at h
        · rename_i ei hei hseq
          have hseq := seqD_iff hseq
          split at h
          · rename_i σ₁ k old m new htg hsrc
            have hva := aeval_sound hg he ha
            have hvb := aeval_sound hg he hb
            have hexec : ∀ r w', (Builtin.append_ #[t, u] o.type #[ca.eval a, ca.eval b]).run P w = .ok r w' → (execOp ca.eval o).run P w = .ok (.value r) w' := fun r w' hr => by
              simp [execOp, ho, resolve, invoke, builtin, hr]
            generalize ca.eval a = va at hva hexec
            generalize ca.eval b = vb at hvb hexec
            obtain ⟨c, hlen, hcells, hcr, hnl⟩ := asource_sound (P := P) hR hvb hsrc
            obtain ⟨hol, hsub, htv⟩ := atarget_sound hR hva htg
            have hut := hT.run_und ht w
            have huu := hT.run_und hu w
            have hsz := hT.run_size hei w
            simp only at hut huu
            by_cases hm0 : m = 0
            · rw [if_pos hm0] at h
              cases h
              subst hm0
              have hc0 : c = #[] := by
                have h1 := hcr.1
                rw [hnl] at h1
                apply Array.eq_empty_of_size_eq_zero
                omega
              have hslice : ∃ base cap, va = .slice base k cap ∧ k ≤ cap := by
                rcases htv with ⟨base, cap, rfl, h1, h2⟩ | ⟨i, L, c, off, cap, l, rfl, h1, _⟩
                · exact ⟨base, cap, rfl, by omega⟩
                · exact ⟨_, cap, rfl, h1⟩
              obtain ⟨base, cap, rfl, hkc⟩ := hslice
              have hrun := run_append_fits (ty := o.type) (k := k) (cap := cap) (base := base) hut huu hseq hsz hlen (hcells w.drawn) (by omega)
              rw [hc0] at hrun
              have hrun' : (Builtin.append_ #[t, u] o.type #[.slice base k cap, vb]).run P w = .ok (.slice base k cap) w := by
                rw [hrun]
                cases base <;> simp [storeCells]
              unfold Oper.wp
              rw [hexec _ _ hrun', Oper.upon_value]
              exact hK _ _ _ _ _ _ _ hq hva hR (Step.refl _ _ _ _)
            · rw [if_neg hm0] at h
              split at h
              · rename_i hcond
                cases h
                obtain ⟨hb0, hbytes, hbb, hzl, ho1, ho2⟩ := hcond
                have hbi := hT.bytes el ei hei hb0
                cases hinfo : P.info? el with
                | none => simp [hinfo] at hbi
                | some f =>
                  have hfb : f.bytes = ei.bytes := by simpa [hinfo] using hbi
                  obtain ⟨zv, hzv, hzs⟩ := hT.zero el ei hei
                  have hzsz : zv.cells.size = ei.size := by
                    have := (CR_scalars (ρ := ρ) (Φ := Φ) hzs).1
                    omega
                  -- it grows: a new row
                  have grow : ∀ (base : Option Addr) (cap : Nat) (oc : Array Value), va = .slice base k cap → ¬ k + m ≤ cap → (∀ d, (Builtin.firstCells ei.size k (.slice base k cap)).run P { w with drawn := d } = .ok oc { w with drawn := d }) → CR ρ Φ old oc →
                      o.wp P ca w K Qx := fun base cap oc hva' hfit hold hocr => by
                    subst hva'
                    obtain ⟨newCap, hnc, hrun⟩ := run_append_grows (ty := o.type) hut huu hseq hsz hlen hcells hold hinfo (by rw [hfb]; exact hb0) (by rw [hfb]; exact hbytes) (by rw [hfb]; exact hbb) hzv hfit
                    unfold Oper.wp
                    rw [hexec _ _ hrun, Oper.upon_value]
                    have hR1 := hR.drawn (w.drawn + 1)
                    have hR2 := hR1.sub hsub
                    let cc := oc ++ c ++ Builtin.zeroCells zv.cells (newCap - (k + m))
                    have hcc : cc.size = newCap * ei.size := by
                      have h1 := hocr.1
                      have h2 := hcr.1
                      simp only [cc, Array.size_append, Builtin.zeroCells, Array.size_map, Array.size_range, hzsz]
                      rw [← h1, ← h2, hol, hnl, ← Nat.add_mul, ← Nat.add_mul]
                      congr 1
                      omega
                    have hO : OR (upd ρ n ⟨w.heap.size, 0, cc.size, ei.size⟩) Φ (({ w with drawn := w.drawn + 1 } : World).alloc (.cells cc el)) ⟨w.heap.size, 0, cc.size, ei.size⟩ (.cells ei.size (old ++ new)) := by
                      refine ⟨rfl, cc, el, (0, 0), heap_alloc_new _ _, rfl, ?_, fun j x v hx hv => ?_, fun j _ h => by omega⟩
                      · simp only [List.length_append, hol, hnl, hcc, Nat.zero_add, ← Nat.add_mul]
                        exact Nat.mul_le_mul_right _ hnc
                      · rw [Nat.zero_add] at hv
                        have happ := CR.append hocr hcr
                        have hlt : j < (old ++ new).length := by
                          rcases Nat.lt_or_ge j (old ++ new).length with hh | hh
                          · exact hh
                          · simp [List.getElem?_eq_none hh] at hx
                        have : (oc ++ c)[j]? = some v := by
                          simp only [cc] at hv
                          rw [get_append_cells, if_pos (by rw [← happ.1]; exact hlt)] at hv
                          exact hv
                        exact (happ.2 j x v hx this).mono (upd_mono hR.low) (fun _ _ h => h)
                    obtain ⟨g1, g2⟩ := hR2.new (.cells cc el) (.cells ei.size (old ++ new)) ⟨w.heap.size, 0, cc.size, ei.size⟩ rfl hO
                    refine hK _ _ _ _ _ _ _ hq ?_ g1 ((Step.drawn ρ Φ σ w (w.drawn + 1)).trans (g2.sub hsub))
                    have := VR.sl (ρ := upd ρ n ⟨w.heap.size, 0, cc.size, ei.size⟩) (Φ := Φ) (i := n) (L := ⟨w.heap.size, 0, cc.size, ei.size⟩) (len := k + m) (cap := newCap) 0 (by simp [upd]) hnc (by simp; omega)
                    simpa using this
                  rcases htv with ⟨base, cap, hva', hk0, hc0⟩ | ⟨i, L, c0, off, cap, l, hva', hkc, hmm, hLz, hσ₁, hgi, hri, hoff, hold, T, fr, hw, hLm, hsz0, hval, hfr⟩
                  · subst hk0; subst hc0
                    have hold0 : old = [] := by simpa using hol
                    refine grow base 0 #[] hva' (by omega) (fun d => ?_) (by rw [hold0]; exact ⟨rfl, fun j x v hx => by simp at hx⟩)
                    cases base with
                    | none => simp [Builtin.firstCells]
                    | some a => simp [Builtin.firstCells, loadCells, loadCellsFrom]
                  · by_cases hfit : k + m ≤ cap
                    · -- in place
                      subst hva'
                      have hkm : (k + m) * ei.size ≤ cap * ei.size := Nat.mul_le_mul_right _ hfit
                      rw [Nat.add_mul] at hkm
                      have hcs : c.size = m * ei.size := by rw [← hcr.1, hnl]
                      have hone' : ∀ v ∈ c.toList, v.oneCell' = true := fun v hvm => by
                        obtain ⟨j, hj⟩ := List.mem_iff_getElem?.1 hvm
                        have hj' : c[j]? = some v := by simpa using hj
                        have hlt : j < new.length := by
                          rw [hcr.1]
                          rcases Nat.lt_or_ge j c.size with hh | hh
                          · exact hh
                          · simp [Array.getElem?_eq_none hh] at hj'
                        exact (hcr.2 j new[j] v (by simp) hj').oneCell (List.all_eq_true.1 ho2 _ (by simp))
                      obtain ⟨w', k1, k2, k3, k4, k5, k6, k7⟩ := run_storeCells_block P c.toList 0 w (b := L.b) (o := L.s + off + k * ei.size) hw (by simp [hcs]; omega) hfr hone'
                      have hrun := run_append_fits (ty := o.type) (k := k) (cap := cap) (base := some ⟨L.b, L.s + off, none⟩) hut huu hseq hsz hlen (hcells w.drawn) hfit
                      simp only [addr_add, k1, Result.andThen_ok] at hrun
                      unfold Oper.wp
                      rw [hexec _ _ hrun, Oper.upon_value]
                      have hO : OR (upd ρ n ⟨L.b, L.s + off, L.m, ei.size⟩) Φ w' ⟨L.b, L.s + off, L.m, ei.size⟩ (.cells ei.size (old ++ new)) := by
                        refine ⟨rfl, cputs c0 (L.s + off + k * ei.size + 0) c.toList, T, fr, k2, by rw [size_cputs]; exact hLm, ?_, fun j x v hx hv => ?_, by rw [size_cputs]; exact hfr⟩
                        · rw [size_cputs]; simp only [List.length_append, hol, hnl]; omega
                        · rw [get_cputs _ _ _ _ (by simp [hcs]; omega)] at hv
                          simp only [Array.length_toList, hcs, Nat.add_zero] at hv
                          rcases Nat.lt_or_ge j old.length with hj | hj
                          · rw [List.getElem?_append_left hj, hold, List.getElem?_take] at hx
                            rw [hol] at hj
                            rw [if_pos hj, List.getElem?_drop] at hx
                            rw [if_neg (by omega)] at hv
                            exact (hval (off + j) x v hx (by rw [← hv]; congr 1; omega)).mono (upd_mono hR.low) (fun _ _ h => h)
                          · rw [List.getElem?_append_right hj] at hx
                            rw [hol] at hj hx
                            have hlt : j - k * ei.size < new.length := by
                              rcases Nat.lt_or_ge (j - k * ei.size) new.length with hh | hh
                              · exact hh
                              · simp [List.getElem?_eq_none hh] at hx
                            rw [hnl] at hlt
                            rw [if_pos (by omega)] at hv
                            refine (hcr.2 (j - k * ei.size) x v hx ?_).mono (upd_mono hR.low) (fun _ _ h => h)
                            rw [← hv, Array.getElem?_toList]; congr 1; omega
                      obtain ⟨g1, g2⟩ := hR.move (M := ⟨L.b, L.s + off, L.m, ei.size⟩) hgi hri rfl k3 k4 k5 k6 k7 hO
                      rw [← hσ₁] at g1 g2
                      refine hK _ _ _ _ _ _ _ hq ?_ g1 g2
                      have := VR.sl (ρ := upd ρ n ⟨L.b, L.s + off, L.m, ei.size⟩) (Φ := Φ) (i := n) (L := ⟨L.b, L.s + off, L.m, ei.size⟩) (len := k + m) (cap := cap) 0 (by simp [upd]) hfit (by simp; omega)
                      simpa using this
                    · refine grow _ cap (c0.extract (L.s + off) (L.s + off + k * ei.size)) hva' hfit (fun d => ?_) ⟨?_, ?_⟩
                      · have hw' : ({ w with drawn := d } : World).heap[L.b]? = some (.cells c0 T fr) := hw
                        exact run_loadCells_block P _ hw' (by omega)
                      · rw [hol]; simp; omega
                      · intro j x v hx hv
                        rw [hold, List.getElem?_take] at hx
                        split at hx
                        · rw [List.getElem?_drop] at hx
                          rw [Array.getElem?_extract] at hv
                          split at hv
                          · exact hval (off + j) x v hx (by rw [← hv]; congr 1; omega)
                          · cases hv
                        · cases hx
              · cases h
          · cases h
        · cases h
      · cases h
    · cases h
  · cases h
end
end Go.Ma
