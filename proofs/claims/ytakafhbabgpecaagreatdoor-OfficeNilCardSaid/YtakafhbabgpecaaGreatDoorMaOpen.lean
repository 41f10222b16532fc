/- A law's arguments as abstract values: every block that lies when the call begins counts as one that nobody writes. -/
import Derived.Test.YtakafhbabgpecaaGreatDoorMaStep
import Derived.Deep.Slices
import Derived.OpenShut
import Derived.ProofKit
import Derived.Carry
import Derived.SizedLaws
namespace Go.Ma
open Go.RowKit Go.ChangeShapes Go.WideShapes Go.WideElems Go.Deep

def allF (w : World) : Frz := fun b => match w.heap[b]? with
  | some (.cells c _ _) => some c
  | _ => none

theorem allF_some {w : World} {b : Nat} {c : Array Value} : allF w b = some c ↔ ∃ T fr, w.heap[b]? = some (.cells c T fr) := by
  unfold allF
  constructor
  · intro h
    split at h
    · rename_i c' T fr hw; cases h; exact ⟨T, fr, hw⟩
    · cases h
  · rintro ⟨T, fr, h⟩
    rw [h]

theorem rel0 (w : World) : Rel (fun _ => none) (allF w) [] 0 w where
  heap := fun i o h => by simp [hget_nil] at h
  inj := fun i j o p L M h => by simp [hget_nil] at h
  dis := fun i o L h => by simp [hget_nil] at h
  frz := fun b c h => allF_some.1 h
  low := fun i L h => by cases h

/-- A step out of the empty heap leaves what lay as it lay. -/
theorem Step.below0 {w w' : World} {ρ' : Ren} {Φ Φ' : Frz} {σ' : Heap} {ρ : Ren} (h : Step ρ Φ [] w ρ' Φ' σ' w') : Below w.heap.size w w' where
  os := h.os
  tape := h.tape
  output := h.output
  size := h.size
  block := fun k hk => h.frame k hk (fun ⟨i, o, L, h1, _⟩ => by simp [hget_nil] at h1)

/-- Value by value. -/
def CRL (w : World) (l : List AV) (cs : List Value) : Prop := l.length = cs.length ∧ ∀ (j : Nat) (x : AV) (v : Value), l[j]? = some x → cs[j]? = some v → VR (fun _ => none) (allF w) x v

theorem CRL.append {w : World} {l m : List AV} {cs ds : List Value} (h : CRL w l cs) (k : CRL w m ds) : CRL w (l ++ m) (cs ++ ds) := by
  refine ⟨by simp [h.1, k.1], fun j x v hx hv => ?_⟩
  rcases Nat.lt_or_ge j l.length with hj | hj
  · rw [List.getElem?_append_left hj] at hx
    rw [List.getElem?_append_left (by rw [← h.1]; exact hj)] at hv
    exact h.2 j x v hx hv
  · rw [List.getElem?_append_right hj] at hx
    rw [List.getElem?_append_right (by rw [← h.1]; exact hj), ← h.1] at hv
    exact k.2 _ x v hx hv

theorem CRL.one {w : World} {x : AV} {v : Value} (h : VR (fun _ => none) (allF w) x v) : CRL w [x] [v] :=
  ⟨rfl, fun j y u hy hu => by cases j with
    | zero => cases hy; cases hu; exact h
    | succ j => simp at hy⟩

/-- What a plain type's cells are. -/
def Typed (P : Program) : Nat → TypeId → List AV → Prop
  | 0, _, _ => False
  | k + 1, t, l => match P.underlying t with
    | some (.int kd) => ∃ n, l = [.int kd n] ∧ (Lit.int kd n).wf = true
    | some .bool => ∃ b, l = [.bool b]
    | some .string => ∃ s : ByteArray, l = [.str s] ∧ s.size ≤ reachBytes
    | some (.slice e) => l = [.nils] ∨ ∃ els, l = [.fs els] ∧ els.length * P.bytesOf e ≤ reachBytes ∧ ∀ r ∈ els, r.length = P.cellsOf e ∧ Typed P k e r
    | some (.struct fs) => ∃ ls : List (List AV), l = ls.flatten ∧ ls.length = fs.size ∧ ∀ (i : Nat) (f : Field) (r : List AV), fs[i]? = some f → ls[i]? = some r → Typed P k f.type r
    | some (.array n e) => ∃ ls : List (List AV), l = ls.flatten ∧ ls.length = n ∧ ∀ r ∈ ls, Typed P k e r
    | _ => False

/-- The fields lie one behind the other, and fill the struct. -/
def contig (P : Program) (stop : Nat) : Nat → List Field → Bool
  | off, [] => off == stop
  | off, f :: r => (f.offset == off) && contig P stop (off + P.cellsOf f.type) r

def plainT (P : Program) : Nat → TypeId → Bool
  | 0, _ => false
  | k + 1, t => match P.underlying t with
    | some (.int _) => true
    | some .bool => true
    | some .string => true
    | some (.slice e) => decide (0 < P.cellsOf e) && plainT P k e
    | some (.struct fs) => contig P (P.cellsOf t) 0 fs.toList && fs.toList.all fun f => plainT P k f.type
    | some (.array n e) => (n * P.cellsOf e == P.cellsOf t) && plainT P k e
    | _ => false

theorem open_fields {P : Program} {w : World} {T : TypeId → List AV → Prop} : ∀ (fl : List Field) (off stop : Nat) (cs : List Value), contig P stop off fl = true → off + cs.length = stop →
    (∀ (i : Nat) (f : Field), fl[i]? = some f → ∃ r, CRL w r ((cs.drop (f.offset - off)).take (P.cellsOf f.type)) ∧ T f.type r) →
    ∃ ls : List (List AV), CRL w ls.flatten cs ∧ ls.length = fl.length ∧ ∀ (i : Nat) (f : Field) (r : List AV), fl[i]? = some f → ls[i]? = some r → T f.type r := by
  intro fl
  induction fl with
  | nil =>
    intro off stop cs hc hl _
    have : cs = [] := by
      simp only [contig, beq_iff_eq] at hc
      exact List.eq_nil_of_length_eq_zero (by omega)
    subst this
    exact ⟨[], ⟨rfl, fun j x v hx => by simp at hx⟩, rfl, fun i f r hf => by simp at hf⟩
  | cons f fl ih =>
    intro off stop cs hc hl hall
    simp only [contig, Bool.and_eq_true, beq_iff_eq] at hc
    obtain ⟨hf, hc⟩ := hc
    have mono : ∀ (fl : List Field) (o : Nat), contig P stop o fl = true → o ≤ stop ∧ ∀ f ∈ fl, o ≤ f.offset := by
      intro fl
      induction fl with
      | nil => intro o h; simp only [contig, beq_iff_eq] at h; exact ⟨by omega, fun f hf => by simp at hf⟩
      | cons g fl ih2 =>
        intro o h
        simp only [contig, Bool.and_eq_true, beq_iff_eq] at h
        obtain ⟨h1, h2⟩ := ih2 _ h.2
        refine ⟨by omega, fun f hf => ?_⟩
        rcases List.mem_cons.1 hf with rfl | hf
        · omega
        · have := h2 f hf; omega
    obtain ⟨hstop, hoffs⟩ := mono _ _ hc
    obtain ⟨r, hr, hTr⟩ := hall 0 f rfl
    rw [hf, Nat.sub_self, List.drop_zero] at hr
    obtain ⟨ls, h1, h2, h3⟩ := ih (off + P.cellsOf f.type) stop (cs.drop (P.cellsOf f.type)) hc (by simp; omega) (fun i g hg => by
      obtain ⟨r', hr', hT'⟩ := hall (i + 1) g (by simpa using hg)
      refine ⟨r', ?_, hT'⟩
      have := hoffs g (List.mem_of_getElem? hg)
      rw [List.drop_drop, show P.cellsOf f.type + (g.offset - (off + P.cellsOf f.type)) = g.offset - off by omega]
      exact hr')
    refine ⟨r :: ls, ?_, by simp [h2], fun i g r' hg hr' => ?_⟩
    · have := hr.append h1
      rw [List.take_append_drop] at this
      simpa using this
    · cases i with
      | zero => simp at hg hr'; subst hg; subst hr'; exact hTr
      | succ i => exact h3 i g r' (by simpa using hg) (by simpa using hr')

theorem open_rows {w : World} {T : List AV → Prop} (z : Nat) : ∀ (n : Nat) (cs : List Value), cs.length = n * z → (∀ i, i < n → ∃ r, CRL w r ((cs.drop (i * z)).take z) ∧ T r) →
    ∃ ls : List (List AV), CRL w ls.flatten cs ∧ ls.length = n ∧ ∀ r ∈ ls, T r := by
  intro n
  induction n with
  | zero =>
    intro cs hl _
    have : cs = [] := List.eq_nil_of_length_eq_zero (by omega)
    subst this
    exact ⟨[], ⟨rfl, fun j x v hx => by simp at hx⟩, rfl, fun r hr => by simp at hr⟩
  | succ n ih =>
    intro cs hl hall
    obtain ⟨r, hr, hT⟩ := hall 0 (by omega)
    rw [Nat.zero_mul, List.drop_zero] at hr
    obtain ⟨ls, h1, h2, h3⟩ := ih (cs.drop z) (by rw [List.length_drop, hl, Nat.succ_mul]; omega) (fun i hi => by
      obtain ⟨r', hr', hT'⟩ := hall (i + 1) (by omega)
      refine ⟨r', ?_, hT'⟩
      rw [List.drop_drop, show z + i * z = (i + 1) * z by rw [Nat.succ_mul]; omega]
      exact hr')
    refine ⟨r :: ls, ?_, by simp [h2], fun r' hr' => ?_⟩
    · have := hr.append h1
      rw [List.take_append_drop] at this
      simpa using this
    · rcases List.mem_cons.1 hr' with rfl | h
      · exact hT
      · exact h3 _ h

variable {H : Type} {enc : TypeId × Value → H} {P : Program} {w : World} {base : Nat} {spare : Nat → Bool} {held : Bool}

theorem weightsAll_mem {e : TypeId} : ∀ {l : List (DataW H)} {d : DataW H}, d ∈ l → ∀ n ∈ d.weights P e, n ∈ DataW.weightsAll P e l
  | x :: l, d, h, n, hn => by
    simp only [DataW.weightsAll, List.mem_append]
    rcases List.mem_cons.1 h with rfl | h
    · exact .inl hn
    · exact .inr (weightsAll_mem h n hn)

theorem typed_slice {k : Nat} {t e : TypeId} {l : List AV} (ht : P.underlying t = some (.slice e)) (h : Typed P (k + 1) t l) :
    l = [.nils] ∨ ∃ els, l = [.fs els] ∧ els.length * P.bytesOf e ≤ reachBytes ∧ ∀ r ∈ els, r.length = P.cellsOf e ∧ Typed P k e r := by
  simpa only [Typed, ht] using h
theorem typed_struct {k : Nat} {t : TypeId} {fs : Array Field} {l : List AV} (ht : P.underlying t = some (.struct fs)) (h : Typed P (k + 1) t l) :
    ∃ ls : List (List AV), l = ls.flatten ∧ ls.length = fs.size ∧ ∀ (i : Nat) (f : Field) (r : List AV), fs[i]? = some f → ls[i]? = some r → Typed P k f.type r := by
  simpa only [Typed, ht] using h
theorem typed_int {k : Nat} {t : TypeId} {kd : IntKind} {l : List AV} (ht : P.underlying t = some (.int kd)) (h : Typed P (k + 1) t l) : ∃ n, l = [.int kd n] ∧ (Lit.int kd n).wf = true := by
  simpa only [Typed, ht] using h
theorem typed_bool {k : Nat} {t : TypeId} {l : List AV} (ht : P.underlying t = some .bool) (h : Typed P (k + 1) t l) : ∃ b, l = [.bool b] := by
  simpa only [Typed, ht] using h
theorem typed_string {k : Nat} {t : TypeId} {l : List AV} (ht : P.underlying t = some .string) (h : Typed P (k + 1) t l) : ∃ s : ByteArray, l = [.str s] ∧ s.size ≤ reachBytes := by
  simpa only [Typed, ht] using h

theorem open_typed : ∀ (k fuel : Nat) (t : TypeId) (cs : List Value) (x : DataW H × List MemPlace), plainT P k t = true → DataW.trod enc P w base spare held fuel t cs = some x → (∀ n ∈ x.1.weights P t, n ≤ reachBytes) → ∃ l, CRL w l cs ∧ Typed P k t l := by
  intro k
  induction k with
  | zero => intro fuel t cs x h; cases h
  | succ k ih =>
    intro fuel t cs x hp hd hwt
    simp only [plainT] at hp
    split at hp
    · rename_i kd ht
      obtain ⟨n, rfl, _, hw⟩ := DataW.trod_int ht hd
      exact ⟨[.int kd n], CRL.one (.int _ _), by simp only [Typed, ht]; exact ⟨n, rfl, hw⟩⟩
    · rename_i ht
      obtain ⟨b, rfl, _⟩ := DataW.trod_bool ht hd
      exact ⟨[.bool b], CRL.one (.bool _), by simp only [Typed, ht]; exact ⟨b, rfl⟩⟩
    · rename_i ht
      obtain ⟨s, rfl, rfl, hs⟩ := DataW.trod_string ht hd
      exact ⟨[.str s], CRL.one (.str _), by simp only [Typed, ht]; exact ⟨s, rfl, hwt s.size (by simp [DataW.weights])⟩⟩
    · rename_i e ht
      simp only [Bool.and_eq_true, decide_eq_true_eq] at hp
      obtain ⟨hz, hpe⟩ := hp
      rcases open_slice ht hd with ⟨rfl, _⟩ | ⟨a, len, cap, m, n, D, Pl, rfl, hb, hlc, hcm, hm, rfl, hel⟩
      · exact ⟨[.nils], CRL.one .nils, by simp [Typed, ht]⟩
      · have hlm : len ≤ m := by rw [hm]; split <;> omega
        simp only [DataW.weights, ht] at hwt
        obtain ⟨V, hV⟩ := choose_lt (α := List AV) (n := len) (p := fun i l => ∃ cs', w.cells? base (a.add (i * P.cellsOf e)) (P.cellsOf e) = some cs' ∧ CRL w l cs' ∧ Typed P k e l) (fun i hi => by
          obtain ⟨cs', h1, h2⟩ := hel i (by omega)
          obtain ⟨l, h3, h4⟩ := ih _ _ _ _ hpe h2 (fun q hq => hwt q (List.mem_cons_of_mem _ (List.mem_append_left _ (weightsAll_mem (List.mem_map.2 ⟨i, List.mem_range.2 hi, rfl⟩) q hq))))
          exact ⟨l, cs', h1, h3, h4⟩)
        have hVl : ∀ i, i < len → (V i).length = P.cellsOf e := fun i hi => by
          obtain ⟨cs', h1, h2, _⟩ := hV i hi
          rw [h2.1]; exact (World.cells?_some h1).2.1
        refine ⟨[.fs ((List.range len).map V)], CRL.one ?_, ?_⟩
        · rcases Nat.eq_zero_or_pos len with h0 | h0
          · subst h0; exact .fs0 _ _
          · obtain ⟨cs0, g1, g2, _⟩ := hV 0 h0
            obtain ⟨_, glen, gcell⟩ := World.cells?_some g1
            have gc := gcell 0 hz
            rw [Nat.zero_mul] at gc
            have hsp : ∃ v0, w.cell? a = some v0 := by
              have : cs0[0]? = some (cs0[0]'(by omega)) := List.getElem?_eq_getElem _
              rw [this] at gc
              exact ⟨_, by simpa [Addr.add] using gc⟩
            obtain ⟨v0, hv0⟩ := hsp
            obtain ⟨b, s, sp⟩ := a
            obtain ⟨c, T, fr, hw, rfl⟩ : ∃ c T fr, w.heap[b]? = some (.cells c T fr) ∧ sp = none := by
              unfold World.cell? at hv0
              split at hv0
              · rename_i c T fr hw
                split at hv0
                · cases hv0
                · rename_i hs; exact ⟨c, T, fr, hw, by simpa using hs⟩
              · cases hv0
            have cellAt : ∀ i j, i < len → j < P.cellsOf e → ∃ v, c[s + i * P.cellsOf e + j]? = some v ∧ ∀ y, (V i)[j]? = some y → VR (fun _ => none) (allF w) y v := fun i j hi hj => by
              obtain ⟨cs', h1, h2, _⟩ := hV i hi
              obtain ⟨_, hlen, hcell⟩ := World.cells?_some h1
              have hc := hcell j hj
              rw [addr_add, addr_add] at hc
              have hj' : cs'[j]? = some (cs'[j]'(by omega)) := List.getElem?_eq_getElem _
              rw [hj'] at hc
              simp only [World.cell?, hw] at hc
              exact ⟨_, hc, fun y hy => h2.2 j y _ hy hj'⟩
            have hlen : ((List.range len).map V).length = len := by simp
            have := VR.fs (ρ := fun _ => none) (Φ := allF w) (b := b) (s := s) (z := P.cellsOf e) (cap := cap) (c := c) (els := (List.range len).map V) (allF_some.2 ⟨T, fr, hw⟩) (by simpa using hlc)
              (fun r hr => by
                obtain ⟨i, hi, rfl⟩ := List.mem_map.1 hr
                exact hVl i (List.mem_range.1 hi))
              (by
                rw [hlen]
                obtain ⟨v, hv, _⟩ := cellAt (len - 1) (P.cellsOf e - 1) (by omega) (by omega)
                have hlt : s + (len - 1) * P.cellsOf e + (P.cellsOf e - 1) < c.size := by
                  rcases Nat.lt_or_ge (s + (len - 1) * P.cellsOf e + (P.cellsOf e - 1)) c.size with h | h
                  · exact h
                  · rw [Array.getElem?_eq_none h] at hv; cases hv
                obtain ⟨q, rfl⟩ : ∃ q, len = q + 1 := ⟨len - 1, by omega⟩
                rw [Nat.succ_mul]
                simp only [Nat.add_sub_cancel] at hlt
                omega)
              (fun i r j y v hr hy hv => by
                have hi : i < len := by
                  rcases Nat.lt_or_ge i len with h | h
                  · exact h
                  · rw [List.getElem?_eq_none (by simpa using h)] at hr; cases hr
                rw [List.getElem?_map, List.getElem?_range hi] at hr
                simp only [Option.map_some, Option.some.injEq] at hr
                subst hr
                have hj : j < P.cellsOf e := by
                  rcases Nat.lt_or_ge j (V i).length with h | h
                  · rw [hVl i hi] at h; exact h
                  · rw [List.getElem?_eq_none h] at hy; cases hy
                obtain ⟨v', hv', hy'⟩ := cellAt i j hi hj
                rw [hv] at hv'
                cases hv'
                exact hy' y hy)
            rw [hlen] at this
            exact this
        · simp only [Typed, ht]
          refine .inr ⟨_, rfl, ?_, fun r hr => ?_⟩
          · have := hwt _ (List.mem_cons_self ..)
            simp only [List.length_map, List.length_range] at this ⊢
            exact Nat.le_trans (Nat.mul_le_mul_right _ (Nat.le_add_right _ _)) this
          obtain ⟨i, hi, rfl⟩ := List.mem_map.1 hr
          have hi := List.mem_range.1 hi
          obtain ⟨_, _, _, h⟩ := hV i hi
          exact ⟨hVl i hi, h⟩
    · rename_i fs ht
      simp only [Bool.and_eq_true, List.all_eq_true] at hp
      obtain ⟨hc, hpf⟩ := hp
      obtain ⟨xs, n, _, hx, hlen, hxs, hf⟩ := DataW.trod_struct ht hd
      rw [hx] at hwt
      simp only [DataW.weights, ht] at hwt
      obtain ⟨ls, h1, h2, h3⟩ := open_fields (w := w) (T := fun t l => Typed P k t l) fs.toList 0 (P.cellsOf t) cs hc (by omega) (fun i f hfi => by
        have hfi' : fs[i]? = some f := by simpa using hfi
        have hxi : i < xs.length := by
          rw [hxs]
          rcases Nat.lt_or_ge i fs.size with h | h
          · exact h
          · rw [Array.getElem?_eq_none h] at hfi'; cases hfi'
        have hr := hf i f hfi'
        rw [List.getElem?_eq_getElem hxi] at hr
        obtain ⟨l, g1, g2⟩ := ih _ _ _ _ (hpf f (List.mem_of_getElem? hfi)) hr (fun q hq => hwt q (DataW.weights_mem_each (j := i) (t := f.type) (d := xs[i].1) (by rw [List.getElem?_map, hfi]; rfl) (by rw [List.getElem?_map, List.getElem?_eq_getElem hxi]; rfl) q hq))
        exact ⟨l, by rw [Nat.sub_zero]; exact g1, g2⟩)
      refine ⟨ls.flatten, h1, ?_⟩
      simp only [Typed, ht]
      exact ⟨ls, rfl, by simpa using h2, fun i f r hfi hr => h3 i f r (by simpa using hfi) hr⟩
    · rename_i n e ht
      simp only [Bool.and_eq_true, beq_iff_eq] at hp
      obtain ⟨hc, hpe⟩ := hp
      obtain ⟨xs, m, _, hx, hlen, hxs, hf⟩ := DataW.trod_array ht hd
      rw [hx] at hwt
      simp only [DataW.weights, ht] at hwt
      obtain ⟨ls, h1, h2, h3⟩ := open_rows (w := w) (T := fun l => Typed P k e l) (P.cellsOf e) n cs (by omega) (fun i hi => by
        have hr := hf i hi
        rw [List.getElem?_eq_getElem (by omega)] at hr
        exact ih _ _ _ _ hpe hr (fun q hq => hwt q (weightsAll_mem (List.mem_map.2 ⟨_, List.getElem_mem _, rfl⟩) q hq)))
      refine ⟨ls.flatten, h1, ?_⟩
      simp only [Typed, ht]
      exact ⟨ls, rfl, h2, h3⟩
    · cases hp
end Go.Ma
