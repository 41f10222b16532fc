/- From strings to bytes and back. -/
import Derived.Test.YtakafhbabgpecaaGreatDoorMaMore
import Derived.Lib.ConvBytes
import Derived.Laws.AppendOwn
import Derived.Laws.BytesString
import Derived.Shelf.Bytes.SlSmallAll
namespace Go.Ma
section
variable {P : Program} {TT : Types} {G : Globals} {N n0 : Nat}

theorem Rel.newFrzW {ρ : Ren} {Φ : Frz} {σ : Heap} {n : Nat} {w w' : World} (hR : Rel ρ Φ σ n w) {c : Array Value} {T : TypeId} {fr : Nat × Nat} (hold : ∀ j, j < w.heap.size → w'.heap[j]? = w.heap[j]?)
    (hnew : w'.heap[w.heap.size]? = some (.cells c T fr)) (hsz : w.heap.size ≤ w'.heap.size) (hos : w'.os = w.os) (htape : w'.tape = w.tape) (hout : w'.output = w.output) :
    Rel ρ (fun b => if b = w.heap.size then some c else Φ b) σ n w' ∧ Step ρ Φ σ w ρ (fun b => if b = w.heap.size then some c else Φ b) σ w' ∧
      (∀ b d, Φ b = some d → (fun b => if b = w.heap.size then some c else Φ b) b = some d) := by
  have hΦ : ∀ b d, Φ b = some d → (fun b => if b = w.heap.size then some c else Φ b) b = some d := fun b d h => by
    obtain ⟨T, fr, h1⟩ := hR.frz b d h
    have := lt_of_heap h1
    show (if b = w.heap.size then some c else Φ b) = some d
    rw [if_neg (by omega)]
    exact h
  refine ⟨⟨?_, hR.inj, ?_, ?_, hR.low⟩, ⟨⟨fun _ _ _ h => h, hΦ, hos, htape, hout, hsz, fun b hb _ => hold b hb, fun b h => .inr h, ?_⟩, fun _ _ h => h⟩, hΦ⟩
  · intro i o hi
    obtain ⟨L, h1, h2⟩ := hR.heap i o hi
    exact ⟨L, h1, h2.mono (fun _ _ h => h) hΦ (hold _ h2.lt)⟩
  · intro i o L hi hb
    have hlt := hR.owns_lt ⟨i, o, L, hi, hb, rfl⟩
    show (if L.b = w.heap.size then some c else Φ L.b) = none
    rw [if_neg (by omega)]
    exact hR.dis i o L hi hb
  · intro b d h
    have h : (if b = w.heap.size then some c else Φ b) = some d := h
    split at h
    · rename_i hb; cases h; subst hb; exact ⟨T, fr, hnew⟩
    · obtain ⟨T, fr, h1⟩ := hR.frz b d h
      exact ⟨T, fr, (hold b (lt_of_heap h1)).trans h1⟩
  · intro b d h
    have h : (if b = w.heap.size then some c else Φ b) = some d := h
    split at h
    · rename_i hb; exact .inr (.inl (by omega))
    · exact .inl ⟨d, h⟩

/-- The bytes of a text, a row of one cell each. -/
def rowsOfBytes (s : ByteArray) : List (List AV) := s.data.toList.map fun b => [.int .u8 b.toNat]

def atoBytes (TT : Types) (G : Globals) (e : Env) (o : Oper) : Option AV :=
  match o.op with
  | .convert s d x => match TT s, TT d, aeval G e x with
    | some _, some { desc := .slice el, .. }, some (.str b) => (match TT el with
      | some { desc := .int .u8, .. } => some (.fs (rowsOfBytes b))
      | _ => none)
    | _, _, _ => none
  | _ => none

theorem OpOk.toBytes (hT : TOk P TT) {o : Oper} {e : Env} {σ : Heap} {n : Nat} {y : AV} {Q : AV → Heap → Nat → Prop} (h : atoBytes TT G e o = some y) (hq : Q y σ n) : OpOk P G o e σ n Q := by
  intro ρ Φ w ca K Qx hR hg he hK
  unfold atoBytes at h
  split at h
  · rename_i s d x ho
    split at h
    · rename_i si el _ _ _ _ b hs hd hx
      split at h
      · rename_i _ _ _ _ hel
        cases h
        have hvx := aeval_sound hg he hx
        generalize hqx : ca.eval x = qx at hvx
        cases hvx with
        | str =>
          have hrun := Lib.run_convert_string_bytes (P := P) w s d el b (hT.und _ _ hs) (hT.und _ _ hd) (hT.und _ _ hel)
          obtain ⟨h1, h2, h3⟩ := hR.newFrzW (w' := Lib.bytesWorld w el b) (fun j hj => Lib.bytesWorld_at_old w el b j hj) (Lib.bytesWorld_at_new w el b) (by rw [Lib.bytesWorld_size]; omega) rfl rfl rfl
          unfold Oper.wp
          have : (execOp ca.eval o).run P w = .ok (.value (.slice (some ⟨w.heap.size, 0, none⟩) b.size (grownCap w b.size 0 el))) (Lib.bytesWorld w el b) := by
            simp [execOp, ho, hqx, hrun]
          rw [this, Oper.upon_value]
          refine hK _ _ _ _ _ _ _ hq ?_ h1 h2
          have hlen : (rowsOfBytes b).length = b.size := by cases b; simp [rowsOfBytes, ByteArray.size]
          have hΦ : (fun d => if d = w.heap.size then some (Lib.bytesCells w el b) else Φ d) w.heap.size = some (Lib.bytesCells w el b) := by simp
          have hbs : b.size = b.data.size := by cases b; rfl
          have := VR.fs (ρ := ρ) (Φ := fun d => if d = w.heap.size then some (Lib.bytesCells w el b) else Φ d) (b := w.heap.size) (s := 0) (z := 1) (c := Lib.bytesCells w el b) (cap := grownCap w b.size 0 el) (els := rowsOfBytes b) hΦ (by rw [hlen]; exact grownCap_ge w b.size 0 el) (fun x hx => by
              simp only [rowsOfBytes, List.mem_map] at hx
              obtain ⟨a, _, rfl⟩ := hx; rfl) (by rw [hlen, hbs]; simp [Lib.bytesCells]) (fun i x j y v hx hy hv => by
              simp only [rowsOfBytes, List.getElem?_map] at hx
              have hi : i < b.data.toList.length := by
                rcases Nat.lt_or_ge i b.data.toList.length with hh | hh
                · exact hh
                · rw [List.getElem?_eq_none hh] at hx; cases hx
              rw [List.getElem?_eq_getElem hi] at hx
              cases hx
              have hi' : i < b.data.size := by simpa using hi
              cases j with
              | zero =>
                simp at hy
                subst hy
                rw [← hbs] at hi'
                simp [Lib.bytesCells, Array.getElem?_append, hi', hbs ▸ hi'] at hv
                subst hv
                exact .int _ _
              | succ j => simp at hy)
          rw [hlen] at this
          exact this
      · cases h
    · cases h
  · cases h

def intsOf : List AV → Option (List Int)
  | [] => some []
  | .int .u8 n :: l => (match intsOf l with
    | some r => some (n :: r)
    | none => none)
  | _ => none

def ones : List (List AV) → Option (List AV)
  | [] => some []
  | [x] :: l => (match ones l with
    | some r => some (x :: r)
    | none => none)
  | _ => none

/-- The cells of a slice whose elements have one cell each. -/
def acells1 (σ : Heap) (x : AV) : Option (List AV) :=
  match x with
  | .nils => some []
  | .sl _ _ 0 => some []
  | .sl i off (len + 1) => (match hget σ i with
    | some (.cells _ l) => (match Nat.ble (off + (len + 1)) l.length with
      | true => some ((l.drop off).take (len + 1))
      | false => none)
    | _ => none)
  | .fs els => ones els
  | _ => none

theorem ones_get : ∀ {els : List (List AV)} {l : List AV}, ones els = some l → l.length = els.length ∧ ∀ (i : Nat) (x : AV), l[i]? = some x → els[i]? = some [x] := by
  intro els
  induction els with
  | nil => intro l h; cases h; exact ⟨rfl, fun i x h => by simp at h⟩
  | cons r els ih =>
    intro l h
    unfold ones at h
    split at h
    · rename_i heq; cases heq
    · rename_i x els' heq
      cases heq
      split at h
      · rename_i m hm
        cases h
        obtain ⟨h1, h2⟩ := ih hm
        refine ⟨by simp [h1], fun i y hy => ?_⟩
        cases i with
        | zero => simp at hy; subst hy; rfl
        | succ i => exact h2 i y (by simpa using hy)
      · cases h
    · cases h

theorem acells1_sound {ρ : Ren} {Φ : Frz} {σ : Heap} {n : Nat} {w : World} (hR : Rel ρ Φ σ n w) {x : AV} {v : Value} (hv : VR ρ Φ x v) {l : List AV} (h : acells1 σ x = some l) :
    ∃ a cap, v = .slice a l.length cap ∧ (l.length = 0 ∨ ∃ ad c, a = some ad ∧ (loadCells ad l.length).run P w = .ok c w ∧ CR ρ Φ l c) := by
  cases hv with
  | nils => cases h; exact ⟨_, _, rfl, .inl rfl⟩
  | sl0 i off a => cases h; exact ⟨_, _, rfl, .inl rfl⟩
  | fs0 a cap => cases h; exact ⟨_, _, rfl, .inl rfl⟩
  | sl off hr hc hm =>
    rename_i i len cap L
    cases len with
    | zero => cases h; exact ⟨_, _, rfl, .inl rfl⟩
    | succ len =>
      simp only [acells1] at h
      split at h
      · rename_i z l0 hg
        split at h
        · rename_i hle
          cases h
          have hle := Nat.le_of_ble_eq_true hle
          obtain ⟨M, hM, h0, c, T, fr, hw, h2, h3, h4, h5⟩ := hR.heap i _ hg
          rw [hr] at hM; cases hM
          have hlen : ((l0.drop off).take (len + 1)).length = len + 1 := by simp; omega
          rw [hlen]
          refine ⟨_, _, rfl, .inr ⟨_, _, rfl, run_loadCells_block P w hw (by omega), ?_, fun j x v hx hv => ?_⟩⟩
          · rw [hlen]; simp; omega
          · rw [List.getElem?_take] at hx
            split at hx
            · rw [List.getElem?_drop] at hx
              rw [Array.getElem?_extract] at hv
              split at hv
              · refine h4 _ x v hx ?_
                rw [← hv]; congr 1; omega
              · cases hv
            · cases hx
        · cases h
      · cases h
  | fs hb hc hz hl hvv =>
    rename_i b s z cap c els
    obtain ⟨h1, h2⟩ := ones_get h
    rw [← h1]
    cases hl0 : l with
    | nil => exact ⟨_, _, rfl, .inl rfl⟩
    | cons y l' =>
      rw [← hl0]
      have hz1 : z = 1 := by
        have := h2 0 y (by rw [hl0]; rfl)
        exact (hz [y] (List.mem_of_getElem? this)).symm
      subst hz1
      obtain ⟨T, fr, hw⟩ := hR.frz _ _ hb
      refine ⟨_, _, rfl, .inr ⟨_, _, rfl, run_loadCells_block P w hw (by omega), ?_, fun j x v hx hv => ?_⟩⟩
      · simp; omega
      · rw [Array.getElem?_extract] at hv
        split at hv
        · exact hvv j [x] 0 x v (h2 j x hx) rfl (by rw [← hv]; congr 1; omega)
        · cases hv
  | _ => simp [acells1] at h

theorem intsOf_get {ρ : Ren} {Φ : Frz} : ∀ {l : List AV} {ns : List Int} {c : List Value}, intsOf l = some ns → l.length = c.length → (∀ (j : Nat) (x : AV) (v : Value), l[j]? = some x → c[j]? = some v → VR ρ Φ x v) → c = ns.map (Value.int .u8) := by
  intro l
  induction l with
  | nil =>
    intro ns c h hl _
    cases h
    cases c with
    | nil => rfl
    | cons v c => simp at hl
  | cons x l ih =>
    intro ns c h hl hv
    unfold intsOf at h
    split at h
    · rename_i heq; cases heq
    · rename_i n l' heq
      cases heq
      split at h
      · rename_i r hr
        cases h
        cases c with
        | nil => simp at hl
        | cons v c =>
          have h0 := hv 0 _ v rfl rfl
          cases h0
          have hc := ih (c := c) hr (by simpa using hl) (fun j x v hx hv' => hv (j + 1) x v (by simpa using hx) (by simpa using hv'))
          rw [hc]; rfl
      · cases h
    · cases h

def atoStr (TT : Types) (G : Globals) (e : Env) (σ : Heap) (o : Oper) : Option AV :=
  match o.op with
  | .convert s d x => match TT s, TT d, aeval G e x with
    | some { desc := .slice el, .. }, some { desc := .string, .. }, some v => (match TT el, acells1 σ v with
      | some { desc := .int .u8, .. }, some l => (match intsOf l with
        | some ns => some (.str ⟨(ns.map fun n => UInt8.ofNat n.toNat).toArray⟩)
        | none => none)
      | _, _ => none)
    | _, _, _ => none
  | _ => none

theorem foldl_push : ∀ (ns : List Int) (r : ByteArray), ns.foldl (fun r n => r.push (UInt8.ofNat n.toNat)) r = ⟨r.data ++ (ns.map fun n => UInt8.ofNat n.toNat).toArray⟩ := by
  intro ns
  induction ns with
  | nil => intro r; simp
  | cons n ns ih =>
    intro r
    rw [List.foldl_cons, ih]
    simp [ByteArray.push]

theorem OpOk.toStr (hT : TOk P TT) {o : Oper} {e : Env} {σ : Heap} {n : Nat} {y : AV} {Q : AV → Heap → Nat → Prop} (h : atoStr TT G e σ o = some y) (hq : Q y σ n) : OpOk P G o e σ n Q := by
  intro ρ Φ w ca K Qx hR hg he hK
  unfold atoStr at h
  split at h
  · rename_i s d x ho
    split at h
    · rename_i el _ _ _ _ _ _ _ _ v hs hd hx
      split at h
      · rename_i _ _ _ _ l hel hl
        split at h
        · rename_i ns hns
          cases h
          obtain ⟨a, cap, hva, hor⟩ := acells1_sound (P := P) hR (aeval_sound hg he hx) hl
          have hrun : (convert s d (ca.eval x)).run P w = .ok (.string ⟨(ns.map fun n => UInt8.ofNat n.toNat).toArray⟩) w := by
            rw [hva]
            rcases hor with h0 | ⟨ad, c, rfl, hlc, hcr⟩
            · have hln : l = [] := by simpa using h0
              subst hln
              cases hns
              exact Go.Proofs.run_convert_bytes_zero w s el (hT.und _ _ hs) (hT.und _ _ hel) a cap d (hT.und _ _ hd)
            · rw [run_convert_bytes_string w s d el _ _ _ (hT.und _ _ hs) (hT.und _ _ hel) (hT.und _ _ hd)]
              have hc := intsOf_get (c := c.toList) hns (hcr.1.trans Array.length_toList.symm) (fun j x v hx hv => hcr.2 j x v hx (by simpa using hv))
              have hc' : c = (ns.map (Value.int .u8)).toArray := by rw [← hc]
              rw [run_bytesToString w ad _ cap ns (by rw [hlc, hc']), foldl_push]
              simp
          unfold Oper.wp
          have : (execOp ca.eval o).run P w = .ok (.value (.string ⟨(ns.map fun n => UInt8.ofNat n.toNat).toArray⟩)) w := by
            simp [execOp, ho, hrun]
          rw [this, Oper.upon_value]
          exact hK _ _ _ _ _ _ _ hq (.str _) hR (Step.refl _ _ _ _)
        · cases h
      · cases h
    · cases h
  · cases h
end
end Go.Ma
