/- More operations: slices of arrays, make of slices, clear, copy, cap of nil. -/
import Derived.Test.YtakafhbabgpecaaGreatDoorMaConv
import Derived.Laws.MakeOwn
namespace Go.Ma
section
variable {P : Program} {TT : Types} {G : Globals} {N n0 : Nat}

/-! ### A slice of an array -/

def asliceA (TT : Types) (σ : Heap) (t : TypeId) (x : AV) (lo hi : Option AV) : Option AV :=
  match TT t, x with
  | some { desc := .array m e, .. }, .ptr i off => (match TT e, abounds m lo hi, hget σ i with
    | some ei, some (a, b), some (.cells z l) => (match Nat.beq z ei.size, Nat.ble (off + m * z) l.length with
      | true, true => some (.sl i (off + a * z) (b - a))
      | _, _ => none)
    | _, _, _ => none)
  | _, _ => none

def asl (TT : Types) (G : Globals) (e : Env) (σ : Heap) (o : Oper) : Option AV :=
  match o.op with
  | .slice t x lo hi none => match aeval G e x, aopt G e lo, aopt G e hi with
    | some v, some l, some h => asliceA TT σ t v l h
    | _, _, _ => none
  | _ => none

theorem OpOk.asl (hT : TOk P TT) {o : Oper} {e : Env} {σ : Heap} {n : Nat} {y : AV} {Q : AV → Heap → Nat → Prop} (h : asl TT G e σ o = some y) (hq : Q y σ n) : OpOk P G o e σ n Q := by
  intro ρ Φ w ca K Qx hR hg he hK
  unfold Ma.asl at h
  split at h
  · rename_i t x lo hi ho
    split at h
    · rename_i v l hh hv hl hhh
      have hvx := aeval_sound hg he hv
      obtain ⟨l1, l2⟩ := aopt_sound hg he hl
      obtain ⟨h1, h2⟩ := aopt_sound hg he hhh
      unfold asliceA at h
      split at h
      · rename_i m el _ _ _ _ i off ht
        split at h
        · rename_i ei a b z cs hei hab hgi
          split at h
          · rename_i hz hle
            cases h
            have hz := Nat.eq_of_beq_eq_true hz
            have hle := Nat.le_of_ble_eq_true hle
            subst hz
            obtain ⟨hb, g2, g3⟩ := abounds_sound (P := P) w (isS := false) (Nat.le_refl _) l1 l2 h1 h2 hab
            generalize hqx : ca.eval x = qx at hvx
            cases hvx with
            | ptr _ hr =>
              rename_i L
              obtain ⟨L', k1, k2, c, T, fr, hw, hm, hsz, _⟩ := hR.heap _ _ hgi
              rw [hr] at k1
              cases k1
              have hut := hT.run_und ht w
              unfold Oper.wp
              have : (execOp ca.eval o).run P w = .ok (.value (.slice (some (if m = a then ⟨L.b, L.s + off, none⟩ else (⟨L.b, L.s + off, none⟩ : Addr).add (a * ei.size))) (b - a) (m - a))) w := by
                simp [execOp, ho, Instr.sliceAt, hqx, hut, Instr.sureAddr, hb, hT.run_size hei]
              rw [this, Oper.upon_value]
              refine hK _ _ _ _ _ _ _ hq ?_ hR (Step.refl _ _ _ _)
              by_cases hma : m = a
              · rw [show b - a = 0 by omega, show m - a = 0 by omega]
                exact .sl0 _ _ _
              · rw [if_neg hma, addr_add, Nat.add_assoc]
                refine .sl _ hr (by omega) ?_
                have hmul : a * ei.size + (m - a) * ei.size = m * ei.size := by rw [← Nat.add_mul]; congr 1; omega
                rw [k2]
                omega
          · cases h
        · cases h
      · cases h
    · cases h
  · cases h

/-! ### make of a slice -/

def amake (TT : Types) (G : Globals) (e : Env) (n : Nat) (o : Oper) : Option (AV × AObj) :=
  match o.op with
  | .makeSlice t l c => match TT t, aeval G e l, aeval G e c with
    | some { desc := .slice el, .. }, some (.int .i64 k), some (.int .i64 m) => (match TT el with
      | some ei => if 0 ≤ k ∧ k ≤ m ∧ m * ei.bytes ≤ 70368744177664 ∧ m ≤ 70368744177664 ∧ ei.bytes ≠ 0 ∧ 0 < ei.zero.length then some (.sl n 0 k.toNat, .cells ei.size (azeros ei.zero (m.toNat * ei.size))) else none
      | none => none)
    | _, _, _ => none
  | _ => none

theorem OpOk.make (hT : TOk P TT) {o : Oper} {e : Env} {σ : Heap} {n : Nat} {y : AV} {p : AObj} {Q : AV → Heap → Nat → Prop} (h : amake TT G e n o = some (y, p)) (hq : Q y ((n, p) :: σ) (n + 1)) : OpOk P G o e σ n Q := by
  intro ρ Φ w ca K Qx hR hg he hK
  unfold amake at h
  split at h
  · rename_i t l c ho
    split at h
    · rename_i el _ _ _ _ k m ht hl hc
      split at h
      · rename_i ei hei
        split at h
        · rename_i hcond
          cases h
          obtain ⟨hk0, hkm, hmb, hms, hb0, hzl⟩ := hcond
          have hvl := aeval_sound hg he hl
          have hvc := aeval_sound hg he hc
          generalize hql : ca.eval l = ql at hvl
          generalize hqc : ca.eval c = qc at hvc
          cases hvl; cases hvc
          obtain ⟨zv, hzv, hzs⟩ := hT.zero el ei hei
          have hbi := hT.bytes el ei hei hb0
          cases hinfo : P.info? el with
          | none => simp [hinfo] at hbi
          | some f =>
            have hfb : f.bytes = ei.bytes := by simpa [hinfo] using hbi
            have hfz : f.zero = some zv := by
              cases hz : f.zero with
              | none => simp [zeroValue, typeInfo, hinfo, hz] at hzv
              | some z =>
                have := hzv w
                simp [zeroValue, typeInfo, hinfo, hz] at this
                rw [this]
            have hfs : f.size = ei.size := by
              have := hT.run_size hei w
              simp [sizeOf, typeInfo, hinfo] at this
              exact this
            have hmb' : (f.bytes : Int) * m ≤ 281474976710656 := by
              have : (f.bytes : Int) * m ≤ 70368744177664 := by rw [hfb, Int.mul_comm]; exact hmb
              omega
            have hut' := hT.und _ _ ht
            let cc : Array Value := madeCells zv.cells (m.toNat * ei.size)
            have hcr : CR ρ Φ (azeros ei.zero (m.toNat * ei.size)) cc := CR_zeros (CR_scalars hzs) _ (.inr hzl)
            have hccs : cc.size = m.toNat * ei.size := by rw [← hcr.1]; simp [azeros]
            have hrun : (execOp ca.eval o).run P w = .ok (.value (.slice (some ⟨w.heap.size, 0, none⟩) k.toNat m.toNat)) (w.alloc (.cells cc el)) := by
              have := run_make (P := P) w t el f zv hut' hinfo hfz .i64 .i64 k m hk0 hkm hmb' (by omega)
              simp only [execOp, ho, hql, hqc, Sem.run_bind, this, Result.andThen_ok, Sem.run_pure, hfs]
              rfl
            obtain ⟨h1, h2⟩ := hR.new (.cells cc el) (.cells ei.size (azeros ei.zero (m.toNat * ei.size))) ⟨w.heap.size, 0, cc.size, ei.size⟩ rfl (CR_new el hcr hR.low)
            unfold Oper.wp
            rw [hrun, Oper.upon_value]
            refine hK _ _ _ _ _ _ _ hq ?_ h1 h2
            have := VR.sl (ρ := upd ρ n ⟨w.heap.size, 0, cc.size, ei.size⟩) (Φ := Φ) (i := n) (L := ⟨w.heap.size, 0, cc.size, ei.size⟩) (len := k.toNat) (cap := m.toNat) 0 (by simp [upd]) (by omega) (by simp [hccs])
            simpa using this
        · cases h
      · cases h
    · cases h
  · cases h

/-! ### clear -/

def aclear (TT : Types) (G : Globals) (e : Env) (σ : Heap) (o : Oper) : Option (Option (Nat × AObj)) :=
  match o.op with
  | .call { callee := .builtin .clear, args, argTypes } => match args.toList, argTypes.toList with
    | [a], [t] => (match TT t, aeval G e a with
      | some { desc := .map _ _, .. }, some (.map m) => (match hget σ m with
        | some (.map _) => some (some (m, .map []))
        | _ => none)
      | some { desc := .slice _, .. }, some .nils => some none
      | some { desc := .slice _, .. }, some (.sl _ _ 0) => some none
      | some { desc := .slice el, .. }, some (.sl i off (len + 1)) => (match TT el, hget σ i with
        | some ei, some (.cells z l) => if ei.zero.length = ei.size ∧ off + (len + 1) * ei.size ≤ l.length ∧ (azeros ei.zero ((len + 1) * ei.size)).all AV.one = true ∧ 0 < ei.zero.length then some (some (i, .cells z (lputs l off (azeros ei.zero ((len + 1) * ei.size))))) else none
        | _, _ => none)
      | _, _ => none)
    | _, _ => none
  | _ => none

def clearH (σ : Heap) : Option (Nat × AObj) → Heap
  | none => σ
  | some (i, p) => hset σ i p

theorem OpOk.clear (hT : TOk P TT) {o : Oper} {e : Env} {σ : Heap} {n : Nat} {r : Option (Nat × AObj)} {Q : AV → Heap → Nat → Prop} (h : aclear TT G e σ o = some r) (hq : Q (.tup []) (clearH σ r) n) : OpOk P G o e σ n Q := by
  intro ρ Φ w ca K Qx hR hg he hK
  unfold aclear at h
  split at h
  · rename_i args argTypes ho
    split at h
    · rename_i a t hargs hts
      have hargs := toList_one hargs
      have hts := toList_one hts
      subst hargs; subst hts
      have hexec : ∀ r w', (Builtin.clear_ #[t] o.type #[ca.eval a]).run P w = .ok r w' → (execOp ca.eval o).run P w = .ok (.value r) w' := fun r w' hr => by
        simp [execOp, ho, resolve, invoke, builtin, hr]
      have same : σ = clearH σ r → (Builtin.clear_ #[t] o.type #[ca.eval a]).run P w = .ok (.tuple #[]) w → o.wp P ca w K Qx := fun hs hr => by
        unfold Oper.wp
        rw [hexec _ _ hr, Oper.upon_value]
        exact hK _ _ _ _ _ _ _ hq (.tup rfl (fun j x v hx => by simp at hx)) (by rw [← hs]; exact hR) (by rw [← hs]; exact Step.refl _ _ _ _)
      split at h
      · rename_i _ _ _ _ _ _ m ht hm
        split at h
        · rename_i es hgm
          cases h
          have hut := hT.run_und ht w
          have hvx := aeval_sound hg he hm
          generalize hqx : ca.eval a = qx at hvx hexec
          cases hvx with
          | map hr =>
            rename_i L
            obtain ⟨M, hb, es', clock, hw, hl, hh⟩ := hR.heap _ _ hgm
            rw [hr] at hb
            cases hb
            have hgo := MapKept.run_getObj_map (P := P) hw
            have hlt : L.b < w.heap.size := lt_of_heap hw
            obtain ⟨h2, h3⟩ := hR.turn (w' := { w with heap := w.heap.setIfInBounds L.b (.map #[] clock) }) (o' := .map []) hgm hr (fun d hd => by simp [Array.getElem?_setIfInBounds, Ne.symm hd]) rfl rfl rfl (by simp)
              ⟨#[], clock, by simp [hlt], rfl, fun j x e hx he => by simp at hx⟩
            unfold Oper.wp
            rw [hexec (.tuple #[]) { w with heap := w.heap.setIfInBounds L.b (.map #[] clock) } (by simp [Builtin.clear_, hut, hgo, MapKept.run_setObj_map _ hw]), Oper.upon_value]
            exact hK _ _ _ _ _ _ _ hq (.tup rfl (fun j x v hx => by simp at hx)) h2 h3
        · cases h
      · rename_i ht hm
        cases h
        have hut := hT.run_und ht w
        have hvx := aeval_sound hg he hm
        generalize hqx : ca.eval a = qx at hvx hexec same
        cases hvx
        exact same rfl (by simp [Builtin.clear_, hut])
      · rename_i ht hm
        cases h
        have hut := hT.run_und ht w
        have hvx := aeval_sound hg he hm
        generalize hqx : ca.eval a = qx at hvx hexec same
        cases hvx with
        | sl => exact same rfl (by simp [Builtin.clear_, hut])
        | sl0 _ _ ad => cases ad <;> exact same rfl (by simp [Builtin.clear_, hut])
      · rename_i el _ _ _ _ i off len ht hm
        split at h
        · rename_i ei z l hei hgi
          split at h
          · rename_i hcond
            cases h
            obtain ⟨hzl, hle, hone, hpos⟩ := hcond
            have hut := hT.run_und ht w
            have hvx := aeval_sound hg he hm
            generalize hqx : ca.eval a = qx at hvx hexec
            cases hvx with
            | sl _ hr hc hmm =>
              rename_i cap L
              obtain ⟨zv, hzv, hzs⟩ := hT.zero el ei hei
              have hzc := CR_scalars (ρ := ρ) (Φ := Φ) hzs
              have hzsz : zv.cells.size = ei.size := by rw [← hzc.1]; exact hzl
              have hcr : CR ρ Φ (azeros ei.zero ((len + 1) * ei.size)) (Builtin.zeroCells zv.cells (len + 1)) := by
                have := CR_zeros hzc ((len + 1) * ei.size) (.inr hpos)
                unfold Builtin.zeroCells
                rw [hzsz] at this ⊢
                exact this
              have hll : (azeros ei.zero ((len + 1) * ei.size)).length = (len + 1) * ei.size := by simp [azeros]
              obtain ⟨w', g1, g2, g3⟩ := Rel.sets (P := P) hR (o := off) (r := azeros ei.zero ((len + 1) * ei.size)) (vs := (Builtin.zeroCells zv.cells (len + 1)).toList) hgi hr (by rw [hll]; exact hle) (by simpa using hcr.1) hone (fun j y u hy hu => hcr.2 j y u hy (by simpa using hu))
              unfold Oper.wp
              rw [hexec (.tuple #[]) w' (by simp [Builtin.clear_, hut, hzv, g1]), Oper.upon_value]
              exact hK _ _ _ _ _ _ _ hq (.tup rfl (fun j x v hx => by simp at hx)) g2 g3
          · cases h
        · cases h
      · cases h
    · cases h
  · cases h

/-! ### cap of a nil slice -/

def acap (TT : Types) (G : Globals) (e : Env) (o : Oper) : Option AV :=
  match o.op with
  | .call { callee := .builtin .cap, args, argTypes } => match args.toList, argTypes.toList with
    | [a], [t] => (match TT t, aeval G e a with
      | some { desc := .slice _, .. }, some .nils => some (.int .i64 0)
      | _, _ => none)
    | _, _ => none
  | _ => none

theorem OpOk.cap (hT : TOk P TT) {o : Oper} {e : Env} {σ : Heap} {n : Nat} {y : AV} {Q : AV → Heap → Nat → Prop} (h : acap TT G e o = some y) (hq : Q y σ n) : OpOk P G o e σ n Q := by
  intro ρ Φ w ca K Qx hR hg he hK
  unfold acap at h
  split at h
  · rename_i args argTypes ho
    split at h
    · rename_i a t hargs hts
      have hargs := toList_one hargs
      have hts := toList_one hts
      subst hargs; subst hts
      split at h
      · rename_i ht hm
        cases h
        have hut := hT.run_und ht w
        have hvx := aeval_sound hg he hm
        generalize hqx : ca.eval a = qx at hvx
        cases hvx
        unfold Oper.wp
        have : (execOp ca.eval o).run P w = .ok (.value (.int .i64 0)) w := by
          simp [execOp, ho, resolve, invoke, builtin, hqx, Builtin.cap_, hut, goInt]
        rw [this, Oper.upon_value]
        exact hK _ _ _ _ _ _ _ hq (.int _ _) hR (Step.refl _ _ _ _)
      · cases h
    · cases h
  · cases h

/-! ### copy -/

def acopy (TT : Types) (G : Globals) (e : Env) (σ : Heap) (n : Nat) (o : Oper) : Option (AV × Heap × Nat) :=
  match o.op with
  | .call { callee := .builtin .copy, args, argTypes } => match args.toList, argTypes.toList with
    | [a, b], t :: _ => (match TT t, aeval G e a, aeval G e b with
      | some { desc := .slice el, .. }, some x, some y => (match TT el with
        | some ei => (match asource σ ei.size y, x with
          | some (0, _), .nils => some (.int .i64 0, σ, n)
          | some (m, new), .sl i off len => (match hget σ i with
            | some (.cells z l) => if m ≤ len ∧ off + m * ei.size ≤ l.length ∧ new.all AV.one = true then some (.int .i64 m, hset σ i (.cells z (lputs l off new)), n) else none
            | _ => none)
          | _, _ => none)
        | none => none)
      | _, _, _ => none)
    | _, _ => none
  | _ => none

theorem OpOk.copy (hT : TOk P TT) {o : Oper} {e : Env} {σ σ' : Heap} {n n' : Nat} {y : AV} {Q : AV → Heap → Nat → Prop} (h : acopy TT G e σ n o = some (y, σ', n')) (hq : Q y σ' n') : OpOk P G o e σ n Q := by
  intro ρ Φ w ca K Qx hR hg he hK
  unfold acopy at h
  split at h
  · rename_i args argTypes ho
    split at h
    · rename_i a b t ts hargs hts
      have hargs := toList_two hargs
      subst hargs
      have ht0 : argTypes[0]? = some t := by
        rw [← Array.getElem?_toList, hts]; rfl
      have hexec : ∀ r w', (Builtin.copy_ argTypes o.type #[ca.eval a, ca.eval b]).run P w = .ok r w' → (execOp ca.eval o).run P w = .ok (.value r) w' := fun r w' hr => by
        simp [execOp, ho, resolve, invoke, builtin, hr]
      split at h
      · rename_i el _ _ _ _ x yv ht hx hy
        split at h
        · rename_i ei hei
          have hut := hT.run_und ht w
          have hvx := aeval_sound hg he hx
          have hvy := aeval_sound hg he hy
          generalize ca.eval a = qa at hvx hexec
          generalize ca.eval b = qb at hvy hexec
          split at h
          · rename_i _ new hsrc
            cases h
            obtain ⟨c, hlen, hcells, hcr, hnl⟩ := asource_sound (P := P) hR hvy hsrc
            cases hvx
            have hc := hcells w.drawn
            unfold Oper.wp
            rw [hexec (.int .i64 0) w (by simp [Builtin.copy_, ht0, hut, hlen, hT.run_size hei, hc, goInt]), Oper.upon_value]
            exact hK _ _ _ _ _ _ _ hq (.int _ _) hR (Step.refl _ _ _ _)
          · rename_i m new i off len hsrc
            split at h
            · rename_i z l hgi
              split at h
              · rename_i hcond
                cases h
                obtain ⟨hml, hle, hone⟩ := hcond
                obtain ⟨c, hlen, hcells, hcr, hnl⟩ := asource_sound (P := P) hR hvy hsrc
                have hc := hcells w.drawn
                cases hvx with
                | sl _ hr hcap hmm =>
                  rename_i cap L
                  obtain ⟨w', g1, g2, g3⟩ := Rel.sets (P := P) hR (o := off) (r := new) (vs := c.toList) hgi hr (by rw [hnl]; exact hle) (by simpa using hcr.1) hone (fun j y u hy hu => hcr.2 j y u hy (by simpa using hu))
                  unfold Oper.wp
                  have hmin : Nat.min m len = m := Nat.min_eq_left hml
                  rw [hexec (.int .i64 m) w' (by simp [Builtin.copy_, ht0, hut, hlen, hT.run_size hei, hmin, hc, g1, goInt]), Oper.upon_value]
                  exact hK _ _ _ _ _ _ _ hq (.int _ _) g2 g3
                | sl0 _ _ ad =>
                  obtain rfl : m = 0 := by omega
                  have hn0 : new = [] := by simpa using hnl
                  subst hn0
                  have hc0 : c = #[] := by
                    have := hcr.1
                    apply Array.eq_empty_of_size_eq_zero
                    simpa using this.symm
                  subst hc0
                  have hh : HEq σ (hset σ i (.cells z (lputs l off []))) := fun j => by
                    rw [hget_hset]
                    by_cases hij : i = j
                    · subst hij; simp [lputs, hgi]
                    · simp [hij]
                  unfold Oper.wp
                  rw [hexec (.int .i64 0) w (by
                    have hmin : Nat.min 0 0 = 0 := rfl
                    cases ad <;> simp [Builtin.copy_, ht0, hut, hlen, hT.run_size hei, hmin, hc, storeCells, goInt]), Oper.upon_value]
                  exact hK _ _ _ _ _ _ _ hq (.int _ _) (hR.heq hh) ((Step.refl _ _ _ _).heqR hh)
              · cases h
            · cases h
          · cases h
        · cases h
      · cases h
    · cases h
  · cases h
end
end Go.Ma
