/- Operations that turn nothing in memory, fourth part. -/
import Derived.Test.YtakafhbabgpecaaGreatDoorMaOps3
namespace Go.Ma
section
variable {P : Program} {TT : Types}

def apart (TT : Types) (t : TypeId) (l : List AV) (off : Nat) : Option AV :=
  match TT t with
  | some i => if isAggD i.desc then (if off + i.size ≤ l.length then some (.agg ((l.drop off).take i.size)) else none) else l[off]?
  | none => none

theorem apart_sound (hT : TOk P TT) {ρ : Ren} {Φ : Frz} (w : World) {l : List AV} {c : Array Value} (hc : CR ρ Φ l c) {t : TypeId} {off : Nat} {y : AV} (h : apart TT t l off = some y) :
    ∃ u, (part t c off).run P w = .ok u w ∧ VR ρ Φ y u := by
  unfold apart at h
  split at h
  · rename_i i hi
    by_cases ha : isAggD i.desc = true
    · simp only [ha, if_true] at h
      split at h
      · rename_i hle
        cases h
        have h1 := hc.1
        refine ⟨.agg (c.extract off (off + i.size)), by simp [part, hT.run_isAgg hi, ha, hT.run_size hi], .agg (by simp; omega) fun j z u hz hu => ?_⟩
        rw [List.getElem?_take] at hz
        split at hz
        · rw [List.getElem?_drop] at hz
          rw [Array.getElem?_extract] at hu
          split at hu
          · exact hc.2 (off + j) z u hz hu
          · cases hu
        · cases hz
      · cases h
    · simp only [ha] at h
      have h1 := hc.1
      have h' : l[off]? = some y := by simpa using h
      have hlt : off < l.length := by
        rcases Nat.lt_or_ge off l.length with hh | hh
        · exact hh
        · simp [List.getElem?_eq_none hh] at h'
      have hcs : c[off]? = some c[off] := by simp
      exact ⟨c[off], by simp [part, hT.run_isAgg hi, ha, hcs], hc.2 off y _ h' hcs⟩
  · cases h

def afield (TT : Types) (t : TypeId) (f : Nat) (x : AV) : Option AV :=
  match TT t, x with
  | some { desc := .struct fs, .. }, .agg l => match fs[f]? with
    | some fd => apart TT fd.type l fd.offset
    | none => none
  | _, _ => none

theorem afield_sound (hT : TOk P TT) {ρ : Ren} {Φ : Frz} (w : World) {x y : AV} {v : Value} (hv : VR ρ Φ x v) {t : TypeId} {f : Nat} (h : afield TT t f x = some y) :
    ∃ u, (Instr.field t v f).run P w = .ok u w ∧ VR ρ Φ y u := by
  unfold afield at h
  split at h
  · rename_i fs sz by_ ze eq_ l hi
    split at h
    · rename_i fd hf
      cases hv with
      | agg h1 h2 =>
        obtain ⟨u, hu, hr⟩ := apart_sound hT w ⟨h1, h2⟩ h
        exact ⟨u, by simp [Instr.field, hT.run_und hi, hf, asAgg, hu], hr⟩
    · cases h
  · cases h

def aindex (TT : Types) (t : TypeId) (x ix : AV) : Option AV :=
  match TT t, x, ix with
  | some { desc := .array m e, .. }, .agg l, .int _ n => match TT e with
    | some ei => if 0 ≤ n ∧ n < m then apart TT e l (n.toNat * ei.size) else none
    | none => none
  | some { desc := .string, .. }, .str s, .int _ n => if 0 ≤ n then (match s[n.toNat]? with
    | some b => some (.int .u8 b.toNat)
    | none => none) else none
  | _, _, _ => none

theorem aindex_sound (hT : TOk P TT) {ρ : Ren} {Φ : Frz} (w : World) {x ix y : AV} {v vi : Value} (hv : VR ρ Φ x v) (hvi : VR ρ Φ ix vi) {t : TypeId} (h : aindex TT t x ix = some y) :
    ∃ u, (Instr.index t v vi).run P w = .ok u w ∧ VR ρ Φ y u := by
  unfold aindex at h
  split at h
  · rename_i m e sz by_ ze eq_ l k n hi
    cases hvi
    split at h
    · rename_i ei hei
      split at h
      · rename_i hn
        cases hv with
        | agg h1 h2 =>
          obtain ⟨u, hu, hr⟩ := apart_sound hT w ⟨h1, h2⟩ h
          exact ⟨u, by simp [Instr.index, asIntOf, hT.run_und hi, hn.1, hn.2, hT.run_size hei, hu], hr⟩
      · cases h
    · cases h
  · rename_i sz by_ ze eq_ s k n hi
    cases hvi; cases hv
    split at h
    · rename_i hn
      split at h
      · rename_i b hb
        cases h
        exact ⟨_, by simp only [Instr.index, asIntOf, Sem.run_bind, Sem.run_pure, Result.andThen_ok, hT.run_und hi, if_pos hn, hb], .int _ _⟩
      · cases h
    · cases h
  · cases h

def aunOp (op : UnOp) (x : AV) : Option AV :=
  match op, x with
  | .not, .bool b => some (.bool (!b))
  | .neg, .int k n => some (.int k (k.wrap (0 - n)))
  | _, _ => none

theorem aunOp_sound {ρ : Ren} {Φ : Frz} (w : World) {x y : AV} {v : Value} (hv : VR ρ Φ x v) {op : UnOp} (h : aunOp op x = some y) : ∃ u, (Op.unary op v).run P w = .ok u w ∧ VR ρ Φ y u := by
  unfold aunOp at h
  split at h
  · cases hv; cases h; exact ⟨_, rfl, .bool _⟩
  · cases hv; cases h; exact ⟨_, rfl, .int _ _⟩
  · cases h

/-- The bytes of a row. -/
def bytesOf : List (List AV) → Option (List UInt8)
  | [] => some []
  | [.int .u8 n] :: r => match bytesOf r with
    | some l => some (UInt8.ofNat n.toNat :: l)
    | none => none
  | _ => none

def aconvert (TT : Types) (src dst : TypeId) (x : AV) : Option AV :=
  match TT src, TT dst with
  | some _, some d => match d.desc, x with
    | .int k, .int _ n => some (.int k (k.wrap n))
    | .string, .str s => some (.str s)
    | _, _ => none
  | _, _ => none

theorem aconvert_sound (hT : TOk P TT) {ρ : Ren} {Φ : Frz} (w : World) {x y : AV} {v : Value} (hv : VR ρ Φ x v) {src dst : TypeId} (h : aconvert TT src dst x = some y) :
    ∃ u, (convert src dst v).run P w = .ok u w ∧ VR ρ Φ y u := by
  unfold aconvert at h
  split at h
  · rename_i i d hi hd
    have h1 := hT.run_und hi w
    have h2 := hT.run_und hd w
    split at h
    · rename_i hdd
      cases hv; cases h
      rw [hdd] at h2
      exact ⟨_, by simp [convert, h1, h2, Conv.intToInt], .int _ _⟩
    · rename_i hdd
      cases hv; cases h
      rw [hdd] at h2
      exact ⟨_, by simp [convert, h1, h2], .str _⟩
    · cases h
  · cases h

def alen (TT : Types) (σ : Heap) (t : TypeId) (x : AV) : Option AV :=
  match TT t with
  | some i => match i.desc, x with
    | .string, .str s => some (.int .i64 s.size)
    | .slice _, .nils => some (.int .i64 0)
    | .slice _, .fs els => some (.int .i64 els.length)
    | .slice _, .sl _ _ len => some (.int .i64 len)
    | .map _ _, .nilm => some (.int .i64 0)
    | .map _ _, .map m => match hget σ m with
      | some (.map es) => some (.int .i64 es.length)
      | _ => none
    | .array n _, _ => some (.int .i64 n)
    | _, _ => none
  | none => none

theorem alen_sound (hT : TOk P TT) {ρ : Ren} {Φ : Frz} {σ : Heap} {n : Nat} {w : World} (hR : Rel ρ Φ σ n w) {x y : AV} {v : Value} (hv : VR ρ Φ x v) {t ty : TypeId} (h : alen TT σ t x = some y) :
    ∃ u, (Builtin.len_ #[t] ty #[v]).run P w = .ok u w ∧ VR ρ Φ y u := by
  unfold alen at h
  split at h
  · rename_i i hi
    have h1 := hT.run_und hi w
    split at h
    · rename_i hd; cases hv; cases h; rw [hd] at h1
      exact ⟨_, by simp [Builtin.len_, h1, goInt], .int _ _⟩
    · rename_i hd; cases hv; cases h; rw [hd] at h1
      exact ⟨_, by simp [Builtin.len_, h1, goInt], .int _ _⟩
    · rename_i hd
      generalize hels : AV.fs _ = z at hv
      cases hv with
      | fs0 => cases hels; cases h; rw [hd] at h1; exact ⟨_, by simp [Builtin.len_, h1, goInt], .int _ _⟩
      | fs => cases hels; cases h; rw [hd] at h1; exact ⟨_, by simp [Builtin.len_, h1, goInt], .int _ _⟩
      | _ => cases hels
    · rename_i hd; cases h; rw [hd] at h1
      cases hv with
      | sl => exact ⟨_, by simp [Builtin.len_, h1, goInt], .int _ _⟩
      | sl0 => exact ⟨_, by simp [Builtin.len_, h1, goInt], .int _ _⟩
    · rename_i hd; cases hv; cases h; rw [hd] at h1
      exact ⟨_, by simp [Builtin.len_, h1, goInt], .int _ _⟩
    · rename_i hd
      split at h
      · rename_i es hg
        cases h
        cases hv with
        | map hr =>
          rename_i L0
          obtain ⟨L, hb, es', clock, hw, hl, _⟩ := hR.heap _ _ hg
          rw [hr] at hb
          cases hb
          rw [hd] at h1
          have hget : (getObj L0.b).run P w = .ok (.map es' clock) w := by simp [getObj, Sem.run, hw]
          exact ⟨_, by simp [Builtin.len_, h1, goInt, hget, ← hl], .int _ _⟩
      · cases h
    · rename_i hd; cases h; rw [hd] at h1
      exact ⟨_, by simp [Builtin.len_, h1, goInt], .int _ _⟩
    · cases h
  · cases h

/-- The bounds of a cut: from, to. -/
def abounds (len : Nat) (lo hi : Option AV) : Option (Nat × Nat) :=
  match lo, hi with
  | none, none => some (0, len)
  | some (.int _ a), none => if 0 ≤ a ∧ a ≤ len then some (a.toNat, len) else none
  | none, some (.int _ b) => if 0 ≤ b ∧ b ≤ len then some (0, b.toNat) else none
  | some (.int _ a), some (.int _ b) => if 0 ≤ a ∧ a ≤ b ∧ b ≤ len then some (a.toNat, b.toNat) else none
  | _, _ => none

def aslice (TT : Types) (σ : Heap) (t : TypeId) (x : AV) (lo hi : Option AV) : Option AV :=
  match TT t with
  | some i => match i.desc, x with
    | .string, .str s => match abounds s.size lo hi with
      | some (a, b) => some (.str (s.extract a b))
      | none => none
    | .slice e, .fs els => match TT e, abounds els.length lo hi with
      | some ei, some (a, b) => match (els.drop a).take (b - a) with
        | [] => some (.fs [])
        | l :: r => if l.length = ei.size then some (.fs (l :: r)) else none
      | _, _ => none
    | .slice e, .nils => match TT e, abounds 0 lo hi with
      | some _, some _ => some .nils
      | _, _ => none
    | .slice e, .sl j off len => match TT e, abounds len lo hi, hget σ j with
      | some ei, some (a, b), some (.cells z _) => if z = ei.size then some (.sl j (off + a * ei.size) (b - a)) else none
      | _, _, _ => none
    | _, _ => none
  | none => none

theorem abounds_sound {ρ : Ren} {Φ : Frz} (w : World) {isS : Bool} {len cap : Nat} (hc : len ≤ cap) {lo hi : Option AV} {vlo vhi : Option Value} (hlo : ∀ x, lo = some x → ∃ v, vlo = some v ∧ VR ρ Φ x v)
    (hlo' : lo = none → vlo = none) (hhi : ∀ x, hi = some x → ∃ v, vhi = some v ∧ VR ρ Φ x v) (hhi' : hi = none → vhi = none) {a b : Nat} (h : abounds len lo hi = some (a, b)) :
    (Instr.sliceBounds isS len cap vlo vhi none).run P w = .ok (a, b, cap) w ∧ a ≤ b ∧ b ≤ len := by
  unfold abounds at h
  split at h
  · cases h
    rw [hlo' rfl, hhi' rfl]
    exact ⟨by simp [Instr.sliceBounds], by omega, by omega⟩
  · split at h
    · rename_i k n hn
      cases h
      obtain ⟨v, rfl, hv⟩ := hlo _ rfl
      cases hv
      rw [hhi' rfl]
      refine ⟨?_, by omega, by omega⟩
      have : n ≤ (len : Int) := hn.2
      simp [Instr.sliceBounds, Instr.sliceBound, asIntOf, hn.1, this]
    · cases h
  · split at h
    · rename_i k n hn
      cases h
      obtain ⟨v, rfl, hv⟩ := hhi _ rfl
      cases hv
      rw [hlo' rfl]
      refine ⟨?_, by omega, by omega⟩
      have : n ≤ (cap : Int) := by omega
      simp [Instr.sliceBounds, Instr.sliceBound, asIntOf, hn.1, this]
    · cases h
  · split at h
    · rename_i k n k' m hn
      cases h
      obtain ⟨v, rfl, hv⟩ := hlo _ rfl
      cases hv
      obtain ⟨v, rfl, hv⟩ := hhi _ rfl
      cases hv
      refine ⟨?_, by omega, by omega⟩
      have h1 : m ≤ (cap : Int) := by omega
      have h2 : 0 ≤ m := by omega
      have h3 : n ≤ ((m.toNat : Nat) : Int) := by omega
      simp only [Instr.sliceBounds, Instr.sliceBound, asIntOf, Sem.run_bind, Sem.run_pure, Result.andThen_ok, if_pos (And.intro h2 h1), if_pos (And.intro hn.1 h3)]
    · cases h
  · cases h

theorem aslice_sound (hT : TOk P TT) {ρ : Ren} {Φ : Frz} {σ : Heap} {n : Nat} {w : World} (hR : Rel ρ Φ σ n w) {x y : AV} {v : Value} (hv : VR ρ Φ x v) {t : TypeId} {lo hi : Option AV} {vlo vhi : Option Value} (hlo : ∀ x, lo = some x → ∃ v, vlo = some v ∧ VR ρ Φ x v)
    (hlo' : lo = none → vlo = none) (hhi : ∀ x, hi = some x → ∃ v, vhi = some v ∧ VR ρ Φ x v) (hhi' : hi = none → vhi = none) (h : aslice TT σ t x lo hi = some y) :
    ∃ u, (Instr.sliceAt t v vlo vhi none).run P w = .ok u w ∧ VR ρ Φ y u := by
  unfold aslice at h
  split at h
  · rename_i i hi'
    have h1 := hT.run_und hi' w
    split at h
    · rename_i hd
      rw [hd] at h1
      split at h
      · rename_i a b hab
        cases h; cases hv
        obtain ⟨hb, h2, h3⟩ := abounds_sound (P := P) w (isS := false) (Nat.le_refl _) hlo hlo' hhi hhi' hab
        exact ⟨_, by simp [Instr.sliceAt, Instr.slice, h1, hb], .str _⟩
      · cases h
    · rename_i e els hd
      rw [hd] at h1
      split at h
      · rename_i ei a b hei hab
        generalize hz : AV.fs els = z at hv
        have run : ∀ (ad : Option Addr) (cap : Nat), els.length ≤ cap → (Instr.sliceAt t (.slice ad els.length cap) vlo vhi none).run P w =
            .ok (.slice (if cap = a then ad else ad.map (·.add (a * ei.size))) (b - a) (cap - a)) w ∧ a ≤ b ∧ b ≤ els.length := fun ad cap hcap => by
          obtain ⟨hb, h2, h3⟩ := abounds_sound (P := P) w (isS := true) hcap hlo hlo' hhi hhi' hab
          exact ⟨by simp [Instr.sliceAt, Instr.slice, h1, hb, hT.run_size hei], h2, h3⟩
        cases hv with
        | fs0 ad cap =>
          cases hz
          obtain ⟨hr, h2, h3⟩ := run ad cap (Nat.zero_le _)
          simp at h3
          subst h3
          have ha : a = 0 := by omega
          subst ha
          simp only [List.drop_nil, List.take_nil] at h
          cases h
          exact ⟨_, hr, by simp; exact .fs0 _ _⟩
        | fs hb hc hz' hl hval =>
          cases hz
          rename_i bb s z cap c
          obtain ⟨hr, h2, h3⟩ := run (some ⟨bb, s, none⟩) cap hc
          refine ⟨_, hr, ?_⟩
          cases hsub : (els.drop a).take (b - a) with
          | nil =>
            rw [hsub] at h
            cases h
            have : b - a = 0 := by
              have := congrArg List.length hsub
              simp at this; omega
            rw [this]; exact .fs0 _ _
          | cons l r =>
            rw [hsub] at h
            simp only at h
            split at h
            · rename_i hls
              cases h
              have hlen : (l :: r).length = b - a := by rw [← hsub]; simp; omega
              have hlt : a < b := by simp at hlen; omega
              have hl0 : els[a]? = some l := by
                have := congrArg (fun q => q[0]?) hsub
                simp only [List.getElem?_cons_zero] at this
                rw [List.getElem?_take, if_pos (by omega), List.getElem?_drop] at this
                simpa using this
              have hzz : z = ei.size := by rw [← hls]; exact (hz' l (List.mem_of_getElem? hl0)).symm
              subst hzz
              rw [if_neg (by omega), ← hlen]
              simp only [Option.map_some, addr_add]
              have hmul : a * ei.size + (b - a) * ei.size ≤ els.length * ei.size := by rw [← Nat.add_mul]; exact Nat.mul_le_mul_right _ (by omega)
              refine .fs hb (by omega) (fun x hx => hz' x ?_) (by rw [hlen]; omega) fun i' x' j y' u hx hy hu => ?_
              · rw [← hsub] at hx; exact List.mem_of_mem_drop (List.mem_of_mem_take hx)
              · rw [← hsub, List.getElem?_take] at hx
                split at hx
                · rw [List.getElem?_drop] at hx
                  refine hval (a + i') x' j y' u hx hy (by rw [← hu]; congr 1; rw [Nat.add_mul]; omega)
                · cases hx
            · cases h
        | _ => cases hz
      · cases h
    · rename_i hd
      rw [hd] at h1
      split at h
      · rename_i ei ab hei hab
        cases h; cases hv
        obtain ⟨a, b⟩ := ab
        obtain ⟨hb, h2, h3⟩ := abounds_sound (P := P) w (isS := true) (Nat.le_refl _) hlo hlo' hhi hhi' hab
        have hb0 : b = 0 := by omega
        have ha0 : a = 0 := by omega
        subst hb0; subst ha0
        exact ⟨_, by simp [Instr.sliceAt, Instr.slice, h1, hb, hT.run_size hei], .nils⟩
      · cases h
    · rename_i e j off len hd
      rw [hd] at h1
      split at h
      · rename_i ei a b z l hei hab hg
        split at h
        · rename_i hz
          cases h
          cases hv with
          | sl _ hr hc hm =>
            rename_i cap L
            obtain ⟨L', h2, h3, _⟩ := hR.heap _ _ hg
            rw [hr] at h2
            cases h2
            obtain ⟨hb, h4, h5⟩ := abounds_sound (P := P) w (isS := true) hc hlo hlo' hhi hhi' hab
            refine ⟨_, by simp [Instr.sliceAt, Instr.slice, h1, hb, hT.run_size hei]; rfl, ?_⟩
            by_cases hca : cap = a
            · rw [if_pos hca]
              have : b - a = 0 := by omega
              rw [this, show cap - a = 0 by omega]
              exact .sl0 _ _ _
            · rw [if_neg hca]
              simp only [addr_add, Nat.add_assoc]
              refine .sl _ hr (by omega) ?_
              have hmul : a * L.z + (cap - a) * L.z = cap * L.z := by rw [← Nat.add_mul]; congr 1; omega
              rw [h3, hz] at hmul hm ⊢
              omega
          | sl0 _ _ ad =>
            obtain ⟨hb, h2, h3⟩ := abounds_sound (P := P) w (isS := true) (Nat.le_refl 0) hlo hlo' hhi hhi' hab
            have hb0 : b = 0 := by omega
            have ha0 : a = 0 := by omega
            subst hb0; subst ha0
            exact ⟨.slice ad 0 0, by simp [Instr.sliceAt, Instr.slice, h1, hb, hT.run_size hei], .sl0 _ _ _⟩
        · cases h
      · cases h
    · cases h
  · cases h
end
end Go.Ma
