/- strings.Join, by its contract. -/
import Derived.Test.YtakafhbabgpecaaGreatDoorMaProg
import Derived.Below
import Derived.Lib.Join
namespace Go.Ma
open Go.RowKit
section
variable {P : Program} {C : Ctx}

/-- What stays below the heap's end: all that the heap's objects are, and the frozen rows. -/
theorem Rel.below {ρ : Ren} {Φ : Frz} {σ : Heap} {n : Nat} {w w' : World} (hR : Rel ρ Φ σ n w) (hB : Below w.heap.size w w') : Rel ρ Φ σ n w' where
  heap := fun i o hi => by
    obtain ⟨L, h1, h2⟩ := hR.heap i o hi
    exact ⟨L, h1, h2.mono (fun _ _ h => h) (fun _ _ h => h) (hB.block _ h2.lt)⟩
  inj := hR.inj
  dis := hR.dis
  frz := fun b c hb => by
    obtain ⟨T, fr, hw⟩ := hR.frz b c hb
    exact ⟨T, fr, by rw [hB.block b (lt_of_heap hw)]; exact hw⟩
  low := hR.low

theorem Step.below (ρ : Ren) (Φ : Frz) (σ : Heap) {w w' : World} (hB : Below w.heap.size w w') : Step ρ Φ σ w ρ Φ σ w' where
  ren := fun _ _ _ h => h
  frz := fun _ _ h => h
  os := hB.os
  tape := hB.tape
  output := hB.output
  size := hB.size
  frame := fun b hb _ => hB.block b hb
  own := fun b h => .inr h
  ownF := fun b c h => .inl ⟨c, h⟩
  keep := fun _ _ h => h

/-- strings.Join at a program: its two contracts. -/
structure JoinOk (P : Program) (f : FuncId) : Prop where
  fn : ∃ fn c, FnOk P f fn c
  jnone : ∀ (a : Option Addr) (c : Nat) (sep : ByteArray) (w : World), Calls P f #[.slice a 0 c, .string sep] w fun e w' => e = .returned (.string ⟨#[]⟩) ∧ w' = w
  jsome : ∀ (bk o c : Nat) (xs : List ByteArray) (sep : ByteArray) (w : World), (∀ (j : Nat) x, xs[j]? = some x → w.cell? ⟨bk, o + j, none⟩ = some (.string x)) → bk < w.heap.size → xs.length ≤ 140737488355328 → xs.length ≤ c →
    (Lib.join (xs.map (·.data.toList)) sep.data.toList).length ≤ 140737488355328 →
    Calls P f #[.slice (some ⟨bk, o, none⟩) xs.length c, .string sep] w fun e w' => e = .returned (.string ⟨(Lib.join (xs.map (·.data.toList)) sep.data.toList).toArray⟩) ∧ Below w.heap.size w w'

def strsOf : List AV → Option (List ByteArray)
  | [] => some []
  | .str s :: l => (match strsOf l with
    | some r => some (s :: r)
    | none => none)
  | _ => none

def joinL (sep : List UInt8) : List ByteArray → List UInt8
  | [] => []
  | [x] => x.data.toList
  | x :: y :: l => x.data.toList ++ (sep ++ joinL sep (y :: l))

theorem joinL_eq (sep : List UInt8) : ∀ (l : List ByteArray), joinL sep l = Lib.join (l.map (·.data.toList)) sep
  | [] => rfl
  | [x] => by simp [joinL, Lib.join_one]
  | x :: y :: l => by
    have ih := joinL_eq sep (y :: l)
    simp only [joinL, ih, List.map_cons, Lib.join_cons, Lib.joinTail, List.map_cons, List.flatten_cons]
    simp

theorem strsOf_get : ∀ {l : List AV} {xs : List ByteArray}, strsOf l = some xs → xs.length = l.length ∧ ∀ (j : Nat) (x : ByteArray), xs[j]? = some x → l[j]? = some (.str x) := by
  intro l
  induction l with
  | nil => intro xs h; cases h; exact ⟨rfl, fun j x h => by simp at h⟩
  | cons y l ih =>
    intro xs h
    cases y <;> simp only [strsOf, reduceCtorEq] at h
    split at h
    · rename_i r hr
      cases h
      obtain ⟨h1, h2⟩ := ih hr
      refine ⟨by simp [h1], fun j x hx => ?_⟩
      cases j with
      | zero => simp at hx; subst hx; rfl
      | succ j => exact h2 j x (by simpa using hx)
    · cases h

theorem strs_sound {ρ : Ren} {Φ : Frz} {σ : Heap} {n : Nat} {w : World} (hR : Rel ρ Φ σ n w) {x : AV} {v : Value} (hv : VR ρ Φ x v) {l : List AV} {xs : List ByteArray} (h : acells1 σ x = some l) (hs : strsOf l = some xs) :
    (∃ a c, v = .slice a 0 c ∧ xs = []) ∨ ∃ bk o c, v = .slice (some ⟨bk, o, none⟩) xs.length c ∧ xs.length ≤ c ∧ bk < w.heap.size ∧ ∀ (j : Nat) x, xs[j]? = some x → w.cell? ⟨bk, o + j, none⟩ = some (.string x) := by
  obtain ⟨hlen, hget⟩ := strsOf_get hs
  have nilc : l = [] → xs = [] := fun hl => by subst hl; simpa using hlen
  cases hv with
  | nils => cases h; exact .inl ⟨_, _, rfl, nilc rfl⟩
  | sl0 i off a => cases h; exact .inl ⟨_, _, rfl, nilc rfl⟩
  | fs0 a cap => cases h; exact .inl ⟨_, _, rfl, nilc rfl⟩
  | sl off hr hc hm =>
    rename_i i len cap L
    cases len with
    | zero => cases h; exact .inl ⟨_, _, rfl, nilc rfl⟩
    | succ len =>
      simp only [acells1] at h
      split at h
      · rename_i z l0 hg
        split at h
        · rename_i hle
          cases h
          have hle := Nat.le_of_ble_eq_true hle
          obtain ⟨M, hM, h0, c, T, fr, hw, h2, h3, h4, h5⟩ := hR.heap i _ hg
          rw [hr] at hM; cases hM
          have hll : ((l0.drop off).take (len + 1)).length = len + 1 := by simp; omega
          rw [hll] at hlen
          refine .inr ⟨_, _, _, by rw [hlen], by omega, lt_of_heap hw, fun j y hy => ?_⟩
          have hx := hget j y hy
          have hj : j < xs.length := by
            rcases Nat.lt_or_ge j xs.length with hh | hh
            · exact hh
            · simp [List.getElem?_eq_none hh] at hy
          rw [List.getElem?_take, if_pos (by omega), List.getElem?_drop] at hx
          have hjc : L.s + (off + j) < c.size := by omega
          obtain ⟨u, hu⟩ : ∃ u, c[L.s + (off + j)]? = some u := ⟨_, Array.getElem?_eq_getElem hjc⟩
          have hv := h4 (off + j) _ u hx hu
          cases hv
          simp only [World.cell?, hw]
          rw [Nat.add_assoc]
          exact hu
        · cases h
      · cases h
  | fs hb hc hz hl hvv =>
    rename_i b s z cap c els
    obtain ⟨h1, h2⟩ := ones_get h
    obtain ⟨T, fr, hw⟩ := hR.frz _ _ hb
    refine .inr ⟨_, _, _, by rw [hlen, h1], by omega, lt_of_heap hw, fun j y hy => ?_⟩
    have hx := h2 j _ (hget j y hy)
    have hz1 : z = 1 := (hz _ (List.mem_of_getElem? hx)).symm
    subst hz1
    have hj : j < els.length := by
      rcases Nat.lt_or_ge j els.length with hh | hh
      · exact hh
      · simp [List.getElem?_eq_none hh] at hx
    have hjc : s + j < c.size := by omega
    obtain ⟨u, hu⟩ : ∃ u, c[s + j]? = some u := ⟨_, Array.getElem?_eq_getElem hjc⟩
    have hv := hvv j _ 0 _ u hx rfl (by rw [← hu]; congr 1; omega)
    cases hv
    simp only [World.cell?, hw]
    exact hu
  | _ => simp [acells1] at h

/-- What is known of strings.Join. -/
def joinBase (fj : Nat) : CallT := fun f r σ n => match Nat.beq f fj with
  | true => (match r with
    | [x, .str sep] => (match acells1 σ x with
      | some l => (match strsOf l with
        | some xs => (match joinL sep.data.toList xs with
          | out => (match Nat.ble out.length 140737488355328, Nat.ble xs.length 140737488355328 with
            | true, true => some (.str ⟨out.toArray⟩, σ, n)
            | _, _ => none))
        | none => none)
      | none => none)
    | _ => none)
  | false => none

theorem joinBase_ok {fj : Nat} (hJ : JoinOk P fj) : CallOk P C (joinBase fj) := by
  intro f args σ n v σ' n' h
  simp only [joinBase] at h
  split at h
  · rename_i hf
    have hf := (beq_iff _ _).mp hf
    subst hf
    refine ⟨hJ.fn, ?_⟩
    split at h
    · rename_i x sep
      split at h
      · rename_i l hl
        split at h
        · rename_i xs hxs
          split at h
          · rename_i hle hn
            cases h
            have hle := Nat.le_of_ble_eq_true hle
            have hn := Nat.le_of_ble_eq_true hn
            intro ρ Φ w cargs hR hg hc
            obtain ⟨h1, h2⟩ := hc
            have hs2 : cargs.size = 2 := by simpa using h1.symm
            obtain ⟨u0, u1, rfl⟩ : ∃ u0 u1, cargs = #[u0, u1] := by
              obtain ⟨⟨cl⟩⟩ := cargs
              · simp at hs2
              · rename_i u cl
                match cl, hs2 with
                | [v], _ => exact ⟨u, v, rfl⟩
            have hv0 := h2 0 x u0 rfl rfl
            have hv1 := h2 1 (.str sep) u1 rfl rfl
            cases hv1
            have fin : ∀ (w' : World) (r : ByteArray), r = ⟨(joinL sep.data.toList xs).toArray⟩ → Below w.heap.size w w' → ∃ v σ' n' ρ' Φ' cv, (Ending.returned (.string r)) = .returned cv ∧ (v = .str ⟨(joinL sep.data.toList xs).toArray⟩ ∧ σ' = σ ∧ n' = n) ∧ VR ρ' Φ' v cv ∧ Rel ρ' Φ' σ' n' w' ∧ Step ρ Φ σ w ρ' Φ' σ' w' :=
              fun w' r hr hB => ⟨_, _, _, ρ, Φ, _, rfl, ⟨rfl, rfl, rfl⟩, by rw [hr]; exact .str _, hR.below hB, Step.below ρ Φ σ hB⟩
            rcases strs_sound hR hv0 hl hxs with ⟨a, c, rfl, hx0⟩ | ⟨bk, o, c, rfl, hcap, hbk, hcells⟩
            · subst hx0
              refine (hJ.jnone a c sep w).mono fun e w' ⟨he, hw⟩ => ?_
              subst he; subst hw
              exact fin _ _ rfl (Below.refl _ _)
            · refine (hJ.jsome bk o c xs sep w hcells hbk hn hcap (by rw [← joinL_eq]; exact hle)).mono fun e w' ⟨he, hB⟩ => ?_
              subst he
              exact fin _ _ (by rw [joinL_eq]) hB
          · cases h
        · cases h
      · cases h
    · cases h
  · cases h
end
end Go.Ma
