/- Calls whose arguments and result name no memory that is written: they leave every heap as it is. -/
import Derived.Test.YtakafhbabgpecaaGreatDoorMaConv
namespace Go.Ma
section
variable {P : Program} {TT : Types} {G : Globals} {N n0 : Nat}

/-- No id in it. -/
def free : Nat → AV → Bool
  | 0, _ => false
  | d + 1, v => match v with
    | .ptr _ _ => false
    | .map _ => false
    | .sl _ _ _ => false
    | .fp l _ => l.all (free d)
    | .agg l => l.all (free d)
    | .tup l => l.all (free d)
    | .fs els => els.all fun r => r.all (free d)
    | .fn _ a b => a.all (free d) && b.all (free d)
    | .iface _ x => free d x
    | _ => true

theorem free_VR {ρ ρ' : Ren} {Φ : Frz} : ∀ (d : Nat) (x : AV) (v : Value), free d x = true → VR ρ Φ x v → VR ρ' Φ x v := by
  intro d
  induction d with
  | zero => intro x v h; cases h
  | succ d ih =>
    intro x v h hv
    have hl : ∀ {l : List AV} {c : Array Value}, l.all (free d) = true → (∀ (j : Nat) (x : AV) (v : Value), l[j]? = some x → c[j]? = some v → VR ρ Φ x v) → ∀ (j : Nat) (x : AV) (v : Value), l[j]? = some x → c[j]? = some v → VR ρ' Φ x v :=
      fun h1 h2 j x v hx hv => ih x v (List.all_eq_true.mp h1 x (List.mem_of_getElem? hx)) (h2 j x v hx hv)
    cases hv with
    | bool b => exact .bool b
    | int k n => exact .int k n
    | str s => exact .str s
    | nilp => exact .nilp
    | nils => exact .nils
    | nilm => exact .nilm
    | nilf => exact .nilf
    | niliface => exact .niliface
    | ptr off h1 => simp [free] at h
    | sl off h1 h2 h3 => simp [free] at h
    | sl0 i off a => simp [free] at h
    | map h1 => simp [free] at h
    | fp off hb hlen hvv =>
      simp only [free] at h
      exact .fp off hb hlen fun j x v hx hv => ih x v (List.all_eq_true.mp h x (List.mem_of_getElem? hx)) (hvv j x v hx hv)
    | fs0 a cap => exact .fs0 a cap
    | fs hb hc hz hlen hvv =>
      simp only [free] at h
      exact .fs hb hc hz hlen fun i x j y v hx hy hv => ih y v (List.all_eq_true.mp (List.all_eq_true.mp h x (List.mem_of_getElem? hx)) y (List.mem_of_getElem? hy)) (hvv i x j y v hx hy hv)
    | fn h1 h2 hv1 hv2 =>
      simp only [free, Bool.and_eq_true] at h
      exact .fn h1 h2 (hl h.1 hv1) (hl h.2 hv2)
    | iface hx => exact .iface (ih _ _ (by simpa [free] using h) hx)
    | agg h1 h2 => exact .agg h1 (hl (by simpa [free] using h) h2)
    | tup h1 h2 => exact .tup h1 (hl (by simpa [free] using h) h2)

theorem ACalls.pureCall {f : FuncId} {args : List AV} {v : AV} (h : ACalls P G f args [] 0 (fun x _ _ => x = v)) (ha : args.all (free 40) = true) (hv : free 40 v = true) (σ : Heap) (n : Nat) :
    ACalls P G f args σ n (fun x s m => x = v ∧ s = σ ∧ m = n) := by
  intro ρ Φ w cargs hR hg hc
  have hR0 : Rel (fun _ => none) Φ [] 0 w := ⟨fun i o h => by simp [hget_nil] at h, fun i j o p L M h => by simp [hget_nil] at h, fun i o L h => by simp [hget_nil] at h, hR.frz, fun i L h => by cases h⟩
  have hc0 : CR (fun _ => none) Φ args cargs := ⟨hc.1, fun j x v hx hv => free_VR 40 x v (List.all_eq_true.mp ha x (List.mem_of_getElem? hx)) (hc.2 j x v hx hv)⟩
  refine (h _ Φ w cargs hR0 hg hc0).mono fun x w' ⟨u, σ', n', ρ', Φ', cv, h1, h2, h3, h4, h5⟩ => ?_
  subst h2
  have hno : ∀ b, ¬ Owns (fun _ => none) [] b := fun b ⟨i, o, L, h, _⟩ => by simp [hget_nil] at h
  have hfr : ∀ b, b < w.heap.size → w'.heap[b]? = w.heap[b]? := fun b hb => h5.frame b hb (hno b)
  refine ⟨u, σ, n, ρ, Φ', cv, h1, ⟨rfl, rfl, rfl⟩, free_VR 40 _ _ hv h3, ⟨?_, hR.inj, ?_, h4.frz, hR.low⟩, ⟨⟨fun _ _ _ h => h, h5.frz, h5.os, h5.tape, h5.output, h5.size, fun b hb _ => hfr b hb, fun b h => .inr h, ?_⟩, fun _ _ h => h⟩⟩
  · intro i o hi
    obtain ⟨L, g1, g2⟩ := hR.heap i o hi
    exact ⟨L, g1, g2.mono (fun _ _ h => h) h5.frz (hfr _ g2.lt)⟩
  · intro i o L hi hL
    cases hq : Φ' L.b with
    | none => rfl
    | some c =>
      rcases h5.ownF _ _ hq with ⟨d, hd⟩ | hge | ho
      · rw [hR.dis i o L hi hL] at hd; cases hd
      · have := hR.owns_lt ⟨i, o, L, hi, hL, rfl⟩; omega
      · exact (hno _ ho).elim
  · intro b c hb
    rcases h5.ownF _ _ hb with hd | hge | ho
    · exact .inl hd
    · exact .inr (.inl hge)
    · exact (hno _ ho).elim
end
end Go.Ma
