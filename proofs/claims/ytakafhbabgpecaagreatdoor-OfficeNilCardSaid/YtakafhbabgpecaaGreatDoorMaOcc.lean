/- occupied, by its contract. -/
import Derived.Test.YtakafhbabgpecaaGreatDoorMaJoin
namespace Go.Ma
open Go.RowKit
section
variable {P : Program} {C : Ctx}

/-- The cells that a slice's rows are, read in the world. -/
theorem asource_cells {ρ : Ren} {Φ : Frz} {σ : Heap} {n : Nat} {w : World} (hR : Rel ρ Φ σ n w) {x : AV} {v : Value} (hv : VR ρ Φ x v) {z m : Nat} {l : List AV} (h : asource σ z x = some (m, l)) (hns : ∀ s, x ≠ .str s) :
    ∃ a cap b o, v = .slice a m cap ∧ (0 < m → a = some ⟨b, o, none⟩ ∧ (∃ T c fr, w.heap[b]? = some (.cells c T fr))) ∧ (∀ j y, l[j]? = some y → j < m * z → ∃ u, w.cell? ⟨b, o + j, none⟩ = some u ∧ VR ρ Φ y u) := by
  unfold asource at h
  split at h
  · cases h
    cases hv
    exact ⟨none, 0, 0, 0, rfl, fun h => absurd h (Nat.lt_irrefl 0), fun j y hy => by simp at hy⟩
  · rename_i els
    split at h
    · rename_i hall
      cases h
      have hz : ∀ x ∈ els, x.length = z := fun x hx => by have := List.all_eq_true.1 hall x hx; simpa using this
      generalize hq : AV.fs els = q at hv
      cases hv with
      | fs0 a cap =>
        cases hq
        exact ⟨a, cap, 0, 0, rfl, fun h => absurd h (Nat.lt_irrefl 0), fun j y hy => by simp at hy⟩
      | fs hb hc hz' hl hval =>
        cases hq
        rename_i b s z' cap c
        obtain ⟨T, fr, hw⟩ := hR.frz _ _ hb
        refine ⟨_, cap, b, s, rfl, fun _ => ⟨rfl, T, c, fr, hw⟩, fun k y hy hk => ?_⟩
        obtain ⟨i, x, j, h1, h2, h3⟩ := flatten_back els hz k y hy
        have hzz : z' = z := (hz' x (List.mem_of_getElem? h1)).symm.trans (hz x (List.mem_of_getElem? h1))
        subst hzz
        have hlt : s + k < c.size := by omega
        obtain ⟨u, hu⟩ : ∃ u, c[s + k]? = some u := ⟨_, Array.getElem?_eq_getElem hlt⟩
        refine ⟨u, by simp only [World.cell?, hw]; exact hu, hval i x j y u h1 h2 (by rw [← hu]; congr 1; omega)⟩
      | _ => cases hq
    · cases h
  · rename_i i off len
    split at h
    · rename_i z' l' hg
      split at h
      · rename_i hc
        cases h
        obtain ⟨rfl, hc⟩ := hc
        cases hv with
        | sl _ hr hcap hmm =>
          rename_i cap L
          obtain ⟨L', h1, h2, c, T, fr, hw, hm, hsz, hval, hfr⟩ := hR.heap _ _ hg
          rw [hr] at h1
          obtain rfl : L = L' := by simpa using h1
          refine ⟨_, cap, L.b, L.s + off, rfl, fun _ => ⟨rfl, T, c, fr, hw⟩, fun k y hy hk => ?_⟩
          rw [List.getElem?_take, if_pos hk, List.getElem?_drop] at hy
          have hlt : L.s + (off + k) < c.size := by omega
          obtain ⟨u, hu⟩ : ∃ u, c[L.s + (off + k)]? = some u := ⟨_, Array.getElem?_eq_getElem hlt⟩
          exact ⟨u, by simp only [World.cell?, hw]; rw [Nat.add_assoc]; exact hu, hval (off + k) y u hy hu⟩
        | sl0 _ _ a =>
          exact ⟨a, 0, 0, 0, rfl, fun h => absurd h (Nat.lt_irrefl 0), fun j y hy hk => by simp at hk⟩
      · cases h
    · split at h
      · rename_i hlen
        cases h
        subst hlen
        cases hv with
        | sl _ hr hcap hmm => exact ⟨_, _, 0, 0, rfl, fun h => absurd h (Nat.lt_irrefl 0), fun j y hy => by simp at hy⟩
        | sl0 _ _ a => exact ⟨a, 0, 0, 0, rfl, fun h => absurd h (Nat.lt_irrefl 0), fun j y hy => by simp at hy⟩
      · cases h
  · rename_i s
    exact absurd rfl (hns s)
  · cases h

/-- Does a row of the book count? -/
def hit (site : ByteArray) (lo hi : Int) (v2 : Nat → ByteArray) (v1 v3 v6 : Nat → Int) (k : Nat) : Bool :=
  decide (v6 k < 0) && (decide (v1 k = 1) && (((v2 k).toList == site.toList) && (decide (lo ≤ v3 k) && decide (v3 k ≤ hi))))

/-- occupied at a program. -/
structure OccOk (P : Program) (f : FuncId) : Prop where
  fn : ∃ fn c, FnOk P f fn c
  run : ∀ (Bp po b off len cap : Nat) (_ : len ≤ 140737488351232) (v0 v2 : Nat → ByteArray) (v1 v3 v4 v5 v6 : Nat → Int) (site : ByteArray) (lo hi : Int)
    (w : World) (_ : Bp < w.heap.size) (_ : b < w.heap.size) (a : Option Addr) (_ : 0 < len → a = some ⟨b, off, none⟩) (_ : w.cell? ⟨Bp, po + 5, none⟩ = some (.slice a len cap))
    (_ : ∀ k, k < len → w.cell? ⟨b, off + k * 7, none⟩ = some (.string (v0 k))) (_ : ∀ k, k < len → w.cell? ⟨b, off + k * 7 + 1, none⟩ = some (.int .i64 (v1 k)))
    (_ : ∀ k, k < len → w.cell? ⟨b, off + k * 7 + 2, none⟩ = some (.string (v2 k))) (_ : ∀ k, k < len → w.cell? ⟨b, off + k * 7 + 3, none⟩ = some (.int .i64 (v3 k)))
    (_ : ∀ k, k < len → w.cell? ⟨b, off + k * 7 + 4, none⟩ = some (.int .i64 (v4 k))) (_ : ∀ k, k < len → w.cell? ⟨b, off + k * 7 + 5, none⟩ = some (.int .i64 (v5 k)))
    (_ : ∀ k, k < len → w.cell? ⟨b, off + k * 7 + 6, none⟩ = some (.int .i64 (v6 k))),
    Calls P f #[.pointer (some ⟨Bp, po, none⟩), .string site, .int .i64 lo, .int .i64 hi] w fun e w' => e = .returned (.bool ((List.range len).any (hit site lo hi v2 v1 v3 v6))) ∧ Below w.heap.size w w'

def occAny (site : List UInt8) (lo hi : Int) : Nat → List AV → Option Bool
  | 0, _ => some false
  | k + 1, .str _ :: .int .i64 st :: .str s :: .int .i64 lv :: .int .i64 _ :: .int .i64 _ :: .int .i64 to :: rest => match occAny site lo hi k rest with
    | some b => some ((decide (to < 0) && (decide (st = 1) && ((s.data.toList == site) && (decide (lo ≤ lv) && decide (lv ≤ hi))))) || b)
    | none => none
  | _, _ => none

def sAt (l : List AV) (i : Nat) : ByteArray := match l[i]? with
  | some (.str s) => s
  | _ => .empty
def iAt (l : List AV) (i : Nat) : Int := match l[i]? with
  | some (.int _ n) => n
  | _ => 0

theorem occAny_sound (site : ByteArray) (lo hi : Int) : ∀ (k : Nat) (l : List AV) (b : Bool), occAny site.data.toList lo hi k l = some b →
    b = (List.range k).any (hit site lo hi (fun j => sAt l (j * 7 + 2)) (fun j => iAt l (j * 7 + 1)) (fun j => iAt l (j * 7 + 3)) (fun j => iAt l (j * 7 + 6))) ∧
    ∀ j, j < k → l[j * 7]? = some (.str (sAt l (j * 7))) ∧ l[j * 7 + 1]? = some (.int .i64 (iAt l (j * 7 + 1))) ∧ l[j * 7 + 2]? = some (.str (sAt l (j * 7 + 2))) ∧ l[j * 7 + 3]? = some (.int .i64 (iAt l (j * 7 + 3))) ∧
      l[j * 7 + 4]? = some (.int .i64 (iAt l (j * 7 + 4))) ∧ l[j * 7 + 5]? = some (.int .i64 (iAt l (j * 7 + 5))) ∧ l[j * 7 + 6]? = some (.int .i64 (iAt l (j * 7 + 6))) := by
  intro k
  induction k with
  | zero => intro l b h; simp only [occAny, Option.some.injEq] at h; exact ⟨by simp [← h], fun j hj => absurd hj (Nat.not_lt_zero j)⟩
  | succ k ih =>
    intro l b h
    unfold occAny at h
    split at h
    · rename_i heq; cases heq
    · rename_i k' s0 st s2 lv n4 n5 to rest heq
      cases heq
      split at h
      · rename_i b' hb
        obtain ⟨h1, h2⟩ := ih _ _ hb
        cases h
        have sh : ∀ (j i : Nat), (AV.str s0 :: .int .i64 st :: .str s2 :: .int .i64 lv :: .int .i64 n4 :: .int .i64 n5 :: .int .i64 to :: rest)[(j + 1) * 7 + i]? = rest[j * 7 + i]? := fun j i => by
          rw [show (j + 1) * 7 + i = j * 7 + i + 7 by omega]; rfl
        refine ⟨?_, fun j hj => ?_⟩
        · rw [List.range_succ_eq_map, List.any_cons, List.any_map, h1]
          congr 1
          · simp only [hit, sAt, iAt]
            rw [ba_toList, ba_toList]
            simp
          · refine congrArg (fun f => List.any _ f) (funext fun j => ?_)
            have shS : ∀ (j i : Nat), sAt (AV.str s0 :: .int .i64 st :: .str s2 :: .int .i64 lv :: .int .i64 n4 :: .int .i64 n5 :: .int .i64 to :: rest) ((j + 1) * 7 + i) = sAt rest (j * 7 + i) := fun j i => by unfold sAt; rw [sh]
            have shI : ∀ (j i : Nat), iAt (AV.str s0 :: .int .i64 st :: .str s2 :: .int .i64 lv :: .int .i64 n4 :: .int .i64 n5 :: .int .i64 to :: rest) ((j + 1) * 7 + i) = iAt rest (j * 7 + i) := fun j i => by unfold iAt; rw [sh]
            simp only [hit, Function.comp, Nat.succ_eq_add_one, shS, shI]
        · cases j with
          | zero => exact ⟨rfl, rfl, rfl, rfl, rfl, rfl, rfl⟩
          | succ j =>
            have := h2 j (by omega)
            simp only [sAt, iAt, sh] at this ⊢
            have sh0 := sh j 0
            simp only [Nat.add_zero] at sh0
            simp only [sh0]
            exact this
      · cases h
    · cases h

/-- What is known of occupied. -/
def occBase (fo : Nat) : CallT := fun f r σ n => match Nat.beq f fo with
  | true => (match r with
    | [.ptr i off, .str site, .int .i64 lo, .int .i64 hi] => (match hget σ i with
      | some (.cells _ l) => (match l[off + 5]? with
        | some (.str _) => none
        | some st => (match asource σ 7 st with
          | some (k, c) => (match Nat.ble k 140737488351232 with
            | true => (match occAny site.data.toList lo hi k c with
              | some b => some (.bool b, σ, n)
              | none => none)
            | false => none)
          | none => none)
        | none => none)
      | _ => none)
    | _ => none)
  | false => none

theorem occBase_ok {fo : Nat} (hO : OccOk P fo) : CallOk P C (occBase fo) := by
  intro f args σ n v σ' n' h
  simp only [occBase] at h
  split at h
  · rename_i hf
    have hf := (beq_iff _ _).mp hf
    subst hf
    refine ⟨hO.fn, ?_⟩
    split at h
    · rename_i i off site lo hi
      split at h
      · rename_i z l hg
        split at h
        · cases h
        · rename_i st hns hst
          split at h
          · rename_i k c hs
            split at h
            · rename_i hle
              split at h
              · rename_i b hb
                cases h
                have hle := Nat.le_of_ble_eq_true hle
                obtain ⟨hbe, hrows⟩ := occAny_sound site lo hi _ _ _ hb
                intro ρ Φ w cargs hR hgl hc
                obtain ⟨h1, h2⟩ := hc
                have hs4 : cargs.size = 4 := by simpa using h1.symm
                obtain ⟨u0, u1, u2, u3, rfl⟩ : ∃ u0 u1 u2 u3, cargs = #[u0, u1, u2, u3] := by
                  obtain ⟨cl⟩ := cargs
                  match cl, hs4 with
                  | [a, b, c, d], _ => exact ⟨a, b, c, d, rfl⟩
                have hv0 := h2 0 _ u0 rfl rfl
                have hv1 := h2 1 _ u1 rfl rfl
                have hv2 := h2 2 _ u2 rfl rfl
                have hv3 := h2 3 _ u3 rfl rfl
                cases hv1; cases hv2; cases hv3
                cases hv0 with
                | ptr _ hr =>
                  rename_i L
                  obtain ⟨L', g1, g2, cc, T, fr, hw, hm, hsz, hval, hfr⟩ := hR.heap _ _ hg
                  rw [hr] at g1
                  obtain rfl : L = L' := by simpa using g1
                  have hlt : L.s + (off + 5) < cc.size := by
                    have : off + 5 < l.length := by
                      rcases Nat.lt_or_ge (off + 5) l.length with h | h
                      · exact h
                      · rw [List.getElem?_eq_none h] at hst; cases hst
                    omega
                  obtain ⟨u, hu⟩ : ∃ u, cc[L.s + (off + 5)]? = some u := ⟨_, Array.getElem?_eq_getElem hlt⟩
                  obtain ⟨a, cap, bb, o, rfl, ha, hcells⟩ := asource_cells hR (hval _ _ _ hst hu) hs (fun s e => hns s e)
                  have rd : ∀ (j : Nat) (y : AV), c[j]? = some y → j < k * 7 → ∃ u, w.cell? ⟨bb, o + j, none⟩ = some u ∧ VR ρ Φ y u := hcells
                  have rs : ∀ (j q : Nat), j < k → q < 7 → c[j * 7 + q]? = some (.str (sAt c (j * 7 + q))) → w.cell? ⟨bb, o + j * 7 + q, none⟩ = some (.string (sAt c (j * 7 + q))) := fun j q hj hq hc => by
                    obtain ⟨u, h1, h2⟩ := rd _ _ hc (by omega)
                    cases h2
                    rw [Nat.add_assoc]; exact h1
                  have ri : ∀ (j q : Nat), j < k → q < 7 → c[j * 7 + q]? = some (.int .i64 (iAt c (j * 7 + q))) → w.cell? ⟨bb, o + j * 7 + q, none⟩ = some (.int .i64 (iAt c (j * 7 + q))) := fun j q hj hq hc => by
                    obtain ⟨u, h1, h2⟩ := rd _ _ hc (by omega)
                    cases h2
                    rw [Nat.add_assoc]; exact h1
                  have hBp : L.b < w.heap.size := lt_of_heap hw
                  have hp : w.cell? ⟨L.b, L.s + off + 5, none⟩ = some (.slice a k cap) := by
                    simp only [World.cell?, hw]; rw [Nat.add_assoc]; exact hu
                  -- where there are no rows any block does
                  obtain ⟨b', o', ha', hb', hrow⟩ : ∃ b' o', (0 < k → a = some ⟨b', o', none⟩) ∧ b' < w.heap.size ∧ (0 < k → b' = bb ∧ o' = o) := by
                    rcases Nat.eq_zero_or_pos k with hk | hk
                    · exact ⟨L.b, 0, fun h => by omega, hBp, fun h => by omega⟩
                    · obtain ⟨e1, T1, c1, f1, e2⟩ := ha hk
                      exact ⟨bb, o, fun _ => e1, lt_of_heap e2, fun _ => ⟨rfl, rfl⟩⟩
                  refine (hO.run L.b (L.s + off) b' o' k cap hle (fun j => sAt c (j * 7)) (fun j => sAt c (j * 7 + 2)) (fun j => iAt c (j * 7 + 1)) (fun j => iAt c (j * 7 + 3)) (fun j => iAt c (j * 7 + 4)) (fun j => iAt c (j * 7 + 5)) (fun j => iAt c (j * 7 + 6))
                    site lo hi w hBp hb' a ha' hp ?_ ?_ ?_ ?_ ?_ ?_ ?_).mono ?_
                  · intro j hj; obtain ⟨rfl, rfl⟩ := hrow (by omega); exact rs j 0 hj (by omega) (hrows j hj).1
                  · intro j hj; obtain ⟨rfl, rfl⟩ := hrow (by omega); exact ri j 1 hj (by omega) (hrows j hj).2.1
                  · intro j hj; obtain ⟨rfl, rfl⟩ := hrow (by omega); exact rs j 2 hj (by omega) (hrows j hj).2.2.1
                  · intro j hj; obtain ⟨rfl, rfl⟩ := hrow (by omega); exact ri j 3 hj (by omega) (hrows j hj).2.2.2.1
                  · intro j hj; obtain ⟨rfl, rfl⟩ := hrow (by omega); exact ri j 4 hj (by omega) (hrows j hj).2.2.2.2.1
                  · intro j hj; obtain ⟨rfl, rfl⟩ := hrow (by omega); exact ri j 5 hj (by omega) (hrows j hj).2.2.2.2.2.1
                  · intro j hj; obtain ⟨rfl, rfl⟩ := hrow (by omega); exact ri j 6 hj (by omega) (hrows j hj).2.2.2.2.2.2
                  · rintro e w' ⟨rfl, hB⟩
                    exact ⟨_, _, _, ρ, Φ, _, rfl, ⟨rfl, rfl, rfl⟩, by rw [hbe]; exact .bool _, hR.below hB, Step.below ρ Φ σ hB⟩
              · cases h
            · cases h
          · cases h
        · cases h
      · cases h
    · cases h
  · cases h
end
end Go.Ma
