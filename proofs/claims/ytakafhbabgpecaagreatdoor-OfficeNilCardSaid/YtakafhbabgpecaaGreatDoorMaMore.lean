/- Maps, type assertions, cap, slices of zeros. -/
import Derived.Test.YtakafhbabgpecaaGreatDoorMaCongr
import Derived.MapKept
namespace Go.Ma
section
variable {P : Program} {TT : Types} {G : Globals} {N n0 : Nat}

/-! ### Keys -/

def scalKey (d : TypeDesc) (k : AV) : Bool :=
  match d, k with
  | .int _, .int _ _ | .string, .str _ | .bool, .bool _ => true
  | _, _ => false

def keyOk (i : TI) (k : AV) : Bool :=
  match k with
  | .agg l => i.eq && Nat.beq l.length i.size && shapeA i.zero l && (scalsEq l l).isSome
  | k => scalKey i.desc k

def keyEq (i : TI) (k k' : AV) : Option Bool :=
  match k, k' with
  | .agg l, .agg m => if Nat.beq m.length i.size then scalsEq l m else none
  | .agg _, _ => none
  | k, k' => scalEq k k'

/-- Where the key is: its number in the list of entries, and the value. -/
def afind (i : TI) (k : AV) : List (AV × AV) → Nat → Option (Option (Nat × AV))
  | [], _ => some none
  | (k', v) :: r, j => match keyEq i k k' with
    | some true => some (some (j, v))
    | some false => afind i k r (j + 1)
    | none => none

/-- The entries of a map, as they stand in the model. -/
def MR (ρ : Ren) (Φ : Frz) (es : List (AV × AV)) (l : List MapEntry) : Prop :=
  es.length = l.length ∧ ∀ (j : Nat) (x : AV × AV) (e : MapEntry), es[j]? = some x → l[j]? = some e → VR ρ Φ x.1 e.key ∧ VR ρ Φ x.2 e.val

/-- What was found. -/
def FR (ρ : Ren) (Φ : Frz) : Option (Nat × AV) → Option (Nat × Value) → Prop
  | none, none => True
  | some (j, x), some (j', v) => j = j' ∧ VR ρ Φ x v
  | _, _ => False

theorem keyOk_eqs (hT : TOk P TT) {ρ : Ren} {Φ : Frz} {i : TI} {t : TypeId} (hi : TT t = some i) {l : List AV} (hk : keyOk i (.agg l) = true) {c : Array Value} (hl : l.length = c.size) (hv : ∀ (j : Nat) (x : AV) (v : Value), l[j]? = some x → c[j]? = some v → VR ρ Φ x v) :
    i.eq = true ∧ c.size = i.size ∧ (∃ b, scalsEqV c.toList c.toList = some b) ∧ shapeV i.zero c.toList = true := by
  simp only [keyOk, Bool.and_eq_true] at hk
  obtain ⟨⟨⟨h1, h2⟩, h2'⟩, h3⟩ := hk
  have h2 := Nat.eq_of_beq_eq_true h2
  obtain ⟨b, hb⟩ := Option.isSome_iff_exists.mp h3
  refine ⟨h1, by omega, ⟨b, scalsEq_V (by simpa using hl) (by simpa using hl) (fun j x v hx hv' => hv j x v hx (by simpa using hv')) (fun j x v hx hv' => hv j x v hx (by simpa using hv')) hb⟩, shape_V (by simpa using hl) (fun j x v hx hv' => hv j x v hx (by simpa using hv')) h2'⟩

theorem run_checkKey_a (hT : TOk P TT) {ρ : Ren} {Φ : Frz} {i : TI} {t : TypeId} (hi : TT t = some i) {k : AV} {kv : Value} (hk : keyOk i k = true) (hv : VR ρ Φ k kv) (e : Bool) (w : World) : (Instr.checkKey e 10000 t kv).run P w = .ok () w := by
  cases hv with
  | agg hl hvv =>
    obtain ⟨h1, h2, ⟨b, hb⟩, hsh⟩ := keyOk_eqs hT hi hk hl hvv
    exact (hT.eqs t i hi h1 _ _ b w h2 h2 hsh hb).2.2 e 9991
  | _ =>
    unfold Instr.checkKey
    simp only [Sem.run_bind, hT.run_und hi w, Result.andThen]
    simp only [keyOk, scalKey] at hk
    split at hk <;> simp_all

theorem findNow_scal {ρ : Ren} {Φ : Frz} {i : TI} {k : AV} {kv : Value} (hk : scalKey i.desc k = true) (hv : VR ρ Φ k kv) : ∀ {es : List (AV × AV)} {l : List MapEntry}, MR ρ Φ es l → ∀ {j : Nat} {r : Option (Nat × AV)},
    (∀ m, k ≠ .agg m) → afind i k es j = some r → ∃ r', Instr.findNow i.desc kv l j = some r' ∧ FR ρ Φ r r' := by
  intro es
  induction es with
  | nil =>
    intro l hm j r _ h
    cases l with
    | nil => cases h; exact ⟨none, rfl, trivial⟩
    | cons e l => simp [MR] at hm
  | cons x es ih =>
    intro l hm j r hna h
    cases l with
    | nil => simp [MR] at hm
    | cons e l =>
      obtain ⟨k', v⟩ := x
      obtain ⟨g1, g2⟩ := hm.2 0 (k', v) e rfl rfl
      have hm' : MR ρ Φ es l := ⟨by simpa using hm.1, fun j x e hx he => hm.2 (j + 1) x e (by simpa using hx) (by simpa using he)⟩
      have hsame : ∀ b, keyEq i k k' = some b → Instr.sameNow i.desc kv e.key = some b := fun b hb => by
        have hq : scalEq k k' = some b := by
          cases k <;> first | exact hb | exact absurd rfl (hna _)
        generalize hek : e.key = ek at g1
        cases hv <;> cases g1 <;> simp only [scalEq, reduceCtorEq] at hq <;> (simp only [scalKey] at hk; split at hk <;> simp_all [Instr.sameNow, ba_beq])
      simp only [afind] at h
      simp only [Instr.findNow]
      split at h
      · rename_i hb
        cases h
        rw [hsame true hb]
        exact ⟨_, rfl, rfl, g2⟩
      · rename_i hb
        rw [hsame false hb]
        exact ih hm' hna h
      · cases h

theorem findAsking_agg (hT : TOk P TT) {ρ : Ren} {Φ : Frz} {i : TI} {t : TypeId} (hi : TT t = some i) {m : List AV} {c : Array Value} (hk : keyOk i (.agg m) = true) (hl : m.length = c.size) (hvv : ∀ (j : Nat) (x : AV) (v : Value), m[j]? = some x → c[j]? = some v → VR ρ Φ x v) (w : World) :
    ∀ {es : List (AV × AV)} {l : List MapEntry}, MR ρ Φ es l → ∀ {j : Nat} {r : Option (Nat × AV)}, afind i (.agg m) es j = some r → ∃ r', (Instr.findAsking t (.agg c) l j).run P w = .ok r' w ∧ FR ρ Φ r r' := by
  obtain ⟨h1, h2, _, hsh⟩ := keyOk_eqs hT hi hk hl hvv
  intro es
  induction es with
  | nil =>
    intro l hm j r h
    cases l with
    | nil => cases h; exact ⟨none, rfl, trivial⟩
    | cons e l => simp [MR] at hm
  | cons x es ih =>
    intro l hm j r h
    cases l with
    | nil => simp [MR] at hm
    | cons e l =>
      obtain ⟨k', v⟩ := x
      obtain ⟨g1, g2⟩ := hm.2 0 (k', v) e rfl rfl
      have hm' : MR ρ Φ es l := ⟨by simpa using hm.1, fun j x e hx he => hm.2 (j + 1) x e (by simpa using hx) (by simpa using he)⟩
      have hsame : ∀ b, keyEq i (.agg m) k' = some b → (Op.equal t (.agg c) e.key).run P w = .ok b w := fun b hb => by
        cases k' with
        | agg m' =>
          simp only [keyEq] at hb
          split at hb
          · rename_i hsz
            have hsz := Nat.eq_of_beq_eq_true hsz
            generalize hek : e.key = ek at g1
            cases g1 with
            | agg hl' hv' =>
              have := scalsEq_V (hl.trans Array.length_toList.symm) (hl'.trans Array.length_toList.symm) (fun j x v hx hv => hvv j x v hx (by simpa using hv)) (fun j x v hx hv => hv' j x v hx (by simpa using hv)) hb
              exact (hT.eqs t i hi h1 _ _ b w h2 (by omega) hsh this).2.1 9991
          · cases hb
        | _ => simp [keyEq] at hb
      simp only [afind] at h
      simp only [Instr.findAsking]
      split at h
      · rename_i hb
        cases h
        exact ⟨some (j, e.val), by simp [Sem.run_bind, hsame true hb, Result.andThen], rfl, g2⟩
      · rename_i hb
        obtain ⟨r', k1, k2⟩ := ih hm' h
        exact ⟨r', by simp [Sem.run_bind, hsame false hb, Result.andThen, k1], k2⟩
      · cases h

theorem run_findKey_a (hT : TOk P TT) {ρ : Ren} {Φ : Frz} {i : TI} {t : TypeId} (hi : TT t = some i) {k : AV} {kv : Value} (hk : keyOk i k = true) (hv : VR ρ Φ k kv) (w : World) {es : List (AV × AV)} {l : List MapEntry} (hm : MR ρ Φ es l)
    {r : Option (Nat × AV)} (h : afind i k es 0 = some r) : ∃ r', (Instr.findKey t kv l).run P w = .ok r' w ∧ FR ρ Φ r r' := by
  have hu := hT.run_und hi w
  by_cases hag : ∃ m, k = .agg m
  · obtain ⟨m, rfl⟩ := hag
    cases hv with
    | agg hl hvv =>
      rename_i c
      cases l with
      | nil =>
        cases es with
        | nil => cases h; exact ⟨none, by simp [Instr.findKey, Sem.run_bind, hu, Result.andThen, Instr.findNow], trivial⟩
        | cons x es => simp [MR] at hm
      | cons e l =>
        obtain ⟨r', k1, k2⟩ := findAsking_agg hT hi hk hl hvv w hm h
        refine ⟨r', ?_, k2⟩
        have : Instr.findNow i.desc (.agg c) (e :: l) 0 = none := by
          simp only [Instr.findNow]
          have : Instr.sameNow i.desc (.agg c) e.key = none := by unfold Instr.sameNow; split <;> simp_all
          rw [this]
        simp [Instr.findKey, Sem.run_bind, hu, Result.andThen, this, k1]
  · have hna : ∀ m, k ≠ .agg m := fun m hm => hag ⟨m, hm⟩
    have hsk : scalKey i.desc k = true := by
      cases k <;> first | exact hk | exact absurd rfl (hna _)
    obtain ⟨r', k1, k2⟩ := findNow_scal hsk hv hm hna h
    exact ⟨r', by simp [Instr.findKey, Sem.run_bind, hu, Result.andThen, k1], k2⟩

/-! ### Looking up -/

def aentries (σ : Heap) (x : AV) : Option (List (AV × AV)) :=
  match x with
  | .nilm => some []
  | .map m => (match hget σ m with
    | some (.map es) => some es
    | _ => none)
  | _ => none

def lookR (c : Bool) (i : TI) : Option (Nat × AV) → AV
  | some (_, v) => if c then .tup [v, .bool true] else v
  | none => if c then .tup [azero i, .bool false] else azero i

def alook (TT : Types) (G : Globals) (e : Env) (σ : Heap) (o : Oper) : Option AV :=
  match o.op with
  | .lookup t x k c => match TT t, aeval G e x, aeval G e k with
    | some { desc := .map kt et, .. }, some xv, some kv => (match TT kt, TT et, aentries σ xv with
      | some ki, some ei, some es => (match keyOk ki kv, afind ki kv es 0 with
        | true, some r => some (lookR c ei r)
        | _, _ => none)
      | _, _, _ => none)
    | _, _, _ => none
  | _ => none

theorem aentries_sound {ρ : Ren} {Φ : Frz} {σ : Heap} {n : Nat} {w : World} (hR : Rel ρ Φ σ n w) {x : AV} {v : Value} (hv : VR ρ Φ x v) {es : List (AV × AV)} (h : aentries σ x = some es) :
    (v = .map none ∧ es = []) ∨ ∃ b es' clock, v = .map (some b) ∧ w.heap[b]? = some (.map es' clock) ∧ MR ρ Φ es es'.toList := by
  cases hv with
  | nilm => cases h; exact .inl ⟨rfl, rfl⟩
  | map hr =>
    simp only [aentries] at h
    split at h
    · rename_i es0 hg
      cases h
      obtain ⟨L, hb, es', clock, hw, hl, hh⟩ := hR.heap _ _ hg
      rw [hr] at hb
      cases hb
      exact .inr ⟨_, es', clock, rfl, hw, hl.trans Array.length_toList.symm, fun j x e hx he => hh j x e hx (by simpa using he)⟩
    · cases h
  | _ => simp [aentries] at h

theorem VR_azero (hT : TOk P TT) {t : TypeId} {i : TI} (hi : TT t = some i) (ρ : Ren) (Φ : Frz) : ∃ z, (∀ w, (zeroValue t).run P w = .ok z w) ∧ VR ρ Φ (azero i) z := by
  obtain ⟨z, hz, _⟩ := hT.zero t i hi
  exact ⟨z, hz, VR_ofConst ρ Φ (hT.zval t i hi z hz)⟩

theorem alook_run (hT : TOk P TT) {ρ : Ren} {Φ : Frz} {σ : Heap} {n : Nat} {w : World} (hR : Rel ρ Φ σ n w) {t kt et : TypeId} {ki ei : TI} (ht : P.underlying t = some (.map kt et)) (hk : TT kt = some ki) (he : TT et = some ei) {x k : AV} {xv kv : Value} (hx : VR ρ Φ x xv) (hkv : VR ρ Φ k kv)
    {es : List (AV × AV)} (hes : aentries σ x = some es) (hko : keyOk ki k = true) {r : Option (Nat × AV)} (hr : afind ki k es 0 = some r) (c : Bool) :
    ∃ u, (Instr.lookup t xv kv c).run P w = .ok u w ∧ VR ρ Φ (lookR c ei r) u := by
  have hpair : ∀ (a : AV) (v : Value) (b : Bool), VR ρ Φ a v → VR ρ Φ (.tup [a, .bool b]) (.tuple #[v, .bool b]) := fun a v b h => by
    refine .tup rfl fun j x u hx hu => ?_
    match j with
    | 0 => simp at hx hu; subst hx; subst hu; exact h
    | 1 => simp at hx hu; subst hx; subst hu; exact .bool b
    | j + 2 => simp at hx
  obtain ⟨z, hz, hvz⟩ := VR_azero hT he ρ Φ
  have hz' := hz w
  have hut := run_underlying (w := w) ht
  rcases aentries_sound hR hx hes with ⟨rfl, rfl⟩ | ⟨b, es', clock, rfl, hw, hm⟩
  · cases hr
    have hck := run_checkKey_a hT hk hko hkv true w
    obtain ⟨r', k1, k2⟩ := run_findKey_a hT hk hko hkv w (es := []) (l := []) ⟨rfl, fun j x e hx => by simp at hx⟩ rfl
    cases r' with
    | none => refine ⟨if c then .tuple #[z, .bool false] else z, by simp [Instr.lookup, hut, hck, k1, Result.andThen, hz'], ?_⟩; cases c <;> simp [lookR, hvz, hpair]
    | some p => exact k2.elim
  · have hck := run_checkKey_a hT hk hko hkv es'.isEmpty w
    obtain ⟨r', k1, k2⟩ := run_findKey_a hT hk hko hkv w hm hr
    have hgo := MapKept.run_getObj_map (P := P) hw
    cases r with
    | none =>
      cases r' with
      | none => refine ⟨if c then .tuple #[z, .bool false] else z, by simp [Instr.lookup, hut, hgo, hck, k1, Result.andThen, hz'], ?_⟩; cases c <;> simp [lookR, hvz, hpair]
      | some p => exact k2.elim
    | some p =>
      cases r' with
      | none => exact k2.elim
      | some q =>
        obtain ⟨j, a⟩ := p
        obtain ⟨j', v⟩ := q
        refine ⟨if c then .tuple #[v, .bool true] else v, by simp [Instr.lookup, hut, hgo, hck, k1, Result.andThen], ?_⟩
        cases c <;> simp [lookR, k2.2, hpair]

theorem OpOk.look (hT : TOk P TT) {o : Oper} {e : Env} {σ : Heap} {n : Nat} {y : AV} {Q : AV → Heap → Nat → Prop} (h : alook TT G e σ o = some y) (hq : Q y σ n) : OpOk P G o e σ n Q := by
  intro ρ Φ w ca K Qx hR hg he hK
  unfold alook at h
  split at h
  · rename_i t x k c ho
    split at h
    · rename_i kt et _ _ _ _ xv kv ht hx hk
      split at h
      · rename_i ki ei es hki hei hes
        have hvx := aeval_sound hg he hx
        have hvk := aeval_sound hg he hk
        split at h
        · rename_i r h1 h2
          cases h
          obtain ⟨u, g1, g2⟩ := alook_run hT hR (hT.und _ _ ht) hki hei hvx hvk hes h1 h2 c
          unfold Oper.wp
          have : (execOp ca.eval o).run P w = .ok (.value u) w := by
            simp [execOp, ho, g1]
          rw [this, Oper.upon_value]
          exact hK _ _ _ _ _ _ _ hq g2 hR (Step.refl _ _ _ _)
        · cases h
      · cases h
    · cases h
  · cases h

/-! ### Updating -/

theorem scalEqV_true {a b : Value} (h : scalEqV a b = some true) : a = b ∧ ∀ n, Instr.sameBits n a b = true := by
  unfold scalEqV at h
  split at h
  · split at h
    · rename_i hk
      subst hk
      simp only [Option.some.injEq, beq_iff_eq] at h
      subst h
      exact ⟨rfl, fun n => by cases n <;> simp [Instr.sameBits]⟩
    · cases h
  · rename_i a b
    have h : a.data.toList = b.data.toList := by simpa using h
    have : a = b := by cases a; cases b; simp at h; simpa using h
    subst this
    exact ⟨rfl, fun n => by cases n <;> simp [Instr.sameBits, ba_beq]⟩
  · simp only [Option.some.injEq, beq_iff_eq] at h
    subst h
    exact ⟨rfl, fun n => by cases n <;> simp [Instr.sameBits]⟩
  · cases h

theorem scalsEqV_true : ∀ {a b : List Value}, scalsEqV a b = some true → a = b ∧ ∀ n, ((a.zip b).all fun (x, y) => Instr.sameBits n x y) = true := by
  intro a
  induction a with
  | nil =>
    intro b h
    cases b with
    | nil => exact ⟨rfl, fun n => rfl⟩
    | cons y b => simp [scalsEqV] at h
  | cons x a ih =>
    intro b h
    cases b with
    | nil => simp [scalsEqV] at h
    | cons y b =>
      simp only [scalsEqV] at h
      split at h
      · rename_i p q hp hq
        simp only [Option.some.injEq, Bool.and_eq_true] at h
        obtain ⟨rfl, rfl⟩ := h
        obtain ⟨h1, h2⟩ := scalEqV_true hp
        obtain ⟨h3, h4⟩ := ih hq
        subst h1; subst h3
        exact ⟨rfl, fun n => by simp only [List.zip_cons_cons, List.all_cons, Bool.and_eq_true]; exact ⟨h2 n, h4 n⟩⟩
      · cases h

theorem keyEq_true {ρ : Ren} {Φ : Frz} {i : TI} {k k' : AV} {kv kv' : Value} (h1 : VR ρ Φ k kv) (h2 : VR ρ Φ k' kv') (h : keyEq i k k' = some true) : kv' = kv ∧ Instr.sameBits 10000 kv' kv = true := by
  by_cases hag : ∃ m, k = .agg m
  · obtain ⟨m, rfl⟩ := hag
    cases k' with
    | agg m' =>
      simp only [keyEq] at h
      split at h
      · cases h1 with
        | agg hl hv =>
          cases h2 with
          | agg hl' hv' =>
            rename_i c c'
            have := scalsEq_V (hl.trans Array.length_toList.symm) (hl'.trans Array.length_toList.symm) (fun j x v hx hv0 => hv j x v hx (by simpa using hv0)) (fun j x v hx hv0 => hv' j x v hx (by simpa using hv0)) h
            obtain ⟨g1, g2⟩ := scalsEqV_true this
            have : c = c' := by cases c; cases c'; simpa using g1
            subst this
            refine ⟨rfl, ?_⟩
            have := g2 9999
            simp only [Instr.sameBits, beq_self_eq_true, Bool.true_and]
            exact this
      · cases h
    | _ => simp [keyEq] at h
  · have hq : scalEq k k' = some true := by
      cases k <;> first | exact h | exact absurd ⟨_, rfl⟩ hag
    have := scalEq_V h1 h2 hq
    obtain ⟨g1, g2⟩ := scalEqV_true this
    subst g1
    exact ⟨rfl, g2 _⟩

theorem afind_some {i : TI} {k : AV} : ∀ {es : List (AV × AV)} {j0 j : Nat} {v : AV}, afind i k es j0 = some (some (j, v)) → ∃ k', j0 ≤ j ∧ es[j - j0]? = some (k', v) ∧ keyEq i k k' = some true := by
  intro es
  induction es with
  | nil => intro j0 j v h; simp [afind] at h
  | cons x es ih =>
    intro j0 j v h
    obtain ⟨k', v'⟩ := x
    simp only [afind] at h
    split at h
    · rename_i hk
      cases h
      exact ⟨k', Nat.le_refl _, by simp, hk⟩
    · obtain ⟨k'', h1, h2, h3⟩ := ih h
      refine ⟨k'', by omega, ?_, h3⟩
      rw [show j - j0 = (j - (j0 + 1)) + 1 by omega]
      simpa using h2
    · cases h

def amap (TT : Types) (G : Globals) (e : Env) (σ : Heap) (n : Nat) (o : Oper) : Option (AV × Heap × Nat) :=
  match o.op with
  | .mapUpdate t x k v => match TT t, aeval G e x, aeval G e k, aeval G e v with
    | some { desc := .map kt et, .. }, some (.map m), some kv, some vv => (match TT kt, hget σ m with
      | some ki, some (.map es) => (match keyOk ki kv, afind ki kv es 0 with
        | true, some (some (j, _)) => some (.tup [], hset σ m (.map (es.set j (kv, vv))), n)
        | true, some none => some (.tup [], hset σ m (.map (es ++ [(kv, vv)])), n)
        | _, _ => none)
      | _, _ => none)
    | _, _, _, _ => none
  | _ => none

theorem OpOk.mapUpdate (hT : TOk P TT) {o : Oper} {e : Env} {σ σ' : Heap} {n n' : Nat} {y : AV} {Q : AV → Heap → Nat → Prop} (h : amap TT G e σ n o = some (y, σ', n')) (hq : Q y σ' n') : OpOk P G o e σ n Q := by
  intro ρ Φ w ca K Qx hR hg he hK
  unfold amap at h
  split at h
  · rename_i t x k v ho
    split at h
    · rename_i kt et _ _ _ _ m kv vv ht hx hk hv
      split at h
      · rename_i ki es hki hgm
        have hvx := aeval_sound hg he hx
        have hvk := aeval_sound hg he hk
        have hvv := aeval_sound hg he hv
        have hut := run_underlying (w := w) (hT.und _ _ ht)
        generalize hqx : ca.eval x = qx at hvx
        cases hvx with
        | map hr =>
          rename_i L
          obtain ⟨M, hb, es', clock, hw, hl, hh⟩ := hR.heap _ _ hgm
          rw [hr] at hb
          cases hb
          have hm : MR ρ Φ es es'.toList := ⟨hl.trans Array.length_toList.symm, fun j x e hx he => hh j x e hx (by simpa using he)⟩
          have hgo := MapKept.run_getObj_map (P := P) hw
          have hlt : L.b < w.heap.size := lt_of_heap hw
          have fin : ∀ (es1 : List (AV × AV)) (es1' : Array MapEntry) (clock' : Nat), MR ρ Φ es1 es1'.toList → (Instr.mapUpdate t (.map (some L.b)) (ca.eval k) (ca.eval v)).run P w = .ok () { w with heap := w.heap.setIfInBounds L.b (.map es1' clock') } →
              y = .tup [] → σ' = hset σ m (.map es1) → n' = n → o.wp P ca w K Qx := fun es1 es1' clock' hm1 hrun hy hσ hn => by
            subst hy; subst hσ; subst hn
            obtain ⟨h2, h3⟩ := hR.turn (w' := { w with heap := w.heap.setIfInBounds L.b (.map es1' clock') }) (o' := .map es1) hgm hr (fun d hd => by simp [Array.getElem?_setIfInBounds, Ne.symm hd]) rfl rfl rfl (by simp)
              ⟨es1', clock', by simp [hlt], hm1.1.trans Array.length_toList, fun j x e hx he => hm1.2 j x e hx (by simpa using he)⟩
            unfold Oper.wp
            have : (execOp ca.eval o).run P w = .ok .skip { w with heap := w.heap.setIfInBounds L.b (.map es1' clock') } := by
              simp [execOp, ho, hqx, hrun]
            rw [this, Oper.upon_skip]
            exact hK _ _ _ _ _ _ _ hq (.tup rfl (fun j x v hx => by simp at hx)) h2 h3
          split at h
          · rename_i j a hko hf
            cases h
            have hck := run_checkKey_a hT hki hko hvk false w
            obtain ⟨r', k1, k2⟩ := run_findKey_a hT hki hko hvk w hm hf
            cases r' with
            | none => exact k2.elim
            | some q =>
              obtain ⟨j', v'⟩ := q
              obtain ⟨rfl, _⟩ := k2
              obtain ⟨k', _, hej, hke⟩ := afind_some hf
              simp only [Nat.sub_zero] at hej
              have hjl : j < es'.size := by
                have : j < es.length := by
                  rcases Nat.lt_or_ge j es.length with hh | hh
                  · exact hh
                  · rw [List.getElem?_eq_none hh] at hej; cases hej
                omega
              have hej' : es'[j]? = some es'[j] := by simp [hjl]
              obtain ⟨g1, g2⟩ := hh j _ _ hej hej'
              obtain ⟨q1, q2⟩ := keyEq_true hvk g1 hke
              refine fin (es.set j (kv, vv)) (es'.modify j fun e => { e with key := ca.eval k, val := ca.eval v }) clock ⟨by simp [hl], fun l x e hx he => ?_⟩ ?_ rfl rfl rfl
              · rw [List.getElem?_set] at hx
                simp only [Array.getElem?_toList, Array.getElem?_modify] at he
                by_cases hjl2 : j = l
                · subst hjl2
                  simp only [if_true] at hx
                  simp only [if_true, hej', Option.map_some, Option.some.injEq] at he
                  split at hx
                  · cases hx; subst he; exact ⟨hvk, hvv⟩
                  · cases hx
                · rw [if_neg hjl2] at hx
                  rw [if_neg hjl2] at he
                  exact hh l x e hx he
              · simp [Instr.mapUpdate, hut, hgo, hck, k1, Result.andThen, hej', Instr.keyThatStays, q2, MapKept.run_setObj_map _ hw]
          · rename_i hko hf
            cases h
            have hck := run_checkKey_a hT hki hko hvk false w
            obtain ⟨r', k1, k2⟩ := run_findKey_a hT hki hko hvk w hm hf
            cases r' with
            | some q => exact k2.elim
            | none =>
              refine fin (es ++ [(kv, vv)]) (es'.push { key := ca.eval k, val := ca.eval v, born := clock }) (clock + 1) ⟨by simp [hl], fun l x e hx he => ?_⟩ ?_ rfl rfl rfl
              · simp only [Array.toList_push] at he
                rcases Nat.lt_or_ge l es.length with hlt2 | hge
                · rw [List.getElem?_append_left hlt2] at hx
                  rw [List.getElem?_append_left (by simpa [← hl] using hlt2)] at he
                  exact hh l x e hx (by simpa using he)
                · rw [List.getElem?_append_right hge] at hx
                  rw [List.getElem?_append_right (by simpa [← hl] using hge)] at he
                  rw [hl] at hx
                  simp only [Array.length_toList] at he
                  cases hd : l - es'.size with
                  | zero => rw [hd] at hx he; simp at hx he; subst hx; subst he; exact ⟨hvk, hvv⟩
                  | succ d => rw [hd] at hx; simp at hx
              · simp [Instr.mapUpdate, hut, hgo, hck, k1, Result.andThen, MapKept.run_setObj_map _ hw]
          · cases h
      · cases h
    · cases h
  · cases h

/-! ### Type assertions, at a type that is no interface -/

def isIfaceD : TypeDesc → Bool
  | .interface _ => true
  | _ => false

def assertR (i : TI) (t : TypeId) (v : AV) (c : Bool) : Option AV :=
  match isIfaceD i.desc, v with
  | false, .iface u y => (match Nat.beq u t with
    | true => some (match c with | true => .tup [y, .bool true] | false => y)
    | false => (match c with | true => some (.tup [azero i, .bool false]) | false => none))
  | false, .niliface => (match c with | true => some (.tup [azero i, .bool false]) | false => none)
  | _, _ => none

def aassert (TT : Types) (G : Globals) (e : Env) (o : Oper) : Option AV :=
  match o.op with
  | .typeAssert x _ t c => match TT t, aeval G e x with
    | some i, some v => assertR i t v c
    | _, _ => none
  | _ => none

theorem VR_pair {ρ : Ren} {Φ : Frz} {a : AV} {v : Value} {b : Bool} (h : VR ρ Φ a v) : VR ρ Φ (.tup [a, .bool b]) (.tuple #[v, .bool b]) := by
  refine .tup rfl fun j x u hx hu => ?_
  match j with
  | 0 => simp at hx hu; subst hx; subst hu; exact h
  | 1 => simp at hx hu; subst hx; subst hu; exact .bool b
  | j + 2 => simp at hx

theorem aassert_run (hT : TOk P TT) {ρ : Ren} {Φ : Frz} (w : World) {t xt : TypeId} {i : TI} (hi : TT t = some i) {v y : AV} {xv : Value} {c : Bool} (hx : VR ρ Φ v xv)
    (h : assertR i t v c = some y) : ∃ u, (Instr.typeAssert xv xt t c).run P w = .ok u w ∧ VR ρ Φ y u := by
  obtain ⟨z, hz, hvz⟩ := VR_azero hT hi ρ Φ
  have hz' := hz w
  have hu := hT.run_und hi w
  unfold assertR at h
  split at h
  · rename_i u y0 hd
    cases hx with
    | iface hv =>
      rename_i v0
      have hcase : (Instr.typeAssert (.iface u v0) xt t c).run P w = (if u = t then (pure (if c then .tuple #[v0, .bool true] else v0) : Sem Value).run P w else (if c then (do pure (.tuple #[← zeroValue t, .bool false]) : Sem Value).run P w else (Instr.typeAssert (.iface u v0) xt t c).run P w)) := by
        simp only [Instr.typeAssert, Sem.run_bind, hu, Result.andThen]
        cases hdd : i.desc <;> first
          | (rw [hdd] at hd; simp [isIfaceD] at hd; done)
          | (simp only; by_cases hut : u = t <;> cases c <;> simp [hut, hz', Result.andThen])
      split at h
      · rename_i hb
        have hut := Nat.eq_of_beq_eq_true hb
        rw [if_pos hut] at hcase
        cases h
        cases c
        · exact ⟨_, hcase, hv⟩
        · exact ⟨_, hcase, VR_pair hv⟩
      · rename_i hb
        have hut : ¬ u = t := fun hh => by subst hh; simp at hb
        rw [if_neg hut] at hcase
        cases c
        · cases h
        · cases h
          refine ⟨_, hcase.trans ?_, VR_pair hvz⟩
          simp [hz', Result.andThen]
  · rename_i hd
    cases hx with
    | niliface =>
      cases c
      · cases h
      · cases h
        refine ⟨_, ?_, VR_pair hvz⟩
        simp only [Instr.typeAssert, Sem.run_bind, hu, Result.andThen]
        cases hdd : i.desc <;> first
          | (rw [hdd] at hd; simp [isIfaceD] at hd; done)
          | simp [hz', Result.andThen]
  · cases h

theorem OpOk.assert (hT : TOk P TT) {o : Oper} {e : Env} {σ : Heap} {n : Nat} {y : AV} {Q : AV → Heap → Nat → Prop} (h : aassert TT G e o = some y) (hq : Q y σ n) : OpOk P G o e σ n Q := by
  intro ρ Φ w ca K Qx hR hg he hK
  unfold aassert at h
  split at h
  · rename_i x xt t c ho
    split at h
    · rename_i i v hi hx
      obtain ⟨u, g1, g2⟩ := aassert_run (xt := xt) hT w hi (aeval_sound hg he hx) h
      unfold Oper.wp
      have : (execOp ca.eval o).run P w = .ok (.value u) w := by
        simp [execOp, ho, g1]
      rw [this, Oper.upon_value]
      exact hK _ _ _ _ _ _ _ hq g2 hR (Step.refl _ _ _ _)
    · cases h
  · cases h
end
end Go.Ma
