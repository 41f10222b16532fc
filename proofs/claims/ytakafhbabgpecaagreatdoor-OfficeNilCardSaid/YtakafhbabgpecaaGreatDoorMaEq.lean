/- Equality of structs and arrays whose parts are whole numbers, texts or Bools: out of the program. -/
import Derived.Test.YtakafhbabgpecaaGreatDoorMaFast3
import Derived.Laws.StructEq
namespace Go.Ma
section
variable {P : Program}

def fits (d : TypeDesc) (z : AV) : Bool :=
  match d, z with
  | .int _, .int _ _ => true
  | .string, .str _ => true
  | .bool, .bool _ => true
  | _, _ => false

/-- The fields from number i on, with the zero's cells from there. -/
def flatF (P : Program) : List Field → Nat → List AV → Bool
  | [], _, [] => true
  | f :: l, i, z :: zs => !(f.name == "_") && Nat.beq f.offset i && (match P.underlying f.type with
    | some d => fits d z
    | none => false) && flatF P l (i + 1) zs
  | _, _, _ => false

theorem part_scal {t : TypeId} {d : TypeDesc} {z : AV} (hu : P.underlying t = some d) (hf : fits d z = true) {c : Array Value} {i : Nat} {v : Value} (hv : c[i]? = some v) (w : World) : (part t c i).run P w = .ok v w := by
  have : (isAgg t).run P w = .ok false w := by
    simp only [isAgg, Sem.run_bind, run_underlying hu, Result.andThen]
    unfold fits at hf
    split at hf <;> first | rfl | cases hf
  simp [part, this, Result.andThen, hv]

theorem equalIn_scal {t : TypeId} {d : TypeDesc} {z : AV} (hu : P.underlying t = some d) (hf : fits d z = true) {zs : List AV} {a b : Value} {al : List Value} (hs : shapeV (z :: zs) (a :: al) = true) {r : Bool} (hr : scalEqV a b = some r) (n : Nat) (w : World) :
    (Op.equalIn (n + 1) t a b).run P w = .ok r w := by
  unfold fits at hf
  split at hf
  · cases a <;> simp only [shapeV, Bool.false_eq_true] at hs
    cases b <;> simp only [scalEqV, reduceCtorEq] at hr
    split at hr
    · rename_i hk
      subst hk
      cases hr
      exact run_equalIn_int w n t _ _ _ _ hu
    · cases hr
  · cases a <;> simp only [shapeV, Bool.false_eq_true] at hs
    cases b <;> simp only [scalEqV, reduceCtorEq] at hr
    cases hr
    rw [run_equalIn_string w n t _ _ hu, ba_toList, ba_toList]
  · cases a <;> simp only [shapeV, Bool.false_eq_true] at hs
    cases b <;> simp only [scalEqV, reduceCtorEq] at hr
    cases hr
    exact run_equalIn_bool' w n t _ _ hu
  · cases hf

theorem shapeV_tail {z : AV} {zs : List AV} {a : Value} {al : List Value} (h : shapeV (z :: zs) (a :: al) = true) : shapeV zs al = true := by
  unfold shapeV at h
  split at h <;> rename_i h1 h2
  · cases h1
  · cases h1; cases h2
    split at h
    · exact h
    · cases h
  · cases h1; cases h2; exact h
  · cases h1; cases h2; exact h
  · cases h

theorem eqFields_flat {xs ys : Array Value} (n : Nat) (w : World) : ∀ (fs : List Field) (i : Nat) (zs : List AV) (al bl : List Value) (r : Bool), flatF P fs i zs = true → xs.toList.drop i = al → ys.toList.drop i = bl → shapeV zs al = true → scalsEqV al bl = some r →
    (Op.eqFields (n + 1) xs ys fs).run P w = .ok r w := by
  intro fs
  induction fs with
  | nil =>
    intro i zs al bl r hf hx hy hs hr
    cases zs with
    | cons z zs => simp [flatF] at hf
    | nil =>
      cases al with
      | cons a al => simp [shapeV] at hs
      | nil =>
        cases bl with
        | cons b bl => simp [scalsEqV] at hr
        | nil => cases hr; simp [Op.eqFields]
  | cons f fs ih =>
    intro i zs al bl r hf hx hy hs hr
    cases zs with
    | nil => simp [flatF] at hf
    | cons z zs =>
      simp only [flatF, Bool.and_eq_true] at hf
      obtain ⟨⟨⟨h1, h2⟩, h3⟩, h4⟩ := hf
      have h2 := Nat.eq_of_beq_eq_true h2
      split at h3
      · rename_i d hu
        cases al with
        | nil => cases z <;> simp [shapeV] at hs
        | cons a al =>
          cases bl with
          | nil => simp [scalsEqV] at hr
          | cons b bl =>
            simp only [scalsEqV] at hr
            split at hr
            · rename_i p q hp hq
              cases hr
              have get : ∀ {c : Array Value} {v : Value} {l : List Value}, c.toList.drop i = v :: l → c[i]? = some v ∧ c.toList.drop (i + 1) = l := fun {c v l} h => by
                constructor
                · have : (c.toList.drop i)[0]? = some v := by rw [h]; rfl
                  rw [List.getElem?_drop] at this
                  simpa using this
                · have : (c.toList.drop i).drop 1 = l := by rw [h]; rfl
                  rw [List.drop_drop] at this
                  exact this
              obtain ⟨gx, gx'⟩ := get hx
              obtain ⟨gy, gy'⟩ := get hy
              have hn' : f.name ≠ "_" := by simpa using h1
              have ha := part_scal hu h3 gx w
              have hb := part_scal hu h3 gy w
              have he := equalIn_scal hu h3 hs hp n w
              have hrest := ih (i + 1) zs al bl q h4 gx' gy' (shapeV_tail hs) hq
              rw [Op.eqFields]
              simp only [if_pos hn', Sem.run_bind, h2, ha, hb, he, Result.andThen_ok]
              cases p
              · simp
              · simpa using hrest
            · cases hr
      · cases h3

theorem checkKey_scal {t : TypeId} {d : TypeDesc} {z : AV} (hu : P.underlying t = some d) (hf : fits d z = true) (e : Bool) (n : Nat) (v : Value) (w : World) : (Instr.checkKey e (n + 1) t v).run P w = .ok () w := by
  unfold Instr.checkKey
  simp only [Sem.run_bind, run_underlying hu, Result.andThen]
  unfold fits at hf
  split at hf <;> first | rfl | cases hf

theorem checkKey_flat {t : TypeId} {fs : Array Field} (hu : P.underlying t = some (.struct fs)) {xs : Array Value} {zs : List AV} (hf : flatF P fs.toList 0 zs = true) (hs : shapeV zs xs.toList = true) (e : Bool) (n : Nat) (w : World) :
    (Instr.checkKey e (n + 2) t (.agg xs)).run P w = .ok () w := by
  unfold Instr.checkKey
  simp only [Sem.run_bind, run_underlying hu, Result.andThen]
  rw [← Array.forIn_toList]
  have key : ∀ (fs : List Field) (i : Nat) (zs : List AV) (al : List Value), flatF P fs i zs = true → xs.toList.drop i = al → shapeV zs al = true →
      (forIn fs PUnit.unit fun f _ => (do
        if f.name ≠ "_" then Instr.checkKey e (n + 1) f.type (← part f.type xs f.offset)
        pure (ForInStep.yield PUnit.unit) : Sem (ForInStep PUnit))).run P w = .ok PUnit.unit w := by
    intro fs
    induction fs with
    | nil => intro i zs al hf hx hs; simp
    | cons f fs ih =>
      intro i zs al hf hx hs
      cases zs with
      | nil => simp [flatF] at hf
      | cons z zs =>
        simp only [flatF, Bool.and_eq_true] at hf
        obtain ⟨⟨⟨h1, h2⟩, h3⟩, h4⟩ := hf
        have h2 := Nat.eq_of_beq_eq_true h2
        split at h3
        · rename_i d hu
          cases al with
          | nil => cases z <;> simp [shapeV] at hs
          | cons a al =>
            have gx : xs[i]? = some a := by
              have : (xs.toList.drop i)[0]? = some a := by rw [hx]; rfl
              rw [List.getElem?_drop] at this
              simpa using this
            have gx' : xs.toList.drop (i + 1) = al := by
              have : (xs.toList.drop i).drop 1 = al := by rw [hx]; rfl
              rw [List.drop_drop] at this
              exact this
            have hn' : f.name ≠ "_" := by simpa using h1
            have ha := part_scal hu h3 gx w
            have hck := checkKey_scal hu h3 e n a w
            simp only [List.forIn_cons, Sem.run_bind, if_pos hn', h2, ha, hck, Result.andThen_ok, Sem.run_pure]
            exact ih (i + 1) zs al h4 gx' (shapeV_tail hs)
        · cases h3
  have := key fs.toList 0 zs xs.toList hf rfl hs
  simp at this ⊢
  rw [this]
end
end Go.Ma
