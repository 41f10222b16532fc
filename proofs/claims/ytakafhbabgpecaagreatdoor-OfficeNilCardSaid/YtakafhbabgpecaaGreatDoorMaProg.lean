/- The table of types and that of functions, out of the program itself. -/
import Derived.Test.YtakafhbabgpecaaGreatDoorMaEq
import Derived.Test.YtakafhbabgpecaaGreatDoorMaFast3
namespace Go.Ma
section
variable {P : Program}

def zeroFits (d : TypeDesc) (z : Value) : Bool :=
  match isAggD d, z with
  | true, .agg _ => true
  | true, _ => false
  | false, .agg _ => false
  | false, .tuple _ => false
  | false, _ => true

def eqOf (P : Program) (t : TypeId) (d : TypeDesc) (zs : List AV) : Bool :=
  match d with
  | .struct fs => flatF P fs.toList 0 zs && !P.stoodInHeld t && !P.eqGuardType P.depth t
  | _ => false

def ttOf (P : Program) (t : TypeId) : Option TI :=
  match P.info? t, P.underlying t with
  | some info, some d => (match info.zero with
    | some z => (match ofScalars z.cells.toList, zeroFits d z with
      | some zs, true => some { desc := d, size := info.size, bytes := info.bytes, zero := zs, eq := eqOf P t d zs }
      | _, _ => none)
    | none => none)
  | _, _ => none

theorem ttOf_some {t : TypeId} {i : TI} (h : ttOf P t = some i) : ∃ info z zs, P.info? t = some info ∧ info.zero = some z ∧ ofScalars z.cells.toList = some zs ∧ zeroFits i.desc z = true ∧ P.underlying t = some i.desc ∧
    i.size = info.size ∧ i.bytes = info.bytes ∧ i.zero = zs ∧ i.eq = eqOf P t i.desc zs := by
  unfold ttOf at h
  split at h
  · rename_i info d h1 h2
    split at h
    · rename_i z hz
      split at h
      · rename_i zs hzs hf
        cases h
        exact ⟨info, z, zs, h1, hz, hzs, hf, h2, rfl, rfl, rfl, rfl⟩
      · cases h
    · cases h
  · cases h

theorem run_typeInfo {t : TypeId} {info : TypeInfo} (h : P.info? t = some info) (w : World) : (typeInfo t).run P w = .ok info w := by
  simp [typeInfo, program, Sem.run, h]

theorem ttOf_ok (P : Program) : TOk P (ttOf P) where
  und := fun t i h => by obtain ⟨info, z, zs, h1, h2, h3, h4, h5, _⟩ := ttOf_some h; exact h5
  eqs := fun t i h he => by
    obtain ⟨info, z, zs, h1, h2, h3, h4, h5, h6, h7, h8, h9⟩ := ttOf_some h
    rw [h9] at he
    unfold eqOf at he
    split at he
    · rename_i fs hd
      simp only [Bool.and_eq_true] at he
      obtain ⟨⟨g1, g2⟩, g3⟩ := he
      intro xs ys b w hx hy hs hr
      rw [h8] at hs
      have hu : P.underlying t = some (.struct fs) := by rw [h5, hd]
      have hfo : P.fieldsOf t = fs := by simp [Program.fieldsOf, hu]
      refine ⟨fun op ox oy => run_eqGuard_agg w op t ox oy xs ys (by simpa using g3), fun d => ?_, fun e d => checkKey_flat hu g1 hs e (d + 7) w⟩
      rw [run_equalIn_struct w (d + 8) t xs ys (by rw [hfo]; exact hu) (by simpa using g2), hfo]
      exact eqFields_flat (d + 7) w fs.toList 0 zs _ _ b g1 rfl rfl hs hr
    · cases he
  size := fun t i h w => by
    obtain ⟨info, z, zs, h1, h2, h3, h4, h5, h6, h7, h8, h9⟩ := ttOf_some h
    simp [sizeOf, run_typeInfo h1, Result.andThen, h6]
  zero := fun t i h => by
    obtain ⟨info, z, zs, h1, h2, h3, h4, h5, h6, h7, h8, h9⟩ := ttOf_some h
    exact ⟨z, fun w => by simp [zeroValue, run_typeInfo h1, Result.andThen, h2], by rw [h8]; exact h3⟩
  bytes := fun t i h _ => by
    obtain ⟨info, z, zs, h1, h2, h3, h4, h5, h6, h7, h8, h9⟩ := ttOf_some h
    simp [h1, h7]
  zval := fun t i h z' hz' => by
    obtain ⟨info, z, zs, h1, h2, h3, h4, h5, h6, h7, h8, h9⟩ := ttOf_some h
    have hz : ∀ w, (zeroValue t).run P w = .ok z w := fun w => by simp [zeroValue, run_typeInfo h1, Result.andThen, h2]
    have hzz : z' = z := by
      have h1 := hz' default
      rw [hz default] at h1
      cases h1; rfl
    subst hzz
    unfold azero
    cases hd : isAggD i.desc with
    | true =>
      rw [if_pos rfl]
      simp only [zeroFits, hd] at h4
      split at h4
      · rename_i c _ 
        simp only [ofConst]
        have : ofScalars c.toList = some zs := h3
        rw [this, h8]; rfl
      · cases h4
      all_goals first
        | (rename_i hh _; cases hh; done)
        | (rename_i hh; cases hh; done)
        | (simp at *; done)
        | skip
    | false =>
      rw [if_neg (by simp)]
      simp only [zeroFits, hd] at h4
      cases z' with
      | agg c => simp at h4
      | tuple c => simp at h4
      | _ =>
        simp only [Value.cells, ofScalars] at h3
        simp only [ofConst]
        split at h3
        · rename_i x l hx hl
          cases h3
          cases hl
          rw [h8]
          exact hx
        · cases h3

def ctxOf (P : Program) (G : Globals) (md : Nat → Nat) : Ctx := { TT := ttOf P, G := G, X := extOf P, M := amethod P, md := md }

theorem ctxOf_ok {G : Globals} {md : Nat → Nat} (hm : P.follows .mixedOrders = true) : CtxOk P (ctxOf P G md) where
  tt := ttOf_ok P
  ext := fun _ _ h => extOf_ok h
  meth := fun _ _ _ h => h
  mixed := hm

def fnsOf (P : Program) (C : Ctx) (lf : Nat) (f : Nat) : Option CF :=
  match P.funcs[f]? with
  | some fn => (match fn.body, fn.name == "runtime.NumGoroutine" with
    | some c, false => some (cfun C lf fn c)
    | _, _ => none)
  | none => none

theorem fnsOf_ok {C : Ctx} {lf : Nat} : ∀ f cf, fnsOf P C lf f = some cf → ∃ fn c, FnOk P f fn c ∧ cf = cfun C lf fn c := by
  intro f cf h
  unfold fnsOf at h
  split at h
  · rename_i fn hfn
    split at h
    · rename_i c hc hn
      cases h
      exact ⟨fn, c, ⟨hfn, hc, hn⟩, rfl⟩
    · cases h
  · cases h
end
end Go.Ma
