/- Operations that turn nothing in memory: all of them as one function, 'apure'. -/
import Derived.Test.YtakafhbabgpecaaGreatDoorMaOps4
namespace Go.Ma
section
variable {P : Program} {TT : Types}

def amin2 (x y : AV) : Option AV :=
  match x, y with
  | .int k a, .int k' b => if k = k' then some (.int k (if b < a then b else a)) else none
  | _, _ => none

def amax2 (x y : AV) : Option AV :=
  match x, y with
  | .int k a, .int k' b => if k = k' then some (.int k (if b > a then b else a)) else none
  | _, _ => none

def places (TT : Types) (fs : Array Field) (i : Nat) : Option (Nat × Nat) :=
  match fs[i]? with
  | some f => match TT f.type with
    | some ti => some (f.offset, ti.size)
    | none => none
  | none => none

def abuild (TT : Types) (t : TypeId) (ps : List (Nat × AV)) : Option AV :=
  match TT t with
  | some i => match i.desc with
    | .struct fs => if fs.toList.all (fun f => (TT f.type).isSome) then (afill (places TT fs) i.zero ps).map .agg else none
    | .array _ e => match TT e with
      | some ei => (afill (fun j => some (j * ei.size, ei.size)) i.zero ps).map .agg
      | none => none
    | _ => none
  | none => none

theorem run_mapM_list {α β : Type} (g : α → Sem β) (h : α → β) (w : World) : ∀ (l : List α), (∀ a ∈ l, (g a).run P w = .ok (h a) w) → (l.mapM g).run P w = .ok (l.map h) w := by
  intro l
  induction l with
  | nil => intro _; simp
  | cons a l ih =>
    intro hg
    rw [List.mapM_cons]
    simp [hg a (by simp), ih (fun b hb => hg b (by simp [hb]))]

theorem run_mapM_array {α β : Type} (g : α → Sem β) (h : α → β) (w : World) (c : Array α) (hg : ∀ a ∈ c.toList, (g a).run P w = .ok (h a) w) : (c.mapM g).run P w = .ok (c.map h) w := by
  rw [Array.mapM_eq_mapM_toList]
  rw [Sem.run_map, run_mapM_list g h w c.toList hg]
  simp only [Result.andThen_ok]
  congr 1
  apply Array.ext'
  simp

theorem afill_congr {p q : Nat → Option (Nat × Nat)} (h : ∀ i, p i = q i) : ∀ (c : Array Value) (vs : List (Nat × Value)), Instr.fill p c vs = Instr.fill q c vs := by
  have : p = q := funext h
  subst this
  intros; rfl

theorem abuild_sound (hT : TOk P TT) {ρ : Ren} {Φ : Frz} (w : World) {t : TypeId} {ps : List (Nat × AV)} {vs : Array (Nat × Value)} (hl : ps.length = vs.size)
    (hv : ∀ (j : Nat) (p : Nat × AV) (q : Nat × Value), ps[j]? = some p → vs[j]? = some q → p.1 = q.1 ∧ VR ρ Φ p.2 q.2) {y : AV} (h : abuild TT t ps = some y) :
    ∃ u, (Instr.build t vs).run P w = .ok u w ∧ VR ρ Φ y u := by
  unfold abuild at h
  split at h
  · rename_i i hi
    obtain ⟨z, hz, hzs⟩ := hT.run_zero hi w
    have hzc : CR ρ Φ i.zero z.cells := CR_scalars hzs
    have h1 := hT.run_und hi w
    split at h
    · rename_i fs hd
      rw [hd] at h1
      split at h
      · rename_i hall
        cases hf : afill (places TT fs) i.zero ps with
        | none => simp [hf] at h
        | some m =>
          simp only [hf, Option.map_some, Option.some.injEq] at h
          subst h
          obtain ⟨d, hd1, hd2⟩ := afill_sound (vs := vs.toList) (by simpa using hl) (fun j p q hp hq => hv j p q hp (by simpa using hq)) hzc hf
          let g : Field → Nat × Nat := fun f => (f.offset, ((TT f.type).getD default).size)
          have hmap : (fs.mapM fun (f : Field) => (do pure (f.offset, ← sizeOf f.type) : Sem (Nat × Nat))).run P w = .ok (fs.map g) w :=
            run_mapM_array _ g w fs fun f hf => by
              have := List.all_eq_true.1 hall f hf
              cases ht : TT f.type with
              | none => simp [ht] at this
              | some ti => simp [hT.run_size ht, g, ht]
          have hpl : ∀ i, (fs.map g)[i]? = places TT fs i := fun i => by
            simp only [Array.getElem?_map, places]
            cases hfi : fs[i]? with
            | none => simp
            | some f =>
              have : f ∈ fs.toList := by
                have := Array.mem_of_getElem? hfi
                simpa using this
              have := List.all_eq_true.1 hall f this
              cases ht : TT f.type with
              | none => simp [ht] at this
              | some ti => simp [g, ht]
          refine ⟨.agg d, ?_, .agg hd2.1 hd2.2⟩
          simp only [Instr.build, Sem.run_bind, hz, h1, Result.andThen_ok, hmap, afill_congr hpl, hd1, Sem.run_pure]
      · cases h
    · rename_i n e hd
      rw [hd] at h1
      split at h
      · rename_i ei hei
        cases hf : afill (fun j => some (j * ei.size, ei.size)) i.zero ps with
        | none => simp [hf] at h
        | some m =>
          simp only [hf, Option.map_some, Option.some.injEq] at h
          subst h
          obtain ⟨d, hd1, hd2⟩ := afill_sound (vs := vs.toList) (by simpa using hl) (fun j p q hp hq => hv j p q hp (by simpa using hq)) hzc hf
          refine ⟨.agg d, ?_, .agg hd2.1 hd2.2⟩
          simp only [Instr.build, Sem.run_bind, hz, h1, Result.andThen_ok, hT.run_size hei, hd1, Sem.run_pure]
      · cases h
    · cases h
  · cases h

def aevals (G : Globals) (e : Env) : List Operand → Option (List AV)
  | [] => some []
  | x :: r => match aeval G e x, aevals G e r with
    | some v, some l => some (v :: l)
    | _, _ => none

theorem aevals_sound {ρ : Ren} {Φ : Frz} {G : Globals} {e : Env} {a : Act} (hg : GR Φ G) (he : EnvR ρ Φ e a.tmps) : ∀ {xs : List Operand} {l : List AV}, aevals G e xs = some l →
    l.length = xs.length ∧ ∀ (j : Nat) (y : AV) (v : Value), l[j]? = some y → (xs.map a.eval)[j]? = some v → VR ρ Φ y v := by
  intro xs
  induction xs with
  | nil => intro l h; simp only [aevals, Option.some.injEq] at h; subst h; simp
  | cons x r ih =>
    intro l h
    simp only [aevals] at h
    split at h
    · rename_i v m hv hm
      simp only [Option.some.injEq] at h
      subst h
      obtain ⟨h1, h2⟩ := ih hm
      refine ⟨by simp [h1], fun j y u hy hu => ?_⟩
      cases j with
      | zero =>
        simp only [List.getElem?_cons_zero, Option.some.injEq] at hy hu
        subst hy
        simp at hu; subst hu
        exact aeval_sound hg he hv
      | succ j => exact h2 j y u (by simpa using hy) (by simpa using hu)
    · cases h

def aparts (G : Globals) (e : Env) : List (Nat × Operand) → Option (List (Nat × AV))
  | [] => some []
  | (i, x) :: r => match aeval G e x, aparts G e r with
    | some v, some l => some ((i, v) :: l)
    | _, _ => none

theorem aparts_sound {ρ : Ren} {Φ : Frz} {G : Globals} {e : Env} {a : Act} (hg : GR Φ G) (he : EnvR ρ Φ e a.tmps) : ∀ {xs : List (Nat × Operand)} {l : List (Nat × AV)}, aparts G e xs = some l →
    l.length = xs.length ∧ ∀ (j : Nat) (p : Nat × AV) (q : Nat × Value), l[j]? = some p → (xs.map fun p => (p.1, a.eval p.2))[j]? = some q → p.1 = q.1 ∧ VR ρ Φ p.2 q.2 := by
  intro xs
  induction xs with
  | nil => intro l h; simp only [aparts, Option.some.injEq] at h; subst h; simp
  | cons x r ih =>
    intro l h
    obtain ⟨i, x⟩ := x
    simp only [aparts] at h
    split at h
    · rename_i v m hv hm
      simp only [Option.some.injEq] at h
      subst h
      obtain ⟨h1, h2⟩ := ih hm
      refine ⟨by simp [h1], fun j y u hy hu => ?_⟩
      cases j with
      | zero =>
        simp only [List.getElem?_cons_zero, Option.some.injEq] at hy
        subst hy
        simp at hu; subst hu
        exact ⟨rfl, aeval_sound hg he hv⟩
      | succ j => exact h2 j y u (by simpa using hy) (by simpa using hu)
    · cases h

def aopt (G : Globals) (e : Env) : Option Operand → Option (Option AV)
  | none => some none
  | some x => (aeval G e x).map some

/-- The operations that turn nothing. -/
def apure (TT : Types) (G : Globals) (e : Env) (σ : Heap) (o : Oper) : Option AV :=
  match o.op with
  | .move x | .assign x => aeval G e x
  | .pick c a b => match aeval G e c with
    | some (.bool true) => aeval G e a
    | some (.bool false) => aeval G e b
    | _ => none
  | .load t x => match aeval G e x with
    | some v => aload TT σ t v
    | none => none
  | .nilCheck x => match aeval G e x with
    | some (.ptr i off) => some (.ptr i off)
    | some (.fp l off) => some (.fp l off)
    | some (.fn f l m) => some (.fn f l m)
    | _ => none
  | .binOp op t x y _ => match aeval G e x, aeval G e y with
    | some v, some u => abin TT op t (isConst x || isConst y) v u
    | _, _ => none
  | .unOp op _ x => match aeval G e x with
    | some v => aunOp op v
    | none => none
  | .convert s d x => match aeval G e x with
    | some v => aconvert TT s d v
    | none => none
  | .makeInterface t x => match aeval G e x, TT t with
    | some v, some i => (match i.desc with
      | .interface _ => none
      | _ => some (.iface t v))
    | _, _ => none
  | .makeFunc (.func f) first captured => match aevals G e first.toList, aevals G e captured.toList with
    | some l, some m => some (.fn f l m)
    | _, _ => none
  | .slice t x lo hi none => match aeval G e x, aopt G e lo, aopt G e hi with
    | some v, some l, some h => aslice TT σ t v l h
    | _, _, _ => none
  | .fieldAddr t x f => match aeval G e x with
    | some v => afieldAddr TT t f v
    | none => none
  | .field t x f => match aeval G e x with
    | some v => afield TT t f v
    | none => none
  | .indexAddr t x ix => match aeval G e x, aeval G e ix with
    | some v, some u => aindexAddr TT t v u
    | _, _ => none
  | .index t x ix => match aeval G e x, aeval G e ix with
    | some v, some u => aindex TT t v u
    | _, _ => none
  | .build t ps => match aparts G e ps.toList with
    | some l => abuild TT t l
    | none => none
  | .extract x ix => match aeval G e x with
    | some (.tup l) => l[ix]?
    | _ => none
  | .call { callee := .builtin .len, args, argTypes } => match args.toList, argTypes.toList with
    | [x], [t] => (match aeval G e x with
      | some v => alen TT σ t v
      | none => none)
    | _, _ => none
  | .call { callee := .builtin .min, args, .. } => match args.toList with
    | [x, y] => (match aeval G e x, aeval G e y with
      | some v, some u => amin2 v u
      | _, _ => none)
    | _ => none
  | .call { callee := .builtin .max, args, .. } => match args.toList with
    | [x, y] => (match aeval G e x, aeval G e y with
      | some v, some u => amax2 v u
      | _, _ => none)
    | _ => none
  | _ => none

theorem toList_one {α : Type} {c : Array α} {x : α} (h : c.toList = [x]) : c = #[x] := by
  cases c; simp_all
theorem toList_two {α : Type} {c : Array α} {x y : α} (h : c.toList = [x, y]) : c = #[x, y] := by
  cases c; simp_all

theorem aopt_sound {ρ : Ren} {Φ : Frz} {G : Globals} {e : Env} {a : Act} (hg : GR Φ G) (he : EnvR ρ Φ e a.tmps) {x : Option Operand} {l : Option AV} (h : aopt G e x = some l) :
    (∀ y, l = some y → ∃ v, x.map a.eval = some v ∧ VR ρ Φ y v) ∧ (l = none → x.map a.eval = none) := by
  cases x with
  | none => simp only [aopt, Option.some.injEq] at h; subst h; simp
  | some x =>
    simp only [aopt] at h
    cases hv : aeval G e x with
    | none => simp [hv] at h
    | some v =>
      simp only [hv, Option.map_some, Option.some.injEq] at h
      subst h
      exact ⟨fun y hy => by cases hy; exact ⟨_, rfl, aeval_sound hg he hv⟩, fun h => by cases h⟩

theorem apure_sound (hT : TOk P TT) {G : Globals} {e : Env} {σ : Heap} {n : Nat} {ρ : Ren} {Φ : Frz} {w : World} {a : Act} (hR : Rel ρ Φ σ n w) (hg : GR Φ G) (he : EnvR ρ Φ e a.tmps) {o : Oper} {y : AV}
    (h : apure TT G e σ o = some y) : ∃ u, (execOp a.eval o).run P w = .ok (.value u) w ∧ VR ρ Φ y u := by
  unfold apure at h
  have ev : ∀ {x : Operand} {y : AV}, aeval G e x = some y → VR ρ Φ y (a.eval x) := fun h => aeval_sound hg he h
  split at h <;> rename_i ho
  · exact ⟨_, by simp [execOp, ho], ev h⟩
  · exact ⟨_, by simp [execOp, ho], ev h⟩
  · split at h
    · rename_i hc
      have := ev hc
      generalize hq : a.eval _ = q at this
      cases this
      exact ⟨_, by simp [execOp, ho, hq, asBool], ev h⟩
    · rename_i hc
      have := ev hc
      generalize hq : a.eval _ = q at this
      cases this
      exact ⟨_, by simp [execOp, ho, hq, asBool], ev h⟩
    · cases h
  · split at h
    · rename_i v hv
      obtain ⟨u, hu, hr⟩ := aload_sound hT hR (ev hv) h
      exact ⟨u, by simp [execOp, ho, hu], hr⟩
    · cases h
  · split at h <;> rename_i hv
    · have := ev hv
      generalize hq : a.eval _ = q at this
      cases h
      cases this with
      | ptr _ hh => refine ⟨_, ?_, .ptr _ hh⟩; simp [execOp, ho, hq]
    · have := ev hv
      generalize hq : a.eval _ = q at this
      cases h
      cases this with
      | fp _ h1 h2 h3 => refine ⟨_, ?_, .fp _ h1 h2 h3⟩; simp [execOp, ho, hq]
    · have := ev hv
      generalize hq : a.eval _ = q at this
      cases h
      cases this with
      | fn h1 h2 h3 h4 => refine ⟨_, ?_, .fn h1 h2 h3 h4⟩; simp [execOp, ho, hq]
    · cases h
  · split at h
    · rename_i v u hv hu
      obtain ⟨r, h1, h2⟩ := abin_sound hT w (ev hv) (ev hu) h
      refine ⟨r, ?_, h2⟩
      simp only [execOp, ho]
      rw [Sem.run_bind, h1]
      rfl
    · cases h
  · split at h
    · rename_i v hv
      obtain ⟨u, hu, hr⟩ := aunOp_sound (P := P) w (ev hv) h
      exact ⟨u, by simp [execOp, ho, hu], hr⟩
    · cases h
  · split at h
    · rename_i v hv
      obtain ⟨u, hu, hr⟩ := aconvert_sound hT w (ev hv) h
      exact ⟨u, by simp [execOp, ho, hu], hr⟩
    · cases h
  · split at h
    · rename_i t x _ _ v i hv hi
      split at h
      · cases h
      · rename_i hn
        cases h
        refine ⟨_, ?_, .iface (ev hv)⟩
        have h1 := hT.run_und hi w
        have : ∀ x, (Instr.makeInterface t x).run P w = .ok (.iface t x) w := fun x => by
          unfold Instr.makeInterface
          rw [Sem.run_bind, h1]
          cases hd : i.desc <;> first
            | (exact absurd hd (hn _))
            | simp
        simp [execOp, ho, this]
    · cases h
  · split at h
    · rename_i f0 first captured _ _ l m hl hm
      cases h
      obtain ⟨h1, h2⟩ := aevals_sound hg he hl
      obtain ⟨h3, h4⟩ := aevals_sound hg he hm
      refine ⟨.func (.func f0) (first.map a.eval) (captured.map a.eval), by simp [execOp, ho, Instr.makeFunc], .fn (by simpa using h1) (by simpa using h3) (fun j x v hx hv => h2 j x v hx ?_) (fun j x v hx hv => h4 j x v hx ?_)⟩
      · simpa using hv
      · simpa using hv
    · cases h
  · split at h
    · rename_i v l hh hv hl hhh
      obtain ⟨h1, h2⟩ := aopt_sound hg he hl
      obtain ⟨h3, h4⟩ := aopt_sound hg he hhh
      obtain ⟨u, hu, hr⟩ := aslice_sound hT hR (ev hv) h1 h2 h3 h4 h
      exact ⟨u, by simp [execOp, ho, hu], hr⟩
    · cases h
  · split at h
    · rename_i v hv
      obtain ⟨u, hu, hr⟩ := afieldAddr_sound hT (w := w) (ev hv) h
      exact ⟨u, by simp [execOp, ho, hu], hr⟩
    · cases h
  · split at h
    · rename_i v hv
      obtain ⟨u, hu, hr⟩ := afield_sound hT w (ev hv) h
      exact ⟨u, by simp [execOp, ho, hu], hr⟩
    · cases h
  · split at h
    · rename_i v u hv hu
      obtain ⟨r, h1, h2⟩ := aindexAddr_sound hT (w := w) (ev hv) (ev hu) h
      exact ⟨r, by simp [execOp, ho, h1], h2⟩
    · cases h
  · split at h
    · rename_i v u hv hu
      obtain ⟨r, h1, h2⟩ := aindex_sound hT w (ev hv) (ev hu) h
      exact ⟨r, by simp [execOp, ho, h1], h2⟩
    · cases h
  · split at h
    · rename_i t ps _ l hl
      obtain ⟨h1, h2⟩ := aparts_sound hg he hl
      obtain ⟨u, hu, hr⟩ := abuild_sound hT w (vs := ps.map fun (p : Nat × Operand) => (p.1, a.eval p.2)) (by simpa using h1) (fun j p q hp hq => h2 j p q hp (by simpa using hq)) h
      exact ⟨u, by simp [execOp, ho, hu], hr⟩
    · cases h
  · split at h
    · rename_i x ix _ l hl
      have := ev hl
      generalize hq : a.eval _ = q at this
      cases this with
      | tup h1 h2 =>
        rename_i c
        have hlt : ix < l.length := by
          rcases Nat.lt_or_ge ix l.length with hh | hh
          · exact hh
          · simp [List.getElem?_eq_none hh] at h
        have hcs : c[ix]? = some c[ix] := by simp
        exact ⟨c[ix], by simp [execOp, ho, hq, Instr.extract, hcs], h2 ix y _ h hcs⟩
    · cases h
  · split at h
    · rename_i x t hx ht
      have hx := toList_one hx
      have ht := toList_one ht
      subst hx; subst ht
      split at h
      · rename_i v hv
        obtain ⟨u, hu, hr⟩ := alen_sound hT hR (ty := o.type) (ev hv) h
        exact ⟨u, by simp [execOp, ho, resolve, invoke, builtin, hu], hr⟩
      · cases h
    · cases h
  · split at h
    · rename_i x y hx
      have hx := toList_two hx
      subst hx
      split at h
      · rename_i v u hv hu
        have hv := ev hv
        have hu := ev hu
        unfold amin2 at h
        split at h
        · split at h
          · rename_i hk
            subst hk
            cases h
            generalize hq : a.eval x = q at hv
            generalize hq' : a.eval y = q' at hu
            cases hv; cases hu
            exact ⟨_, by simp [execOp, ho, resolve, invoke, builtin, Builtin.min_, Builtin.min2, hq, hq'], .int _ _⟩
          · cases h
        · cases h
      · cases h
    · cases h
  · split at h
    · rename_i x y hx
      have hx := toList_two hx
      subst hx
      split at h
      · rename_i v u hv hu
        have hv := ev hv
        have hu := ev hu
        unfold amax2 at h
        split at h
        · split at h
          · rename_i hk
            subst hk
            cases h
            generalize hq : a.eval x = q at hv
            generalize hq' : a.eval y = q' at hu
            cases hv; cases hu
            exact ⟨_, by simp [execOp, ho, resolve, invoke, builtin, Builtin.max_, Builtin.max2, hq, hq'], .int _ _⟩
          · cases h
        · cases h
      · cases h
    · cases h
  · cases h
end
end Go.Ma
