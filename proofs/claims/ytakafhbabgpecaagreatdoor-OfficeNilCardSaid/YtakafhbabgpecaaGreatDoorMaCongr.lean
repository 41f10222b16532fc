/- An operation hangs on its operands alone; steps of a region that draws its order, by functions. -/
import Derived.Test.YtakafhbabgpecaaGreatDoorMaDraw
namespace Go.Ma
section
variable {P : Program} {TT : Types} {G : Globals} {N n0 : Nat}

theorem aeval_agree {o : Op} {e e' : Env} (h : Agree (otmps o) e' e) : ∀ x ∈ o.operands.toList, aeval G e' x = aeval G e x := by
  intro x hx
  cases x with
  | tmp t => exact h t (by simp only [otmps, List.mem_filterMap]; exact ⟨.tmp t, hx, rfl⟩)
  | const v => rfl
  | global g => rfl
  | func f => rfl

theorem aevals_congr {e e' : Env} : ∀ {xs : List Operand}, (∀ x ∈ xs, aeval G e' x = aeval G e x) → aevals G e' xs = aevals G e xs := by
  intro xs
  induction xs with
  | nil => intro _; rfl
  | cons x r ih =>
    intro h
    simp only [aevals, h x (by simp), ih (fun y hy => h y (by simp [hy]))]

theorem aparts_congr {e e' : Env} : ∀ {xs : List (Nat × Operand)}, (∀ x ∈ xs.map (·.2), aeval G e' x = aeval G e x) → aparts G e' xs = aparts G e xs := by
  intro xs
  induction xs with
  | nil => intro _; rfl
  | cons x r ih =>
    intro h
    obtain ⟨i, x⟩ := x
    simp only [aparts, h x (by simp), ih (fun y hy => h y (by simp at hy ⊢; exact .inr hy))]

theorem aopt_congr {e e' : Env} {x : Option Operand} (h : ∀ y ∈ x.toList, aeval G e' y = aeval G e y) : aopt G e' x = aopt G e x := by
  cases x with
  | none => rfl
  | some y => simp only [aopt, h y (by simp)]

theorem apure_congr {o : Oper} {e e' : Env} {σ : Heap} (h : ∀ x ∈ o.op.operands.toList, aeval G e' x = aeval G e x) : apure TT G e' σ o = apure TT G e σ o := by
  unfold apure
  cases hop : o.op with
  | move x => rw [hop] at h; simp only; exact h x (by simp [Op.operands])
  | assign x => rw [hop] at h; simp only; exact h x (by simp [Op.operands])
  | pick c a b => rw [hop] at h; simp only [h c (by simp [Op.operands]), h a (by simp [Op.operands]), h b (by simp [Op.operands])]
  | load t x => rw [hop] at h; simp only [h x (by simp [Op.operands])]
  | nilCheck x => rw [hop] at h; simp only [h x (by simp [Op.operands])]
  | binOp op t x y ty => rw [hop] at h; simp only [h x (by simp [Op.operands]), h y (by simp [Op.operands])]
  | unOp op t x => rw [hop] at h; simp only [h x (by simp [Op.operands])]
  | convert s d x => rw [hop] at h; simp only [h x (by simp [Op.operands])]
  | makeInterface t x => rw [hop] at h; simp only [h x (by simp [Op.operands])]
  | makeFunc fn first captured =>
    rw [hop] at h
    have h1 : aevals G e' first.toList = aevals G e first.toList := aevals_congr fun x hx => h x (by simp [Op.operands]; exact .inl (by simpa using hx))
    have h2 : aevals G e' captured.toList = aevals G e captured.toList := aevals_congr fun x hx => h x (by simp [Op.operands]; exact .inr (by simpa using hx))
    cases fn <;> simp only [h1, h2]
  | slice t x lo hi mx =>
    rw [hop] at h
    have h1 : aopt G e' lo = aopt G e lo := aopt_congr fun y hy => h y (by simp [Op.operands]; cases lo <;> simp at hy; subst hy; simp)
    have h2 : aopt G e' hi = aopt G e hi := aopt_congr fun y hy => h y (by simp [Op.operands]; cases hi <;> simp at hy; subst hy; simp)
    have h3 := h x (by simp [Op.operands])
    cases mx <;> simp only [h1, h2, h3]
  | fieldAddr t x f => rw [hop] at h; simp only [h x (by simp [Op.operands])]
  | field t x f => rw [hop] at h; simp only [h x (by simp [Op.operands])]
  | indexAddr t x ix => rw [hop] at h; simp only [h x (by simp [Op.operands]), h ix (by simp [Op.operands])]
  | index t x ix => rw [hop] at h; simp only [h x (by simp [Op.operands]), h ix (by simp [Op.operands])]
  | build t ps =>
    rw [hop] at h
    have h1 : aparts G e' ps.toList = aparts G e ps.toList := aparts_congr fun x hx => h x (by simpa [Op.operands] using hx)
    simp only [h1]
  | extract x ix => rw [hop] at h; simp only [h x (by simp [Op.operands])]
  | call c =>
    rw [hop] at h
    obtain ⟨callee, args, ts⟩ := c
    cases callee with
    | value x => rfl
    | invoke x m => rfl
    | builtin b =>
      have h1 : ∀ x ∈ args.toList, aeval G e' x = aeval G e x := fun x hx => h x (by simpa [Op.operands, Call.operands] using hx)
      cases b <;> first
        | rfl
        | skip
      all_goals
        simp only
        generalize args.toList = l at h1 ⊢
        generalize ts.toList = m
        rcases l with _ | ⟨x, _ | ⟨y, _ | ⟨z, l⟩⟩⟩ <;> rcases m with _ | ⟨t, _ | ⟨u, m⟩⟩ <;>
          first
          | rfl
          | (simp only [h1 x (by simp)]; done)
          | (simp only [h1 x (by simp), h1 y (by simp)]; done)
  | _ => rfl

theorem amem_congr {o : Oper} {e e' : Env} {σ : Heap} {n : Nat} (h : ∀ x ∈ o.op.operands.toList, aeval G e' x = aeval G e x) : amem TT G e' σ n o = amem TT G e σ n o := by
  unfold amem
  cases hop : o.op with
  | box t x => rw [hop] at h; simp only [h x (by simp [Op.operands])]
  | store t a x => rw [hop] at h; simp only [h a (by simp [Op.operands]), h x (by simp [Op.operands])]
  | _ => rfl

theorem afrz_congr {o : Oper} {e e' : Env} (h : ∀ x ∈ o.op.operands.toList, aeval G e' x = aeval G e x) : afrz TT G e' o = afrz TT G e o := by
  unfold afrz
  cases hop : o.op with
  | box t x => rw [hop] at h; simp only [h x (by simp [Op.operands])]
  | buildSlice t len ps =>
    rw [hop] at h
    have h1 : aparts G e' ps.toList = aparts G e ps.toList := aparts_congr fun x hx => h x (by simpa [Op.operands] using hx)
    simp only [h1]
  | _ => rfl

theorem alit_congr {o : Oper} {e e' : Env} {σ : Heap} {n : Nat} (h : ∀ x ∈ o.op.operands.toList, aeval G e' x = aeval G e x) : alit TT G e' σ n o = alit TT G e σ n o := by
  unfold alit
  cases hop : o.op with
  | buildSlice t len ps =>
    rw [hop] at h
    have h1 : aparts G e' ps.toList = aparts G e ps.toList := aparts_congr fun x hx => h x (by simpa [Op.operands] using hx)
    simp only [h1]
  | makeMap t r => cases r <;> rfl
  | _ => rfl

theorem aappend_congr {o : Oper} {e e' : Env} {σ : Heap} {n : Nat} (h : ∀ x ∈ o.op.operands.toList, aeval G e' x = aeval G e x) : aappend TT G e' σ n o = aappend TT G e σ n o := by
  unfold aappend
  cases hop : o.op with
  | call c =>
    rw [hop] at h
    obtain ⟨callee, args, ts⟩ := c
    cases callee with
    | value x => rfl
    | invoke x m => rfl
    | builtin b =>
      have h1 : ∀ x ∈ args.toList, aeval G e' x = aeval G e x := fun x hx => h x (by simpa [Op.operands, Call.operands] using hx)
      cases b <;> first
        | rfl
        | skip
      all_goals
        simp only
        generalize args.toList = l at h1 ⊢
        generalize ts.toList = m
        rcases l with _ | ⟨x, _ | ⟨y, _ | ⟨z, l⟩⟩⟩ <;> rcases m with _ | ⟨t, _ | ⟨u, _ | ⟨v, m⟩⟩⟩ <;>
          first
          | rfl
          | (simp only [h1 x (by simp), h1 y (by simp)]; done)
  | _ => rfl

/-- An operation that is no call of a Go function, by functions: frozen where Z says so. -/
def astep (TT : Types) (G : Globals) (fz : Bool) (e : Env) (σ : Heap) (n : Nat) (o : Oper) : Option (AV × Heap × Nat) :=
  match (if fz then afrz TT G e o else none) with
  | some v => some (v, σ, n)
  | none => match apure TT G e σ o with
    | some v => some (v, σ, n)
    | none => match amem TT G e σ n o with
      | some r => some r
      | none => match alit TT G e σ n o with
        | some r => some r
        | none => aappend TT G e σ n o

theorem astep_congr {fz : Bool} {o : Oper} {e e' : Env} {σ : Heap} {n : Nat} (h : ∀ x ∈ o.op.operands.toList, aeval G e' x = aeval G e x) : astep TT G fz e' σ n o = astep TT G fz e σ n o := by
  unfold astep
  rw [apure_congr h, amem_congr h, afrz_congr h, alit_congr h, aappend_congr h]

theorem OpOk.step (hT : TOk P TT) {fz : Bool} {o : Oper} {e : Env} {σ σ' : Heap} {n n' : Nat} {y : AV} {Q : AV → Heap → Nat → Prop} (h : astep TT G fz e σ n o = some (y, σ', n')) (hq : Q y σ' n') : OpOk P G o e σ n Q := by
  unfold astep at h
  split at h
  · rename_i v hv
    cases h
    cases fz with
    | false => simp at hv
    | true => exact OpOk.frz hT (by simpa using hv) hq
  · split at h
    · rename_i v hv
      cases h
      exact OpOk.pure hT hv hq
    · split at h
      · rename_i r hr
        cases h
        exact OpOk.mem hT hr hq
      · split at h
        · rename_i r hr
          cases h
          exact OpOk.lit hT hr hq
        · exact OpOk.append hT h hq

/-- An operation that hangs on no memory and turns none. -/
def afree (TT : Types) (G : Globals) (fz : Bool) (e : Env) (o : Oper) : Option AV :=
  match (if fz then afrz TT G e o else none) with
  | some v => some v
  | none => apure TT G e [] o

theorem aload_weak {σ : Heap} {t : TypeId} {x y : AV} (h : aload TT [] t x = some y) : aload TT σ t x = some y := by
  unfold aload at h ⊢
  cases x with
  | ptr i off => simp [acells, hget_cons, hget_nil] at h
  | fp l off => simpa [acells] using h
  | _ => simp [acells] at h

theorem alen_weak {σ : Heap} {t : TypeId} {x y : AV} (h : alen TT [] t x = some y) : alen TT σ t x = some y := by
  unfold alen at h ⊢
  cases ht : TT t with
  | none => simp [ht] at h
  | some i =>
    simp only [ht] at h ⊢
    split at h <;> first
      | (simp only [*]; done)
      | skip
    all_goals simp_all [hget_cons, hget_nil]

theorem aslice_weak {σ : Heap} {t : TypeId} {x y : AV} {lo hi : Option AV} (h : aslice TT [] t x lo hi = some y) : aslice TT σ t x lo hi = some y := by
  unfold aslice at h ⊢
  cases ht : TT t with
  | none => simp [ht] at h
  | some i =>
    simp only [ht] at h ⊢
    generalize i.desc = d at h ⊢
    cases d <;> cases x <;> first
      | exact h
      | (simp only [hget_cons, hget_nil] at h; split at h <;> first | (rename_i hh; cases hh; done) | (cases h; done) | simp_all)

theorem apure_weak {o : Oper} {e : Env} {σ : Heap} {y : AV} (h : apure TT G e [] o = some y) : apure TT G e σ o = some y := by
  unfold apure at h ⊢
  cases hop : o.op with
  | load t x =>
    simp only [hop] at h ⊢
    cases hx : aeval G e x with
    | none => simp [hx] at h
    | some v => simp only [hx] at h ⊢; exact aload_weak h
  | slice t x lo hi mx =>
    cases mx with
    | some m => simp [hop] at h
    | none =>
      simp only [hop] at h ⊢
      split at h
      · exact aslice_weak h
      · cases h
  | call c =>
    obtain ⟨callee, args, ts⟩ := c
    cases callee with
    | value x => simp [hop] at h
    | invoke x m => simp [hop] at h
    | builtin b =>
      simp only [hop] at h ⊢
      cases b <;> first
        | exact h
        | skip
      all_goals
        dsimp only at h ⊢
        split at h
        · rename_i x t hl hm
          split at h
          · rename_i v hx
            exact alen_weak h
          · cases h
        · cases h
  | makeFunc fn first captured => rw [hop] at h; cases fn <;> exact h
  | _ => simp only [hop] at h ⊢ <;> exact h

theorem DStep.free (hT : TOk P TT) {ops : Array Oper} {o : Oper} {fz : Bool} {e : Env} {σ : Heap} {n : Nat} {v : AV} (hg : aguard ops e o = some true) (hd : dstOk N o = true) (h : afree TT G fz e o = some v) :
    DStep P G N ops o .h0 (e, σ, n) (eput e o.dst v, σ, n) := by
  refine .h0 hg hd fun σ n e' ha => ?_
  have hx := aeval_agree (G := G) (o := o.op) (e := e) (e' := e') fun t ht => ha t (by simp [looks, ht])
  unfold afree at h
  split at h
  · rename_i v' hv
    cases h
    cases fz with
    | false => simp at hv
    | true => exact OpOk.frz hT (by rw [afrz_congr hx]; simpa using hv) ⟨rfl, rfl, rfl⟩
  · exact OpOk.pure hT (by rw [apure_congr hx]; exact apure_weak h) ⟨rfl, rfl, rfl⟩

theorem DStep.read (hT : TOk P TT) {ops : Array Oper} {o : Oper} {e : Env} {σ : Heap} {n : Nat} {v : AV} (hg : aguard ops e o = some true) (hd : dstOk N o = true) (h : apure TT G e σ o = some v) :
    DStep P G N ops o .h1 (e, σ, n) (eput e o.dst v, σ, n) := by
  refine .h1 hg hd fun e' ha => ?_
  have hx := aeval_agree (G := G) (o := o.op) (e := e) (e' := e') fun t ht => ha t (by simp [looks, ht])
  exact OpOk.pure hT (by rw [apure_congr hx]; exact h) ⟨rfl, rfl, rfl⟩

theorem DStep.turn (hT : TOk P TT) {ops : Array Oper} {o : Oper} {fz : Bool} {e : Env} {σ σ' : Heap} {n n' : Nat} {v : AV} (hg : aguard ops e o = some true) (hd : dstOk N o = true) (h : astep TT G fz e σ n o = some (v, σ', n')) :
    DStep P G N ops o .ee (e, σ, n) (eput e o.dst v, σ', n') := by
  refine .ee hg hd fun e' ha => ?_
  have hx := aeval_agree (G := G) (o := o.op) (e := e) (e' := e') fun t ht => ha t (by simp [looks, ht])
  exact OpOk.step hT (by rw [astep_congr hx]; exact h) ⟨rfl, rfl, rfl⟩
end
end Go.Ma
