/- Part of the proof of this claim (no condition). -/
import Derived.Test.YtakafhbabgpecaaGreatDoorMtBase
import Derived.Test.YtakafhbabgpecaaGreatDoorMaSym
import Derived.IntWalk
namespace Go.MaT
open Go.Ma Go.Proofs
set_option maxRecDepth 100000

def IsEnt (r : List AV) : Prop := ∃ (o : ByteArray) (a b c : Int) (t : ByteArray), r = [.str o, .int .i64 a, .int .i64 b, .int .i64 c, .str t]

theorem ctxOk : CtxOk Tryz.prog ctx := ctxOf_ok rfl

theorem fn5 : FnOk Tryz.prog 5 Tryz.f5 (match Tryz.f5.body with | some c => c | none => .skip) := ⟨Tryz.func5, rfl, rfl⟩

theorem tt22 : ctx.TT 22 = some ⟨.slice 59, 1, 24, [.nils], false⟩ := rfl
theorem tt59 : ∃ i, ctx.TT 59 = some i ∧ i.size = 5 := ⟨_, rfl, rfl⟩

theorem few_ok (els : List (List AV)) (hels : ∀ r ∈ els, IsEnt r) (hlen : els.length ≤ 140737488355328) (m : Int) : ACalls Tryz.prog ctx.G 5 [.fs els, .int .i64 m] [] 0 (fun v s n => (∃ b, v = .bool b) ∧ s = [] ∧ n = 0) := by
  obtain ⟨ei, hei, hes⟩ := tt59
  refine ACalls.bodyT ctxOk fn5 rfl rfl ?_
  show TWp _ _ _ _ (Code.seq _ _) _ _ _ _
  refine TWp.seq ?_
  refine TWp.run ctxOk (by decide) noBase_ok 10 (r := ⟨.normal, _, _, _⟩) rfl ?_
  refine TWp.seq ?_
  refine TWp.seq ?_
  refine TWp.mono (Q := fun x T σ n => x = .normal ∧ σ = [] ∧ n = 0 ∧ ∃ b, Holds Tryz.f5.ntmps T [(0, .fs els), (19, .bool b)]) (TWp.region ?_) ?_
  · refine TOps.seg ctxOk (by decide) noBase_ok 0 4 rfl (by decide) ?_
    obtain ⟨b1, hb1⟩ : ∃ b1, b1 = decide ((els.length : Int) > m) := ⟨_, rfl⟩
    refine TOps.keep (by decide) [(0, .fs els), (1, .int .i64 m), (9, .bool b1)] ⟨⟨rfl, rfl⟩, ⟨rfl, rfl⟩, ⟨rfl, by rw [hb1]; rfl⟩, trivial⟩ ?_
    obtain ⟨b3, hb3⟩ : ∃ b3, b3 = decide ((els.length : Int) > 302) := ⟨_, rfl⟩
    cases b1 with
    | false =>
      refine TOps.rest ctxOk (by decide) noBase_ok 4 rfl (by decide) ?_
      exact ⟨rfl, rfl, rfl, _, ⟨rfl, rfl⟩, ⟨rfl, rfl⟩, trivial⟩
    | true =>
      refine TOps.seg ctxOk (by decide) noBase_ok 4 5 rfl (by decide) ?_
      obtain ⟨b2, hb2⟩ : ∃ b2, b2 = decide ((els.length : Int) ≤ 300) := ⟨_, rfl⟩
      refine TOps.keep (by decide) [(0, .fs els), (1, .int .i64 m), (14, .bool b2)] ⟨⟨rfl, rfl⟩, ⟨rfl, rfl⟩, ⟨rfl, by rw [hb2]; rfl⟩, trivial⟩ ?_
      cases b2 <;> exact TOps.rest ctxOk (by decide) noBase_ok 9 rfl (by decide) ⟨rfl, rfl, rfl, _, ⟨rfl, rfl⟩, ⟨rfl, rfl⟩, trivial⟩
  rintro x T σ n ⟨rfl, rfl, rfl, b, hT⟩
  refine TWp.keep (by decide) _ hT ?_
  refine TWp.cond (t := b) rfl (fun _ => ?_) (fun _ => ?_)
  · refine TWp.run ctxOk (by decide) noBase_ok 10 (r := ⟨.ret, _, _, _⟩) rfl ?_
    exact ⟨_, rfl, ⟨_, rfl⟩, rfl, rfl⟩
  refine TWp.skip ?_
  show TWp _ _ _ _ (Code.seq _ _) _ _ _ _
  refine TWp.seq ?_
  refine TWp.seq ?_
  refine TWp.run ctxOk (by decide) noBase_ok 10 (r := ⟨.normal, _, _, _⟩) rfl ?_
  refine TWp.block ?_
  refine TWp.keep (by decide) [(0, .fs els), (5, .int .i64 ((0 : Nat) : Int))] ⟨⟨rfl, rfl⟩, ⟨rfl, rfl⟩, trivial⟩ ?_
  refine TWp.loop (ι := Nat) (fun i T σ n => i ≤ els.length ∧ σ = [] ∧ n = 0 ∧ Holds Tryz.f5.ntmps T [(0, .fs els), (5, .int .i64 (i : Int))]) (fun i => els.length - i) 0 ⟨by omega, rfl, rfl, ⟨rfl, rfl⟩, ⟨rfl, rfl⟩, trivial⟩ ?_
  rintro i T σ n ⟨hi, rfl, rfl, hT⟩
  refine TWp.keep (by decide) _ hT ?_
  refine TWp.seq ?_
  refine TWp.seq ?_
  refine TWp.region ?_
  refine TOps.rest ctxOk (by decide) noBase_ok 0 rfl (by decide) ?_
  refine TWp.cond (t := decide ((i : Int) < (els.length : Int))) rfl (fun ht => ?go) (fun ht => ?stop)
  case stop =>
    refine TWp.exit ?_
    refine TWp.run ctxOk (by decide) noBase_ok 10 (r := ⟨.ret, _, _, _⟩) rfl ?_
    exact ⟨_, rfl, ⟨_, rfl⟩, rfl, rfl⟩
  refine TWp.skip ?_
  have hlt : i < els.length := by simpa using ht
  have hr : els[i]? = some els[i] := by simp
  obtain ⟨o, a, b, c, t, he⟩ := hels _ (List.getElem_mem hlt)
  rw [he] at hr
  show TWp _ _ _ _ (Code.seq _ _) _ _ _ _
  refine TWp.seq ?_
  refine TWp.block ?_
  refine TWp.seq ?_
  refine TWp.keep (by decide) [(0, .fs els), (5, .int .i64 (i : Int))] ⟨⟨rfl, rfl⟩, ⟨rfl, rfl⟩, trivial⟩ ?_
  refine TWp.mono (Q := fun x T σ n => x = .normal ∧ σ = [] ∧ n = 0 ∧ ∃ b, Holds Tryz.f5.ntmps T [(0, .fs els), (5, .int .i64 (i : Int)), (59, .bool b)]) (TWp.region ?_) ?_
  · refine TOps.seg ctxOk (by decide) noBase_ok 0 2 rfl (by decide) ?_
    refine TOps.one ctxOk (by decide) noBase_ok 2 rfl rfl rfl (cop_indexAddr rfl tt22 hei rfl rfl hr (by rw [hes]; rfl)) ?_
    refine TOps.seg ctxOk (by decide) noBase_ok 3 4 rfl (by decide) ?_
    obtain ⟨b1, hb1⟩ : ∃ b1, b1 = decide ((o.size : Int) > 30) := ⟨_, rfl⟩
    refine TOps.keep (by decide) [(0, .fs els), (5, .int .i64 (i : Int)), (32, .bool b1)] ⟨⟨rfl, rfl⟩, ⟨rfl, rfl⟩, ⟨rfl, by rw [hb1]; rfl⟩, trivial⟩ ?_
    cases b1 with
    | true => exact TOps.rest ctxOk (by decide) noBase_ok 7 rfl (by decide) ⟨rfl, rfl, rfl, _, ⟨rfl, rfl⟩, ⟨rfl, rfl⟩, ⟨rfl, rfl⟩, trivial⟩
    | false =>
      refine TOps.seg ctxOk (by decide) noBase_ok 7 3 rfl (by decide) ?_
      refine TOps.oneG ctxOk (by decide) noBase_ok 10 rfl rfl rfl rfl rfl rfl (cop_indexAddr rfl tt22 hei rfl rfl hr (by rw [hes]; rfl)) ?_
      refine TOps.seg ctxOk (by decide) noBase_ok 11 4 rfl (by decide) ?_
      obtain ⟨b2, hb2⟩ : ∃ b2, b2 = decide ((t.size : Int) > 100) := ⟨_, rfl⟩
      refine TOps.keep (by decide) [(0, .fs els), (5, .int .i64 (i : Int)), (33, .bool false), (40, .bool b2)] ⟨⟨rfl, rfl⟩, ⟨rfl, rfl⟩, ⟨rfl, rfl⟩, ⟨rfl, by rw [hb2]; rfl⟩, trivial⟩ ?_
      cases b2 with
      | false =>
        refine TOps.seg ctxOk (by decide) noBase_ok 15 11 rfl (by decide) ?_
        refine TOps.seg ctxOk (by decide) noBase_ok 26 2 rfl (by decide) ?_
        refine TOps.oneG ctxOk (by decide) noBase_ok 28 rfl rfl rfl rfl rfl rfl (cop_indexAddr rfl tt22 hei rfl rfl hr (by rw [hes]; rfl)) ?_
        exact TOps.rest ctxOk (by decide) noBase_ok 29 rfl (by decide) ⟨rfl, rfl, rfl, _, ⟨rfl, rfl⟩, ⟨rfl, rfl⟩, ⟨rfl, rfl⟩, trivial⟩
      | true =>
        refine TOps.seg ctxOk (by decide) noBase_ok 15 3 rfl (by decide) ?_
        refine TOps.oneG ctxOk (by decide) noBase_ok 18 rfl rfl rfl rfl rfl rfl (cop_indexAddr rfl tt22 hei rfl rfl hr (by rw [hes]; rfl)) ?_
        refine TOps.seg ctxOk (by decide) noBase_ok 19 7 rfl (by decide) ?_
        obtain ⟨b3, hb3⟩ : ∃ b3, b3 = decide ((t.size : Int) ≤ 200) := ⟨_, rfl⟩
        refine TOps.keep (by decide) [(0, .fs els), (5, .int .i64 (i : Int)), (51, .bool b3)] ⟨⟨rfl, rfl⟩, ⟨rfl, rfl⟩, ⟨rfl, by rw [hb3]; rfl⟩, trivial⟩ ?_
        cases b3 with
        | true => exact TOps.rest ctxOk (by decide) noBase_ok 26 rfl (by decide) ⟨rfl, rfl, rfl, _, ⟨rfl, rfl⟩, ⟨rfl, rfl⟩, ⟨rfl, rfl⟩, trivial⟩
        | false =>
        refine TOps.seg ctxOk (by decide) noBase_ok 26 2 rfl (by decide) ?_
        refine TOps.oneG ctxOk (by decide) noBase_ok 28 rfl rfl rfl rfl rfl rfl (cop_indexAddr rfl tt22 hei rfl rfl hr (by rw [hes]; rfl)) ?_
        exact TOps.rest ctxOk (by decide) noBase_ok 29 rfl (by decide) ⟨rfl, rfl, rfl, _, ⟨rfl, rfl⟩, ⟨rfl, rfl⟩, ⟨rfl, rfl⟩, trivial⟩
  rintro x T σ n ⟨rfl, rfl, rfl, b, hT⟩
  refine TWp.keep (by decide) _ hT ?_
  refine TWp.cond (t := b) rfl (fun _ => ?_) (fun _ => ?_)
  · refine TWp.run ctxOk (by decide) noBase_ok 10 (r := ⟨.ret, _, _, _⟩) rfl ?_
    exact ⟨_, rfl, ⟨_, rfl⟩, rfl, rfl⟩
  refine TWp.skip ?_
  refine TWp.region ?_
  refine TOps.rest ctxOk (by decide) noBase_ok 0 rfl (by decide) ?_
  refine ⟨i + 1, ⟨by omega, rfl, rfl, ⟨rfl, rfl⟩, ⟨rfl, ?_⟩, trivial⟩, by omega⟩
  show some (forceInt .i64 (IntKind.i64.wrap ((i : Int) + 1))) = _
  have hw : IntKind.i64.wrap ((i : Int) + 1) = ((i + 1 : Nat) : Int) := by rw [IntKind.wrap_i64]; omega
  rw [forceInt_eq, hw]
end Go.MaT
