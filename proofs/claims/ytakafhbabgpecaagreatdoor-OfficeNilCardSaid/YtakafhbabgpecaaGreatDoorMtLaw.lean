/- Part of the proof of this claim (no condition). -/
import Derived.Test.YtakafhbabgpecaaGreatDoorMtFew
namespace Go.MaT
open Go.Ma Go.Proofs
set_option maxRecDepth 100000

theorem fn4 : FnOk Tryz.prog 4 Tryz.f4 (match Tryz.f4.body with | some c => c | none => .skip) := ⟨Tryz.func4, rfl, rfl⟩
theorem fn3 : FnOk Tryz.prog 3 Tryz.f3 (match Tryz.f3.body with | some c => c | none => .skip) := ⟨Tryz.func3, rfl, rfl⟩

noncomputable def nilCall : CallT := acall ctx (fnsOf Tryz.prog ctx 10) noBase 2
theorem nilCall_ok : CallOk Tryz.prog ctx nilCall := acall_sound ctxOk fnsOf_ok noBase_ok 2

theorem law_ok (hawake : ACalls Tryz.prog ctx.G 4 [] [] 0 (fun v s n => v = .bool true ∧ s = [] ∧ n = 0)) (day : Int) (text : ByteArray) (els : List (List AV)) (hels : ∀ r ∈ els, IsEnt r) (hlen : els.length ≤ 140737488355328) :
    ACalls Tryz.prog ctx.G 3 [.int .i64 day, .str text, .fs els] [] 0 (fun v s n => v = .bool true) := by
  refine ACalls.bodyT ctxOk fn3 rfl rfl ?_
  show TWp _ _ _ _ (Code.seq _ _) _ _ _ _
  refine TWp.seq ?_
  refine TWp.run ctxOk (by decide) noBase_ok 10 (r := ⟨.normal, _, _, _⟩) rfl ?_
  refine TWp.seq ?_
  refine TWp.seq ?_
  refine TWp.region ?_
  refine TOps.callQ (by decide) 0 rfl (guard_none rfl) rfl rfl rfl rfl fn4 hawake ?_
  rintro v s n ⟨rfl, rfl, rfl⟩
  refine TOps.rest ctxOk (by decide) noBase_ok 1 rfl (by decide) ?_
  refine TWp.condk false rfl ?_
  refine TWp.skip ?_
  refine TWp.keep (by decide) [(0, .int .i64 day), (1, .str text), (2, .fs els)] ⟨⟨rfl, rfl⟩, ⟨rfl, rfl⟩, ⟨rfl, rfl⟩, trivial⟩ ?_
  refine TWp.seq ?_
  refine TWp.seq ?_
  refine TWp.mono (Q := fun x T σ n => x = .normal ∧ σ = [] ∧ n = 0 ∧ ∃ b, Holds Tryz.f3.ntmps T [(0, .int .i64 day), (1, .str text), (2, .fs els), (21, .bool b)]) (TWp.region ?_) ?_
  · refine TOps.seg ctxOk (by decide) noBase_ok 0 3 rfl (by decide) ?_
    obtain ⟨b1, hb1⟩ : ∃ b1, b1 = decide ((text.size : Int) > 100) := ⟨_, rfl⟩
    refine TOps.keep (by decide) [(0, .int .i64 day), (1, .str text), (2, .fs els), (16, .bool b1)] ⟨⟨rfl, rfl⟩, ⟨rfl, rfl⟩, ⟨rfl, rfl⟩, ⟨rfl, by rw [hb1]; rfl⟩, trivial⟩ ?_
    cases b1 with
    | true => exact TOps.rest ctxOk (by decide) noBase_ok 3 rfl (by decide) ⟨rfl, rfl, rfl, _, ⟨rfl, rfl⟩, ⟨rfl, rfl⟩, ⟨rfl, rfl⟩, ⟨rfl, rfl⟩, trivial⟩
    | false =>
      refine TOps.seg ctxOk (by decide) noBase_ok 3 2 rfl (by decide) ?_
      refine TOps.callQ (by decide) 5 rfl (guard_some rfl rfl rfl rfl) rfl rfl rfl rfl fn5 (few_ok els hels hlen 8) ?_
      rintro v s n ⟨⟨b, rfl⟩, rfl, rfl⟩
      exact TOps.rest ctxOk (by decide) noBase_ok 6 rfl (by decide) ⟨rfl, rfl, rfl, _, ⟨rfl, rfl⟩, ⟨rfl, rfl⟩, ⟨rfl, rfl⟩, ⟨rfl, rfl⟩, trivial⟩
  rintro x T σ n ⟨rfl, rfl, rfl, b, hT⟩
  refine TWp.keep (by decide) _ hT ?_
  refine TWp.cond (t := b) rfl (fun _ => ?_) (fun _ => ?_)
  · refine TWp.run ctxOk (by decide) noBase_ok 10 (r := ⟨.ret, _, _, _⟩) rfl ?_
    exact ⟨_, rfl, rfl⟩
  refine TWp.skip ?_
  show TWp _ _ _ _ _ _ _ _ _
  refine TWp.run ctxOk (by decide) nilCall_ok 10 (r := ⟨.ret, _, _, _⟩) rfl ?_
  exact ⟨_, rfl, rfl⟩
end Go.MaT
