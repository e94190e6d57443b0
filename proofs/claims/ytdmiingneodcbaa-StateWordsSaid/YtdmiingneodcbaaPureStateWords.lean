/- StateWords, plainly: the program and the reference come to the same. -/
import Derived.Test.YtdmiingneodcbaaTStateWords
namespace Go.Proofs.Ytdmiingneodcbaa.Pure
open Go Go.RowKit Go.Proofs.Ytdmiingneodcbaa.PStateWords Go.Proofs.YtdmiingneodcbaaW.PrintWords Go.Proofs.Ytdmiingneodcbaa.TStateWords Go.Proofs.Ytdmiingneodcbaa.FB
set_option linter.unusedVariables false
theorem StateWords (g m t x : Int) (wi : (Lit.int .i64 g).wf = true) (wg : (Lit.int .i64 m).wf = true) (wt : (Lit.int .i64 t).wf = true) (wx : (Lit.int .u64 x).wf = true) : ∃ k : Nat, cubiclelaw07_StateWords.f g m t x = some true := by
  refine ⟨0, ?_⟩
  have hx := wf_u64 wx
  unfold cubiclelaw07_StateWords.f
  have e1 : state_Of.f x = some (Giv2.sto x) := if_pos hx
  have e2 : state_State_Word.f g m t = some (Giv.stw g m t) := rfl
  rw [awake_eq, Option.bind_some, if_pos rfl, e1, Option.bind_some, rof_eq x hx.1 hx.2, Option.bind_some, Giv.sformed_eq, Option.bind_some, rformed_eq, Option.bind_some, if_pos (by simp), e2, Option.bind_some, rword_eq, Option.bind_some, if_pos rfl, if_pos (by simp)]
  simp
end Go.Proofs.Ytdmiingneodcbaa.Pure
