/- HandleWords, plainly: the program and the reference come to the same. -/
import Derived.Test.YtdmiingneodcbaaHHandleWords
namespace Go.Proofs.Ytdmiingneodcbaa.Pure
open Go Go.RowKit Go.Proofs.Ytdmiingneodcbaa.PHandleWords Go.Proofs.YtdmiingneodcbaaW.PrintWords Go.Proofs.Ytdmiingneodcbaa.HHandleWords Go.Proofs.Ytdmiingneodcbaa.FB
set_option linter.unusedVariables false
theorem HandleWords (i g t x : Int) (wi : (Lit.int .i64 i).wf = true) (wg : (Lit.int .i64 g).wf = true) (wt : (Lit.int .i64 t).wf = true) (wx : (Lit.int .u64 x).wf = true) : ∃ k, cubiclelaw08_HandleWords.f k i g t x = some true := by
  obtain ⟨w, rfl⟩ := u_of wx
  apply Ev.rounds (g := fun k => cubiclelaw08_HandleWords.f k i g t (u w))
  unfold cubiclelaw08_HandleWords.f
  refine Ev.bind hawake_eq ?_
  refine Ev.congr (fun k => if_pos rfl) ?_
  refine Ev.bind (hof_eq w) ?_
  rw [rhof_eq _ (u_nonneg w) (u_lt w), hformed_eq, rhformed_eq, rhword_eq]
  refine Ev.congr (fun k => by rw [Option.bind_some, Option.bind_some, Option.bind_some, if_pos (by simp)]) ?_
  refine Ev.bind (hword_eq i g t) ?_
  refine Ev.congr (f := fun _ => some true) (fun k => ?_) (Ev.now _)
  rw [Option.bind_some, if_pos rfl, if_pos (by simp)]
  simp
end Go.Proofs.Ytdmiingneodcbaa.Pure
