/- StateTurns, plainly: the program and the reference come to the same. -/
import Derived.Test.YtbmecfpdemoooaaTStateTurns
namespace Go.Proofs.Ytbmecfpdemoooaa.Pure
open Go Go.RowKit Go.Proofs.Ytbmecfpdemoooaa.PStateTurns Go.Proofs.YtbmecfpdemoooaaW.PrintWords Go.Proofs.Ytbmecfpdemoooaa.TStateTurns Go.Proofs.Ytbmecfpdemoooaa.FB
set_option linter.unusedVariables false
theorem StateTurns (g m t k n : Int) (wi : (Lit.int .i64 g).wf = true) (wg : (Lit.int .i64 m).wf = true) (wt : (Lit.int .i64 t).wf = true) (wk : (Lit.int .i64 k).wf = true) (wn : (Lit.int .i64 n).wf = true) : ∃ j : Nat, cubiclelaw07_StateTurns.f j g m t k n = some true := by
  refine ⟨1, ?_⟩
  unfold cubiclelaw07_StateTurns.f
  rw [awake_eq, Option.bind_some, if_pos rfl]
  simp only [cubiclelaw07_StateTurns.j0]
  by_cases h : g > 1099511627776
  · rw [decide_eq_true h, if_pos rfl, awake_eq, Option.bind_some]
  · rw [decide_eq_false h, if_neg (by simp)]
    unfold state_State_Live.f state_State_Retire.f state_State_Freed.f cubicleref07_Freed.f
    rw [Option.bind_some, if_pos (by simp), Option.bind_some, if_pos (by simp)]
    by_cases hh : g ≥ n
    · rw [if_pos hh]; simp
    · rw [if_neg hh]; simp
end Go.Proofs.Ytbmecfpdemoooaa.Pure
