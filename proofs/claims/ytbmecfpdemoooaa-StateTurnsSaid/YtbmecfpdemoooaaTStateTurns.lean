/- What the printed functions on states tell, in plain whole numbers. -/
import Derived.Test.YtbmecfpdemoooaaPStateTurnsx
import Derived.Test.YtbmecfpdemoooaaFieldNums
namespace Go.Proofs.Ytbmecfpdemoooaa.TStateTurns
open Go Go.RowKit Go.Proofs.Ytbmecfpdemoooaa.PStateTurns Go.Proofs.YtbmecfpdemoooaaW.PrintWords Go.Proofs.YtbmecfpdemoooaaW.PrintLast Go.Proofs.YtbmecfpdemoooaaW.PrintMore Go.Proofs.Ytbmecfpdemoooaa.FB Go.Proofs.Ytbmecfpdemoooaa.FN
set_option linter.unusedVariables false
set_option linter.unusedSimpArgs false
theorem awake_eq : cubiclelaw07_awake.f = some true := by
  unfold cubiclelaw07_awake.f
  rw [Giv.sformed_eq]
  have e : Giv.stw 5 1 0 = 1073741829 := by decide
  have e2 : decide (StF 5 1 0) = true := by decide
  rw [e2, Option.bind_some, if_pos rfl]
  unfold state_State_Word.f
  rw [e, Option.bind_some]
  rfl
end Go.Proofs.Ytbmecfpdemoooaa.TStateTurns
