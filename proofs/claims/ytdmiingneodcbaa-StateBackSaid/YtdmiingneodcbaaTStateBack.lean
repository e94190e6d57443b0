/- What the printed functions on states tell, in plain whole numbers. -/
import Derived.Test.YtdmiingneodcbaaPStateBackx
import Derived.Test.YtdmiingneodcbaaFieldNums
namespace Go.Proofs.Ytdmiingneodcbaa.TStateBack
open Go Go.RowKit Go.Proofs.Ytdmiingneodcbaa.PStateBack Go.Proofs.YtdmiingneodcbaaW.PrintWords Go.Proofs.YtdmiingneodcbaaW.PrintLast Go.Proofs.YtdmiingneodcbaaW.PrintMore Go.Proofs.Ytdmiingneodcbaa.FB Go.Proofs.Ytdmiingneodcbaa.FN
set_option linter.unusedVariables false
set_option linter.unusedSimpArgs false
theorem awake_eq : cubiclelaw07_awake.f = some true := by
  unfold cubiclelaw07_awake.f
  rw [Giv.sformed_eq]
  have e : Giv.stw 5 1 0 = 1073741829 := by decide
  have e2 : decide (StF 5 1 0) = true := by decide
  rw [e2, Option.bind_some, if_pos rfl]
  unfold state_State_Word.f
  rw [e, Option.bind_some]
  rfl
theorem rformed_eq (g m t : Int) : cubicleref07_Formed.f g m t = some (decide (StF g m t)) := by
  unfold cubicleref07_Formed.f StF
  by_cases h1 : 0 ≤ g
  · by_cases h2 : g ≤ 1073741823
    · by_cases h3 : 0 ≤ m
      · by_cases h4 : m ≤ 3
        · by_cases h5 : 0 ≤ t
          · rw [if_pos h1, if_pos (by omega), if_pos h3, if_pos h4, if_pos h5]; simp [h1, h2, h3, h4, h5]
          · rw [if_pos h1, if_pos (by omega), if_pos h3, if_pos h4, if_neg h5]; simp [h5]
        · rw [if_pos h1, if_pos (by omega), if_pos h3, if_neg h4]; simp [h4]
      · rw [if_pos h1, if_pos (by omega), if_neg h3]; simp [h3]
    · rw [if_pos h1, if_neg (by omega)]; simp [h2]
  · rw [if_neg h1]; simp [h1]
end Go.Proofs.Ytdmiingneodcbaa.TStateBack
