/- What the printed functions on states tell, in plain whole numbers. -/
import Derived.Test.YtdmiingneodcbaaPStateWordsx
import Derived.Test.YtdmiingneodcbaaFieldNums
namespace Go.Proofs.Ytdmiingneodcbaa.TStateWords
open Go Go.RowKit Go.Proofs.Ytdmiingneodcbaa.PStateWords Go.Proofs.YtdmiingneodcbaaW.PrintWords Go.Proofs.YtdmiingneodcbaaW.PrintLast Go.Proofs.YtdmiingneodcbaaW.PrintMore Go.Proofs.Ytdmiingneodcbaa.FB Go.Proofs.Ytdmiingneodcbaa.FN
set_option linter.unusedVariables false
set_option linter.unusedSimpArgs false
theorem awake_eq : cubiclelaw07_awake.f = some true := by
  unfold cubiclelaw07_awake.f
  rw [Giv.sformed_eq]
  have e : Giv.stw 5 1 0 = 1073741829 := by decide
  have e2 : decide (StF 5 1 0) = true := by decide
  rw [e2, Option.bind_some, if_pos rfl]
  unfold state_State_Word.f
  rw [e, Option.bind_some]
  rfl
theorem rformed_eq (g m t : Int) : cubicleref07_Formed.f g m t = some (decide (StF g m t)) := by
  unfold cubicleref07_Formed.f StF
  by_cases h1 : 0 ≤ g
  · by_cases h2 : g ≤ 1073741823
    · by_cases h3 : 0 ≤ m
      · by_cases h4 : m ≤ 3
        · by_cases h5 : 0 ≤ t
          · rw [if_pos h1, if_pos (by omega), if_pos h3, if_pos h4, if_pos h5]; simp [h1, h2, h3, h4, h5]
          · rw [if_pos h1, if_pos (by omega), if_pos h3, if_pos h4, if_neg h5]; simp [h5]
        · rw [if_pos h1, if_pos (by omega), if_pos h3, if_neg h4]; simp [h4]
      · rw [if_pos h1, if_pos (by omega), if_neg h3]; simp [h3]
    · rw [if_pos h1, if_neg (by omega)]; simp [h2]
  · rw [if_neg h1]; simp [h1]
theorem rword_eq (g m t : Int) : cubicleref07_Word.f g m t = some (Giv.stw g m t) := by
  unfold cubicleref07_Word.f
  rw [rformed_eq]
  by_cases h : StF g m t
  · have e : Giv.stw g m t = g + m * 1073741824 + t * 4294967296 := if_pos h
    rw [decide_eq_true h, e, Option.bind_some, if_pos rfl]
    unfold StF at h
    simp only [wrapu]
    congr 1
    omega
  · have e : Giv.stw g m t = 0 := if_neg h
    rw [decide_eq_false h, e, Option.bind_some, if_neg (by simp)]
theorem rof_eq (x : Int) (h0 : 0 ≤ x) (h1 : x < 18446744073709551616) : cubicleref07_Of.f x = some (Giv2.sto x) := by
  unfold cubicleref07_Of.f
  have t1 : Int.tdiv x 1073741824 = x / 1073741824 := Int.tdiv_eq_ediv_of_nonneg h0
  have t2 : Int.tdiv x 4294967296 = x / 4294967296 := Int.tdiv_eq_ediv_of_nonneg h0
  have w1 : IntKind.u64.wrap (x / 1073741824) = x / 1073741824 := by rw [wrapu]; omega
  have w2 : IntKind.u64.wrap (x / 4294967296) = x / 4294967296 := by rw [wrapu]; omega
  rw [t1, t2, w1, w2, Int.tmod_eq_emod_of_nonneg h0, Int.tmod_eq_emod_of_nonneg (by omega), Int.tmod_eq_emod_of_nonneg (by omega)]
  have e1 : wrap64 (x % 1073741824) = x % 1073741824 := wrap_in (by omega)
  have e2 : wrap64 (x / 1073741824 % 4) = x / 1073741824 % 4 := wrap_in (by omega)
  have e3 : wrap64 (x / 4294967296 % 4) = x / 4294967296 % 4 := wrap_in (by omega)
  rw [e1, e2, e3, rformed_eq]
  by_cases hs : StF (x % 1073741824) (x / 1073741824 % 4) (x / 4294967296 % 4)
  · have e : Giv.stw (x % 1073741824) (x / 1073741824 % 4) (x / 4294967296 % 4) = x % 1073741824 + x / 1073741824 % 4 * 1073741824 + x / 4294967296 % 4 * 4294967296 := if_pos hs
    rw [decide_eq_true hs, Option.bind_some, if_pos rfl, rword_eq, e, Option.bind_some]
    unfold StF at hs
    by_cases h : x < 12884901888
    · have e3 : Giv2.sto x = (x % 1073741824, x / 1073741824 % 4, x / 4294967296 % 4, true) := if_pos ⟨h0, h⟩
      rw [e3, if_pos (by omega)]
    · have e3 : Giv2.sto x = (0, 0, 0, false) := if_neg (fun e => h e.2)
      rw [e3, if_neg (by omega)]
  · rw [decide_eq_false hs, Option.bind_some, if_neg (by simp)]
    have e3 : Giv2.sto x = (0, 0, 0, false) := if_neg (fun e => by apply hs; unfold StF; omega)
    rw [e3]
end Go.Proofs.Ytdmiingneodcbaa.TStateWords
