/- What the printed functions on fields tell, in plain words of 64 bits. -/
import Derived.Test.YtdmenimdhcicjaaPHandleApartx
import Derived.Test.YtdmenimdhcicjaaFieldBits
namespace Go.Proofs.Ytdmenimdhcicjaa.FHandleApart
open Go Go.RowKit Go.Proofs.Ytdmenimdhcicjaa.PHandleApart Go.Proofs.YtdmenimdhcicjaaW.PrintWords Go.Proofs.YtdmenimdhcicjaaW.PrintLast Go.Proofs.YtdmenimdhcicjaaW.PrintMore Go.Proofs.Ytdmenimdhcicjaa.FB
set_option linter.unusedVariables false
set_option linter.unusedSimpArgs false

theorem formed_eq (a n : Int) : field_Field_Formed.f a n = some (decide (Fm a n)) := by
  unfold field_Field_Formed.f Fm
  by_cases h1 : 0 ≤ a
  · by_cases h2 : a < 64
    · by_cases h3 : 1 ≤ n
      · rw [if_pos h1, if_pos h2, if_pos h3, wrap_in (by omega)]; simp [h1, h2, h3]
      · rw [if_pos h1, if_pos h2, if_neg h3]; simp [h3]
    · rw [if_pos h1, if_neg h2]; simp [h2]
  · rw [if_neg h1]; simp [h1]
theorem formed_yes {a n : Int} (h : Fm a n) : field_Field_Formed.f a n = some true := by rw [formed_eq, decide_eq_true h]
theorem formed_no {a n : Int} (h : ¬ Fm a n) : field_Field_Formed.f a n = some false := by rw [formed_eq, decide_eq_false h]
theorem most_eq {A B : Nat} (h : Fm A B) : field_Field_Most.f A B = some (u (ones B)) := by
  unfold field_Field_Most.f
  rw [formed_yes h, Option.bind_some, if_pos rfl]
  unfold Fm at h
  by_cases h64 : (B : Int) = 64
  · have : B = 64 := by omega
    subst this
    rw [if_pos (by rfl), ones_64, ← all_u]
  · rw [if_neg h64, if_pos (by omega), most_u (by omega)]
theorem most_no {a n : Int} (h : ¬ Fm a n) : field_Field_Most.f a n = some 0 := by
  unfold field_Field_Most.f
  rw [formed_no h]
  simp
theorem mask_eq {A B : Nat} (h : Fm A B) : field_Field_mask.f A B = some (u (mask A B)) := by
  unfold field_Field_mask.f
  rw [formed_yes h, most_eq h, Option.bind_some, if_pos rfl, Option.bind_some]
  unfold Fm at h
  rw [if_pos (by omega), shl_u _ _ (by omega)]
  rfl
theorem get_eq {A B : Nat} (h : Fm A B) (w : BitVec 64) : field_Field_Get.f A B (u w) = some (u (get A B w)) := by
  unfold field_Field_Get.f
  rw [formed_yes h, most_eq h, Option.bind_some, if_pos rfl, Option.bind_some]
  unfold Fm at h
  rw [if_pos (by omega), shr_u _ _ (by omega), and_u]
  rfl
theorem get_no {a n : Int} (h : ¬ Fm a n) (w : Int) : field_Field_Get.f a n w = some 0 := by
  unfold field_Field_Get.f
  rw [formed_no h]
  simp
theorem put_eq {A B : Nat} (h : Fm A B) (w v : BitVec 64) : field_Field_Put.f A B (u w) (u v) = some (u (put A B w v)) := by
  unfold field_Field_Put.f
  rw [formed_yes h, most_eq h, mask_eq h, Option.bind_some, if_pos rfl, Option.bind_some, Option.bind_some]
  unfold Fm at h
  rw [if_pos (by omega), and_u, shl_u _ _ (by omega), andNot_u, or_u]
  rfl
theorem put_no {a n : Int} (h : ¬ Fm a n) (w v : Int) : field_Field_Put.f a n w v = some w := by
  unfold field_Field_Put.f
  rw [formed_no h]
  simp
end Go.Proofs.Ytdmenimdhcicjaa.FHandleApart
