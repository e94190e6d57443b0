/- What the printed functions on fields tell, in plain words of 64 bits. -/
import Derived.Test.YtbmecfpdemoooaaPFieldPacksx
import Derived.Test.YtbmecfpdemoooaaFieldBits
namespace Go.Proofs.Ytbmecfpdemoooaa.FFieldPacks
open Go Go.RowKit Go.Proofs.Ytbmecfpdemoooaa.PFieldPacks Go.Proofs.YtbmecfpdemoooaaW.PrintWords Go.Proofs.YtbmecfpdemoooaaW.PrintLast Go.Proofs.YtbmecfpdemoooaaW.PrintMore Go.Proofs.Ytbmecfpdemoooaa.FB
set_option linter.unusedVariables false
set_option linter.unusedSimpArgs false

theorem formed_eq (a n : Int) : field_Field_Formed.f a n = some (decide (Fm a n)) := by
  unfold field_Field_Formed.f Fm
  by_cases h1 : 0 ≤ a
  · by_cases h2 : a < 64
    · by_cases h3 : 1 ≤ n
      · rw [if_pos h1, if_pos h2, if_pos h3, wrap_in (by omega)]; simp [h1, h2, h3]
      · rw [if_pos h1, if_pos h2, if_neg h3]; simp [h3]
    · rw [if_pos h1, if_neg h2]; simp [h2]
  · rw [if_neg h1]; simp [h1]
theorem formed_yes {a n : Int} (h : Fm a n) : field_Field_Formed.f a n = some true := by rw [formed_eq, decide_eq_true h]
theorem formed_no {a n : Int} (h : ¬ Fm a n) : field_Field_Formed.f a n = some false := by rw [formed_eq, decide_eq_false h]
theorem most_eq {A B : Nat} (h : Fm A B) : field_Field_Most.f A B = some (u (ones B)) := by
  unfold field_Field_Most.f
  rw [formed_yes h, Option.bind_some, if_pos rfl]
  unfold Fm at h
  by_cases h64 : (B : Int) = 64
  · have : B = 64 := by omega
    subst this
    rw [if_pos (by rfl), ones_64, ← all_u]
  · rw [if_neg h64, if_pos (by omega), most_u (by omega)]
theorem most_no {a n : Int} (h : ¬ Fm a n) : field_Field_Most.f a n = some 0 := by
  unfold field_Field_Most.f
  rw [formed_no h]
  simp
theorem mask_eq {A B : Nat} (h : Fm A B) : field_Field_mask.f A B = some (u (mask A B)) := by
  unfold field_Field_mask.f
  rw [formed_yes h, most_eq h, Option.bind_some, if_pos rfl, Option.bind_some]
  unfold Fm at h
  rw [if_pos (by omega), shl_u _ _ (by omega)]
  rfl
theorem get_eq {A B : Nat} (h : Fm A B) (w : BitVec 64) : field_Field_Get.f A B (u w) = some (u (get A B w)) := by
  unfold field_Field_Get.f
  rw [formed_yes h, most_eq h, Option.bind_some, if_pos rfl, Option.bind_some]
  unfold Fm at h
  rw [if_pos (by omega), shr_u _ _ (by omega), and_u]
  rfl
theorem get_no {a n : Int} (h : ¬ Fm a n) (w : Int) : field_Field_Get.f a n w = some 0 := by
  unfold field_Field_Get.f
  rw [formed_no h]
  simp
theorem put_eq {A B : Nat} (h : Fm A B) (w v : BitVec 64) : field_Field_Put.f A B (u w) (u v) = some (u (put A B w v)) := by
  unfold field_Field_Put.f
  rw [formed_yes h, most_eq h, mask_eq h, Option.bind_some, if_pos rfl, Option.bind_some, Option.bind_some]
  unfold Fm at h
  rw [if_pos (by omega), and_u, shl_u _ _ (by omega), andNot_u, or_u]
  rfl
theorem put_no {a n : Int} (h : ¬ Fm a n) (w v : Int) : field_Field_Put.f a n w v = some w := by
  unfold field_Field_Put.f
  rw [formed_no h]
  simp
theorem rformed_eq (a n : Int) : cubicleref01_Formed.f a n = some (decide (Fm a n)) := by
  unfold cubicleref01_Formed.f Fm
  by_cases h1 : 0 ≤ a
  · by_cases h2 : a ≤ 63
    · by_cases h3 : 1 ≤ n
      · rw [if_pos h1, if_pos h2, if_pos h3, wrap_in (by omega)]; simp [h1, h3, show a < 64 by omega]
      · rw [if_pos h1, if_pos h2, if_neg h3]; simp [h3]
    · rw [if_pos h1, if_neg h2]; simp [show ¬ a < 64 by omega]
  · rw [if_neg h1]; simp [h1]
theorem rformed_yes {a n : Int} (h : Fm a n) : cubicleref01_Formed.f a n = some true := by rw [rformed_eq, decide_eq_true h]
theorem rformed_no {a n : Int} (h : ¬ Fm a n) : cubicleref01_Formed.f a n = some false := by rw [rformed_eq, decide_eq_false h]
theorem rget_loop {A B : Nat} (h : Fm A B) (w : BitVec 64) (d : Nat) : ∀ (k i : Nat) (v : BitVec 64), i + d = B → 2 * d < k + 0 →
    (∀ j, v.getLsbD j = (decide (j < i) && w.getLsbD (A + j))) → cubicleref01_Get.l0 (k + 2) (u w) (u v) i A B = some (u (get A B w)) := by
  have hh := h
  unfold Fm at hh
  induction d with
  | zero =>
    intro k i v hi hk hv
    simp only [cubicleref01_Get.l0]
    rw [if_neg (by omega)]
    simp only [cubicleref01_Get.j1]
    rw [if_neg (by simp)]
    have e : v = get A B w := by
      apply ext
      intro j hj
      rw [hv, bit_get (by omega)]
      rw [show i = B by omega]
    rw [e]
  | succ d ih =>
    intro k i v hi hk hv
    obtain ⟨k, rfl⟩ : ∃ m, k = m + 2 := ⟨k - 2, by omega⟩
    simp only [cubicleref01_Get.l0]
    rw [if_pos (by omega), rformed_yes h, Option.bind_some]
    simp only [cubicleref01_Get.j1]
    rw [if_pos True.intro]
    have e1 : wrap64 ((A : Int) + (i : Int)) = ((A + i : Nat) : Int) := by rw [wrap_in (by omega)]; omega
    have e2 : wrap64 ((i : Int) + 1) = ((i + 1 : Nat) : Int) := by rw [wrap_in (by omega)]; omega
    rw [e1, if_pos (by omega), e2]
    by_cases hb : w.getLsbD (A + i) = true
    · rw [if_pos ((bit_asked w _ (by omega)).2 hb), if_pos (by omega), one_u, shl_u _ _ (by omega), or_u]
      refine ih k (i + 1) _ (by omega) (by omega) (fun j => ?_)
      rw [BitVec.getLsbD_or, hv]
      by_cases hj : j < 64
      · rw [bit_shl1 _ _ hj]
        by_cases e : j = i
        · subst e; simp [hb]
        · have : (j < i + 1) ↔ (j < i) := by omega
          simp [e, this]
      · have h6 : w.getLsbD (A + j) = false := BitVec.getLsbD_of_ge _ _ (by omega)
        have h7 : (1#64 <<< i).getLsbD j = false := BitVec.getLsbD_of_ge _ _ (by omega)
        simp [h6, h7]
    · rw [if_neg (fun e => hb ((bit_asked w _ (by omega)).1 e))]
      refine ih k (i + 1) _ (by omega) (by omega) (fun j => ?_)
      rw [hv]
      by_cases e : j = i
      · subst e; simp [hb]
      · have : (j < i + 1) ↔ (j < i) := by omega
        simp [this]
theorem rget_eq {A B : Nat} (h : Fm A B) (w : BitVec 64) (k : Nat) (hk : 200 ≤ k) : cubicleref01_Get.f k A B (u w) = some (u (get A B w)) := by
  unfold cubicleref01_Get.f
  have hh := h
  unfold Fm at hh
  obtain ⟨k, rfl⟩ : ∃ m, k = m + 2 := ⟨k - 2, by omega⟩
  exact rget_loop h w B k 0 0#64 (by omega) (by omega) (fun j => by simp)
theorem rget_no {a n : Int} (h : ¬ Fm a n) (w : Int) (k : Nat) (hk : 200 ≤ k) : cubicleref01_Get.f k a n w = some 0 := by
  unfold cubicleref01_Get.f
  obtain ⟨k, rfl⟩ : ∃ m, k = m + 2 := ⟨k - 2, by omega⟩
  simp only [cubicleref01_Get.l0]
  rw [rformed_no h, Option.bind_some]
  simp only [cubicleref01_Get.j1]
  split <;> simp
theorem get_ones {A B : Nat} (h : Fm A B) : get A B (BitVec.allOnes 64) = ones B := by
  unfold Fm at h
  apply ext
  intro j hj
  rw [bit_get (by omega), bit_ones (by omega), BitVec.getLsbD_allOnes]
  simp
  omega
theorem rmost_eq {A B : Nat} (h : Fm A B) (k : Nat) (hk : 200 ≤ k) : cubicleref01_Most.f k A B = some (u (ones B)) := by
  unfold cubicleref01_Most.f
  rw [all_u, rget_eq h _ k hk, get_ones h]
  rfl
theorem rmost_no {a n : Int} (h : ¬ Fm a n) (k : Nat) (hk : 200 ≤ k) : cubicleref01_Most.f k a n = some 0 := by
  unfold cubicleref01_Most.f
  rw [rget_no h _ k hk]
  rfl
theorem rput_loop {A B : Nat} (h : Fm A B) (w v : BitVec 64) (d : Nat) : ∀ (k i : Nat) (x : BitVec 64), i + d = B → 2 * d < k + 0 →
    (∀ j, x.getLsbD j = if A ≤ j ∧ j < A + i then v.getLsbD (j - A) else w.getLsbD j) → cubicleref01_Put.l0 (k + 2) (u x) (u v) i A B = some (u (put A B w v)) := by
  have hh := h
  unfold Fm at hh
  induction d with
  | zero =>
    intro k i x hi hk hx
    simp only [cubicleref01_Put.l0]
    rw [if_neg (by omega)]
    simp only [cubicleref01_Put.j1]
    rw [if_neg (by simp)]
    have e : x = put A B w v := by
      apply ext
      intro j hj
      rw [hx, bit_put (by omega)]
      rw [show i = B by omega]
    rw [e]
  | succ d ih =>
    intro k i x hi hk hx
    obtain ⟨k, rfl⟩ : ∃ m, k = m + 2 := ⟨k - 2, by omega⟩
    simp only [cubicleref01_Put.l0]
    rw [if_pos (by omega), rformed_yes h, Option.bind_some]
    simp only [cubicleref01_Put.j1]
    rw [if_pos True.intro]
    have e1 : wrap64 ((A : Int) + (i : Int)) = ((A + i : Nat) : Int) := by rw [wrap_in (by omega)]; omega
    have e2 : wrap64 ((i : Int) + 1) = ((i + 1 : Nat) : Int) := by rw [wrap_in (by omega)]; omega
    rw [e1, if_pos (by omega), e2, if_pos (by omega)]
    by_cases hb : v.getLsbD i = true
    · rw [if_pos ((bit_asked v _ (by omega)).2 hb), one_u, shl_u _ _ (by omega), or_u]
      refine ih k (i + 1) _ (by omega) (by omega) (fun j => ?_)
      rw [BitVec.getLsbD_or, hx]
      by_cases hj : j < 64
      · rw [bit_shl1 _ _ hj]
        by_cases e : j = A + i
        · subst e; simp [hb]
        · have : (A ≤ j ∧ j < A + (i + 1)) ↔ (A ≤ j ∧ j < A + i) := by omega
          simp [e, this]
      · have h7 : (1#64 <<< (A + i)).getLsbD j = false := BitVec.getLsbD_of_ge _ _ (by omega)
        have c1 : ¬ (A ≤ j ∧ j < A + i) := by omega
        have c2 : ¬ (A ≤ j ∧ j < A + (i + 1)) := by omega
        rw [h7, if_neg c1, if_neg c2]; simp
    · rw [if_neg (fun e => hb ((bit_asked v _ (by omega)).1 e)), one_u, shl_u _ _ (by omega), andNot_u]
      refine ih k (i + 1) _ (by omega) (by omega) (fun j => ?_)
      rw [BitVec.getLsbD_and, BitVec.getLsbD_not, hx]
      by_cases hj : j < 64
      · rw [bit_shl1 _ _ hj]
        by_cases e : j = A + i
        · subst e; simp [hb]
        · have : (A ≤ j ∧ j < A + (i + 1)) ↔ (A ≤ j ∧ j < A + i) := by omega
          simp [e, this, hj]
      · have c1 : ¬ (A ≤ j ∧ j < A + i) := by omega
        have c2 : ¬ (A ≤ j ∧ j < A + (i + 1)) := by omega
        have h8 : w.getLsbD j = false := BitVec.getLsbD_of_ge _ _ (by omega)
        rw [if_neg c1, if_neg c2]; simp [hj, h8]
theorem rput_eq {A B : Nat} (h : Fm A B) (w v : BitVec 64) (k : Nat) (hk : 200 ≤ k) : cubicleref01_Put.f k A B (u w) (u v) = some (u (put A B w v)) := by
  unfold cubicleref01_Put.f
  have hh := h
  unfold Fm at hh
  obtain ⟨k, rfl⟩ : ∃ m, k = m + 2 := ⟨k - 2, by omega⟩
  exact rput_loop h w v B k 0 w (by omega) (by omega) (fun j => by
    have : ¬ (A ≤ j ∧ j < A + 0) := by omega
    rw [if_neg this])
theorem rput_no {a n : Int} (h : ¬ Fm a n) (w v : Int) (k : Nat) (hk : 200 ≤ k) : cubicleref01_Put.f k a n w v = some w := by
  unfold cubicleref01_Put.f
  obtain ⟨k, rfl⟩ : ∃ m, k = m + 2 := ⟨k - 2, by omega⟩
  simp only [cubicleref01_Put.l0]
  rw [rformed_no h, Option.bind_some]
  simp only [cubicleref01_Put.j1]
  split <;> simp
theorem awake_eq : cubiclelaw01_awake.f = some true := by
  unfold cubiclelaw01_awake.f
  have h : Fm ((4 : Nat) : Int) ((8 : Nat) : Int) := by decide
  have e1 : field_Field_Formed.f 4 8 = some true := by rw [formed_eq]; rfl
  have e2 : field_Field_Most.f 4 8 = some 255 := (most_eq h).trans rfl
  have e3 : field_Field_Get.f 4 8 147 = some 9 := by
    have := get_eq h 147#64
    exact this.trans (by decide)
  rw [e1, Option.bind_some, if_pos rfl, e2, Option.bind_some, if_pos rfl, e3]
  rfl
end Go.Proofs.Ytbmecfpdemoooaa.FFieldPacks
