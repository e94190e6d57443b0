/- What the reference of decode.Of tells (DecodeOf alone). -/
import Derived.Test.YtdmiingneodcbaaQDecodeOf
namespace Go.Proofs.Ytdmiingneodcbaa.DDecodeOf
open Go Go.RowKit Go.Proofs.Ytdmiingneodcbaa.PDecodeOf Go.Proofs.YtdmiingneodcbaaW.PrintWords Go.Proofs.YtdmiingneodcbaaW.PrintLast Go.Proofs.YtdmiingneodcbaaW.PrintMore Go.Proofs.Ytdmiingneodcbaa.FB Giv4
set_option linter.unusedVariables false
set_option linter.unusedSimpArgs false
def W8 (l : List Int) (n : Nat) : Int := val ((l.drop n).take 8)
theorem word_loop (s : ByteArray) (at_ : Nat) (ha : at_ < 100000) (hs : s.size < 100000) : ∀ j i : Nat, i + j = 8 →
    Ev (fun k => cubicleref18_word.l0 k s (at_ : Int) (val (((Giv4.nums s).drop at_).take i)) (i : Int)) (W8 (Giv4.nums s) at_)
  | 0, i, h => by
    have hi : i = 8 := by omega
    subst hi
    refine Ev.step (f := fun _ => some (W8 (Giv4.nums s) at_)) (fun k => ?_) (Ev.now _)
    simp only [cubicleref18_word.l0]
    rw [if_neg (by omega)]
    rfl
  | j + 1, i, h => by
    have e8 : wrap64 (8 * (i : Int)) = ((8 * i : Nat) : Int) := by unfold wrap64; omega
    have e1 : wrap64 ((i : Int) + 1) = ((i + 1 : Nat) : Int) := by unfold wrap64; omega
    have ea : wrap64 ((at_ : Int) + (i : Int)) = ((at_ + i : Nat) : Int) := by unfold wrap64; omega
    by_cases hsz : at_ + i < s.size
    · refine Ev.step (fun k => ?_) (word_loop s at_ ha hs j (i + 1) (by omega))
      simp only [cubicleref18_word.l0]
      rw [if_pos (by omega), ea, if_pos (by omega), if_pos (by omega), if_pos (by rw [e8]; omega), e8, e1]
      have hr := val_range (((Giv4.nums s).drop at_).take i) (fun x hx => nums_range s x (List.mem_of_mem_drop (List.mem_of_mem_take hx)))
      have hl : (((Giv4.nums s).drop at_).take i).length = i := by rw [List.length_take, List.length_drop, nums_len]; omega
      rw [hl] at hr
      have hb := bt_range s ((at_ + i : Nat) : Int)
      obtain ⟨A, hA⟩ : ∃ A : Nat, val (((Giv4.nums s).drop at_).take i) = (A : Int) := ⟨_, (Int.toNat_of_nonneg hr.1).symm⟩
      obtain ⟨b, hb'⟩ : ∃ b : Nat, bt s ((at_ + i : Nat) : Int) = (b : Int) := ⟨_, (Int.toNat_of_nonneg hb.1).symm⟩
      have hp : ((256 : Int) ^ i) = ((2 ^ (8 * i) : Nat) : Int) := by rw [Nat.pow_mul]; simp
      have ht : ((Giv4.nums s).drop at_).take (i + 1) = ((Giv4.nums s).drop at_).take i ++ [bt s ((at_ + i : Nat) : Int)] := by
        rw [List.take_add_one, List.getElem?_drop, bt_nums s (at_ + i) hsz]
        rfl
      have hv : val (((Giv4.nums s).drop at_).take (i + 1)) = ((A + b * 2 ^ (8 * i) : Nat) : Int) := by
        rw [ht, val_snoc, hl, hA, hb', hp]
        simp
      rw [hv, hA, hb', or_val A b i (by omega) (by rw [hA, hp] at hr; exact_mod_cast hr.2) (by omega)]
    · have hd : ((Giv4.nums s).drop at_).length ≤ i := by rw [List.length_drop, nums_len]; omega
      refine Ev.step (f := fun _ => some (W8 (Giv4.nums s) at_)) (fun k => ?_) (Ev.now _)
      simp only [cubicleref18_word.l0]
      rw [if_pos (by omega), ea, if_neg (by omega)]
      unfold W8
      rw [List.take_of_length_le hd, List.take_of_length_le (by omega)]
theorem word_eq (s : ByteArray) (at_ : Nat) (ha : at_ < 100000) (hs : s.size < 100000) : Ev (fun k => cubicleref18_word.f k s (at_ : Int)) (W8 (Giv4.nums s) at_) := by
  unfold cubicleref18_word.f
  exact word_loop s at_ ha hs 8 0 rfl
-- printed by gen_ref.py from here on
def Tail (k : Nat) (s : ByteArray) (c d f h a b : Int) : Option (Int × Int × Int × Int × Int × Int × Int) := (cubicleref18_Formed.f k c d f h a b).bind fun t => (if t = true then ((cubicleref18_Bytes.f k c d f h a b).bind fun u => (if u.toList = s.toList then (some (c, d, f, h, a, b, 0)) else (some (0, 0, 0, 0, 0, 0, 2)))) else (some (0, 0, 0, 0, 0, 0, 2)))
def md (x : Int) : Int := wrap64 (Int.tmod x 256)
theorem ref_h (s t : ByteArray) (p i : Nat) (c d f h a b : Int) (hp : p < 100) (hs : s.size < 100000) (hi : i < t.size) (ht : t.size < 100) (hb : bt t (i : Int) = 104) (R : Int × Int × Int × Int × Int × Int × Int)
    (H : Ev (fun k => cubicleref18_Of.l0 k s t ((p + 8 : Nat) : Int) ((i + 1 : Nat) : Int) c d f (W8 (Giv4.nums s) p) a b) R) : Ev (fun k => cubicleref18_Of.l0 k s t (p : Int) (i : Int) c d f h a b) R := by
  have e1 : wrap64 ((i : Int) + 1) = ((i + 1 : Nat) : Int) := by unfold wrap64; omega
  have e2 : wrap64 ((p : Int) + 8) = ((p + 8 : Nat) : Int) := by unfold wrap64; omega
  refine Ev.step (f := fun k => (cubicleref18_word.f k s (p : Int)).bind fun t' => cubicleref18_Of.l0 k s t ((p + 8 : Nat) : Int) ((i + 1 : Nat) : Int) c d f t' a b) (fun k => ?_) (Ev.bind (word_eq s p (by omega) hs) H)
  simp only [cubicleref18_Of.l0]
  rw [if_pos (by omega), if_pos (by omega), if_pos hb, e1, e2]
  try rfl
theorem ref_a (s t : ByteArray) (p i : Nat) (c d f h a b : Int) (hp : p < 100) (hs : s.size < 100000) (hi : i < t.size) (ht : t.size < 100) (hb : bt t (i : Int) = 97) (R : Int × Int × Int × Int × Int × Int × Int)
    (H : Ev (fun k => cubicleref18_Of.l0 k s t ((p + 8 : Nat) : Int) ((i + 1 : Nat) : Int) c d f h (W8 (Giv4.nums s) p) b) R) : Ev (fun k => cubicleref18_Of.l0 k s t (p : Int) (i : Int) c d f h a b) R := by
  have e1 : wrap64 ((i : Int) + 1) = ((i + 1 : Nat) : Int) := by unfold wrap64; omega
  have e2 : wrap64 ((p : Int) + 8) = ((p + 8 : Nat) : Int) := by unfold wrap64; omega
  refine Ev.step (f := fun k => (cubicleref18_word.f k s (p : Int)).bind fun t' => cubicleref18_Of.l0 k s t ((p + 8 : Nat) : Int) ((i + 1 : Nat) : Int) c d f h t' b) (fun k => ?_) (Ev.bind (word_eq s p (by omega) hs) H)
  simp only [cubicleref18_Of.l0]
  rw [if_pos (by omega), if_pos (by omega), if_neg (by rw [hb]; decide), if_pos hb, e1, e2]
  try rfl
theorem ref_b (s t : ByteArray) (p i : Nat) (c d f h a b : Int) (hp : p < 100) (hs : s.size < 100000) (hi : i < t.size) (ht : t.size < 100) (hb : bt t (i : Int) = 98) (R : Int × Int × Int × Int × Int × Int × Int)
    (H : Ev (fun k => cubicleref18_Of.l0 k s t ((p + 8 : Nat) : Int) ((i + 1 : Nat) : Int) c d f h a (W8 (Giv4.nums s) p)) R) : Ev (fun k => cubicleref18_Of.l0 k s t (p : Int) (i : Int) c d f h a b) R := by
  have e1 : wrap64 ((i : Int) + 1) = ((i + 1 : Nat) : Int) := by unfold wrap64; omega
  have e2 : wrap64 ((p : Int) + 8) = ((p + 8 : Nat) : Int) := by unfold wrap64; omega
  refine Ev.step (f := fun k => (cubicleref18_word.f k s (p : Int)).bind fun t' => cubicleref18_Of.l0 k s t ((p + 8 : Nat) : Int) ((i + 1 : Nat) : Int) c d f h a t') (fun k => ?_) (Ev.bind (word_eq s p (by omega) hs) H)
  simp only [cubicleref18_Of.l0]
  rw [if_pos (by omega), if_pos (by omega), if_neg (by rw [hb]; decide), if_neg (by rw [hb]; decide), if_pos hb, e1, e2]
  try rfl
theorem ref_d (s t : ByteArray) (p i : Nat) (c d f h a b : Int) (hp : p < 100) (hs : s.size < 100000) (hi : i < t.size) (ht : t.size < 100) (hb : bt t (i : Int) = 100) (R : Int × Int × Int × Int × Int × Int × Int)
    (H : Ev (fun k => cubicleref18_Of.l0 k s t ((p + 1 : Nat) : Int) ((i + 1 : Nat) : Int) c (md (W8 (Giv4.nums s) p)) f h a b) R) : Ev (fun k => cubicleref18_Of.l0 k s t (p : Int) (i : Int) c d f h a b) R := by
  have e1 : wrap64 ((i : Int) + 1) = ((i + 1 : Nat) : Int) := by unfold wrap64; omega
  have e2 : wrap64 ((p : Int) + 1) = ((p + 1 : Nat) : Int) := by unfold wrap64; omega
  refine Ev.step (f := fun k => (cubicleref18_word.f k s (p : Int)).bind fun t' => cubicleref18_Of.l0 k s t ((p + 1 : Nat) : Int) ((i + 1 : Nat) : Int) c (md t') f h a b) (fun k => ?_) (Ev.bind (word_eq s p (by omega) hs) H)
  simp only [cubicleref18_Of.l0]
  rw [if_pos (by omega), if_pos (by omega), if_neg (by rw [hb]; decide), if_neg (by rw [hb]; decide), if_neg (by rw [hb]; decide), if_pos hb, e1, e2]
  try rfl
theorem ref_f (s t : ByteArray) (p i : Nat) (c d f h a b : Int) (hp : p < 100) (hs : s.size < 100000) (hi : i < t.size) (ht : t.size < 100) (hb : bt t (i : Int) = 102) (R : Int × Int × Int × Int × Int × Int × Int)
    (H : Ev (fun k => cubicleref18_Of.l0 k s t ((p + 1 : Nat) : Int) ((i + 1 : Nat) : Int) c d (md (W8 (Giv4.nums s) p)) h a b) R) : Ev (fun k => cubicleref18_Of.l0 k s t (p : Int) (i : Int) c d f h a b) R := by
  have e1 : wrap64 ((i : Int) + 1) = ((i + 1 : Nat) : Int) := by unfold wrap64; omega
  have e2 : wrap64 ((p : Int) + 1) = ((p + 1 : Nat) : Int) := by unfold wrap64; omega
  refine Ev.step (f := fun k => (cubicleref18_word.f k s (p : Int)).bind fun t' => cubicleref18_Of.l0 k s t ((p + 1 : Nat) : Int) ((i + 1 : Nat) : Int) c d (md t') h a b) (fun k => ?_) (Ev.bind (word_eq s p (by omega) hs) H)
  simp only [cubicleref18_Of.l0]
  rw [if_pos (by omega), if_pos (by omega), if_neg (by rw [hb]; decide), if_neg (by rw [hb]; decide), if_neg (by rw [hb]; decide), if_neg (by rw [hb]; decide), e1, e2]
  try rfl
theorem ref_end (s t : ByteArray) (p i : Int) (c d f h a b : Int) (hi : ¬ i < t.size) (R : Int × Int × Int × Int × Int × Int × Int) (H : Ev (fun k => Tail k s c d f h a b) R) : Ev (fun k => cubicleref18_Of.l0 k s t p i c d f h a b) R := by
  refine Ev.step (fun k => ?_) H
  simp only [cubicleref18_Of.l0, Tail]
  rw [if_neg hi]
theorem par_1 (s : ByteArray) (hs : s.size < 100000) (R : Int × Int × Int × Int × Int × Int × Int) (H : Ev (fun k => Tail k s 1 0 0 0 0 0) R) : Ev (fun k => cubicleref18_Of.l0 k s (asked 1) 1 0 1 0 0 0 0 0) R := by
  have es : asked 1 = ⟨#[]⟩ := by decide +kernel
  rw [es]
  exact ref_end s _ _ _ _ _ _ _ _ _ (by decide) R H
theorem par_2 (s : ByteArray) (hs : s.size < 100000) (R : Int × Int × Int × Int × Int × Int × Int) (H : Ev (fun k => Tail k s 2 0 0 (W8 (Giv4.nums s) 1) 0 0) R) : Ev (fun k => cubicleref18_Of.l0 k s (asked 2) 1 0 2 0 0 0 0 0) R := by
  have es : asked 2 = ⟨#[104]⟩ := by decide +kernel
  rw [es]
  refine ref_h s _ 1 0 _ _ _ _ _ _ (by omega) hs (by decide) (by decide) (by decide +kernel) R ?_
  exact ref_end s _ _ _ _ _ _ _ _ _ (by decide) R H
theorem par_3 (s : ByteArray) (hs : s.size < 100000) (R : Int × Int × Int × Int × Int × Int × Int) (H : Ev (fun k => Tail k s 3 0 (md (W8 (Giv4.nums s) 9)) (W8 (Giv4.nums s) 1) 0 0) R) : Ev (fun k => cubicleref18_Of.l0 k s (asked 3) 1 0 3 0 0 0 0 0) R := by
  have es : asked 3 = ⟨#[104, 102]⟩ := by decide +kernel
  rw [es]
  refine ref_h s _ 1 0 _ _ _ _ _ _ (by omega) hs (by decide) (by decide) (by decide +kernel) R ?_
  refine ref_f s _ 9 1 _ _ _ _ _ _ (by omega) hs (by decide) (by decide) (by decide +kernel) R ?_
  exact ref_end s _ _ _ _ _ _ _ _ _ (by decide) R H
theorem par_4 (s : ByteArray) (hs : s.size < 100000) (R : Int × Int × Int × Int × Int × Int × Int) (H : Ev (fun k => Tail k s 4 0 (md (W8 (Giv4.nums s) 9)) (W8 (Giv4.nums s) 1) (W8 (Giv4.nums s) 10) 0) R) : Ev (fun k => cubicleref18_Of.l0 k s (asked 4) 1 0 4 0 0 0 0 0) R := by
  have es : asked 4 = ⟨#[104, 102, 97]⟩ := by decide +kernel
  rw [es]
  refine ref_h s _ 1 0 _ _ _ _ _ _ (by omega) hs (by decide) (by decide) (by decide +kernel) R ?_
  refine ref_f s _ 9 1 _ _ _ _ _ _ (by omega) hs (by decide) (by decide) (by decide +kernel) R ?_
  refine ref_a s _ 10 2 _ _ _ _ _ _ (by omega) hs (by decide) (by decide) (by decide +kernel) R ?_
  exact ref_end s _ _ _ _ _ _ _ _ _ (by decide) R H
theorem par_5 (s : ByteArray) (hs : s.size < 100000) (R : Int × Int × Int × Int × Int × Int × Int) (H : Ev (fun k => Tail k s 5 0 (md (W8 (Giv4.nums s) 9)) (W8 (Giv4.nums s) 1) (W8 (Giv4.nums s) 10) (W8 (Giv4.nums s) 18)) R) : Ev (fun k => cubicleref18_Of.l0 k s (asked 5) 1 0 5 0 0 0 0 0) R := by
  have es : asked 5 = ⟨#[104, 102, 97, 98]⟩ := by decide +kernel
  rw [es]
  refine ref_h s _ 1 0 _ _ _ _ _ _ (by omega) hs (by decide) (by decide) (by decide +kernel) R ?_
  refine ref_f s _ 9 1 _ _ _ _ _ _ (by omega) hs (by decide) (by decide) (by decide +kernel) R ?_
  refine ref_a s _ 10 2 _ _ _ _ _ _ (by omega) hs (by decide) (by decide) (by decide +kernel) R ?_
  refine ref_b s _ 18 3 _ _ _ _ _ _ (by omega) hs (by decide) (by decide) (by decide +kernel) R ?_
  exact ref_end s _ _ _ _ _ _ _ _ _ (by decide) R H
theorem par_6 (s : ByteArray) (hs : s.size < 100000) (R : Int × Int × Int × Int × Int × Int × Int) (H : Ev (fun k => Tail k s 6 0 0 0 0 0) R) : Ev (fun k => cubicleref18_Of.l0 k s (asked 6) 1 0 6 0 0 0 0 0) R := by
  have es : asked 6 = ⟨#[]⟩ := by decide +kernel
  rw [es]
  exact ref_end s _ _ _ _ _ _ _ _ _ (by decide) R H
theorem par_7 (s : ByteArray) (hs : s.size < 100000) (R : Int × Int × Int × Int × Int × Int × Int) (H : Ev (fun k => Tail k s 7 (md (W8 (Giv4.nums s) 1)) 0 0 (W8 (Giv4.nums s) 2) 0) R) : Ev (fun k => cubicleref18_Of.l0 k s (asked 7) 1 0 7 0 0 0 0 0) R := by
  have es : asked 7 = ⟨#[100, 97]⟩ := by decide +kernel
  rw [es]
  refine ref_d s _ 1 0 _ _ _ _ _ _ (by omega) hs (by decide) (by decide) (by decide +kernel) R ?_
  refine ref_a s _ 2 1 _ _ _ _ _ _ (by omega) hs (by decide) (by decide) (by decide +kernel) R ?_
  exact ref_end s _ _ _ _ _ _ _ _ _ (by decide) R H
theorem par_8 (s : ByteArray) (hs : s.size < 100000) (R : Int × Int × Int × Int × Int × Int × Int) (H : Ev (fun k => Tail k s 8 (md (W8 (Giv4.nums s) 1)) 0 0 0 0) R) : Ev (fun k => cubicleref18_Of.l0 k s (asked 8) 1 0 8 0 0 0 0 0) R := by
  have es : asked 8 = ⟨#[100]⟩ := by decide +kernel
  rw [es]
  refine ref_d s _ 1 0 _ _ _ _ _ _ (by omega) hs (by decide) (by decide) (by decide +kernel) R ?_
  exact ref_end s _ _ _ _ _ _ _ _ _ (by decide) R H
theorem par_9 (s : ByteArray) (hs : s.size < 100000) (R : Int × Int × Int × Int × Int × Int × Int) (H : Ev (fun k => Tail k s 9 0 0 0 0 0) R) : Ev (fun k => cubicleref18_Of.l0 k s (asked 9) 1 0 9 0 0 0 0 0) R := by
  have es : asked 9 = ⟨#[]⟩ := by decide +kernel
  rw [es]
  exact ref_end s _ _ _ _ _ _ _ _ _ (by decide) R H
theorem par_10 (s : ByteArray) (hs : s.size < 100000) (R : Int × Int × Int × Int × Int × Int × Int) (H : Ev (fun k => Tail k s 10 (md (W8 (Giv4.nums s) 1)) 0 0 (W8 (Giv4.nums s) 2) (W8 (Giv4.nums s) 10)) R) : Ev (fun k => cubicleref18_Of.l0 k s (asked 10) 1 0 10 0 0 0 0 0) R := by
  have es : asked 10 = ⟨#[100, 97, 98]⟩ := by decide +kernel
  rw [es]
  refine ref_d s _ 1 0 _ _ _ _ _ _ (by omega) hs (by decide) (by decide) (by decide +kernel) R ?_
  refine ref_a s _ 2 1 _ _ _ _ _ _ (by omega) hs (by decide) (by decide) (by decide +kernel) R ?_
  refine ref_b s _ 10 2 _ _ _ _ _ _ (by omega) hs (by decide) (by decide) (by decide +kernel) R ?_
  exact ref_end s _ _ _ _ _ _ _ _ _ (by decide) R H
theorem par_11 (s : ByteArray) (hs : s.size < 100000) (R : Int × Int × Int × Int × Int × Int × Int) (H : Ev (fun k => Tail k s 11 (md (W8 (Giv4.nums s) 1)) 0 0 (W8 (Giv4.nums s) 2) 0) R) : Ev (fun k => cubicleref18_Of.l0 k s (asked 11) 1 0 11 0 0 0 0 0) R := by
  have es : asked 11 = ⟨#[100, 97]⟩ := by decide +kernel
  rw [es]
  refine ref_d s _ 1 0 _ _ _ _ _ _ (by omega) hs (by decide) (by decide) (by decide +kernel) R ?_
  refine ref_a s _ 2 1 _ _ _ _ _ _ (by omega) hs (by decide) (by decide) (by decide +kernel) R ?_
  exact ref_end s _ _ _ _ _ _ _ _ _ (by decide) R H
theorem par_12 (s : ByteArray) (hs : s.size < 100000) (R : Int × Int × Int × Int × Int × Int × Int) (H : Ev (fun k => Tail k s 12 (md (W8 (Giv4.nums s) 1)) 0 0 (W8 (Giv4.nums s) 2) 0) R) : Ev (fun k => cubicleref18_Of.l0 k s (asked 12) 1 0 12 0 0 0 0 0) R := by
  have es : asked 12 = ⟨#[100, 97]⟩ := by decide +kernel
  rw [es]
  refine ref_d s _ 1 0 _ _ _ _ _ _ (by omega) hs (by decide) (by decide) (by decide +kernel) R ?_
  refine ref_a s _ 2 1 _ _ _ _ _ _ (by omega) hs (by decide) (by decide) (by decide +kernel) R ?_
  exact ref_end s _ _ _ _ _ _ _ _ _ (by decide) R H
end Go.Proofs.Ytdmiingneodcbaa.DDecodeOf
