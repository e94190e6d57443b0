/- DecodeOf, plainly: the program and the reference read the same operation, or none. -/
import Derived.Test.YtdmiingneodcbaaRDecodeOf
namespace Go.Proofs.Ytdmiingneodcbaa.Pure
open Go Go.RowKit Go.Proofs.Ytdmiingneodcbaa.PDecodeOf Go.Proofs.YtdmiingneodcbaaW.PrintWords Go.Proofs.Ytdmiingneodcbaa.DDecodeOf Go.Proofs.Ytdmiingneodcbaa.FB Giv4
set_option linter.unusedVariables false
set_option linter.unusedSimpArgs false
theorem list_inj {l m : List Int} (hl : ∀ y ∈ l, 0 ≤ y ∧ y < 256) (hm : ∀ y ∈ m, 0 ≤ y ∧ y < 256) (e : strOfNums l = strOfNums m) : l = m := by
  rw [← nums_str hl, e, nums_str hm]
theorem str_nums (s : ByteArray) : strOfNums (Giv4.nums s) = s := by
  apply ByteArray.ext
  apply Array.toList_inj.1
  simp [strOfNums, Giv4.nums, Function.comp_def]
theorem tail_eq (s : ByteArray) (c d f h a b : Int) : Ev (fun k => Tail k s c d f h a b) (if Giv.OpF c d f h a b ∧ bytO c d f h a b = Giv4.nums s then (c, d, f, h, a, b, 0) else (0, 0, 0, 0, 0, 0, 2)) := by
  unfold Tail
  refine Ev.bind (rformed_eq c d f h a b) ?_
  by_cases hF : Giv.OpF c d f h a b
  · rw [show decide (Giv.OpF c d f h a b) = true from decide_eq_true hF]
    refine Ev.congr (fun k => if_pos rfl) ?_
    refine Ev.bind (rbytes_eq c d f h a b) ?_
    rw [if_pos hF]
    have e : (strOfNums (bytO c d f h a b)).toList = s.toList ↔ bytO c d f h a b = Giv4.nums s := by
      rw [ByteArray.toList_eq, ByteArray.toList_eq]
      constructor
      · intro q
        apply list_inj (bytO_range c d f h a b) (nums_range s)
        rw [str_nums]
        exact ByteArray.ext (Array.toList_inj.1 q)
      · intro q
        rw [q, str_nums]
    by_cases hq : bytO c d f h a b = Giv4.nums s
    · refine Ev.congr (fun k => if_pos (e.2 hq)) ?_
      rw [if_pos ⟨hF, hq⟩]
      exact Ev.now _
    · refine Ev.congr (fun k => if_neg (fun x => hq (e.1 x))) ?_
      rw [if_neg (fun x => hq x.2)]
      exact Ev.now _
  · rw [show decide (Giv.OpF c d f h a b) = false from decide_eq_false hF, if_neg (fun x => hF x.1)]
    exact Ev.congr (fun k => if_neg (by simp)) (Ev.now _)
theorem md_in {x : Int} (h : 0 ≤ x) (h2 : x < 256) : md x = x := by
  unfold md
  rw [Int.tmod_eq_emod_of_nonneg h, wrap_in (by omega)]
  omega

theorem join_1 (s : ByteArray) (hh : ∀ d f h a b, Giv4.nums s = bytO 1 d f h a b → Giv.OpF 1 d f h a b → Rg h a b → (0, 0, 0, 0, 0) = (d, f, h, a, b)) (hs : s.size < 100000) (hr : Rg 0 0 0) (hc : ∀ c d f h a b, Giv4.nums s = bytO c d f h a b → Giv.OpF c d f h a b → c = 1) :
    Ev (fun k => cubicleref18_Of.l0 k s (asked 1) 1 0 1 0 0 0 0 0) (ofL (Giv4.nums s)) := by
  refine par_1 s hs _ ?_
  have T := tail_eq s 1 0 0 0 0 0
  by_cases hq : Giv.OpF 1 0 0 0 0 0 ∧ bytO 1 0 0 0 0 0 = Giv4.nums s
  · rw [if_pos hq] at T
    have E := ofL_byt hq.1 hr
    rw [hq.2] at E
    rw [E]
    exact T
  · rw [if_neg hq] at T
    rcases ofL_inv (nums_range s) with e | ⟨c', d, f, h, a, b, _, hF, hR, e⟩
    · rw [e]
      exact T
    · obtain rfl := hc c' d f h a b e hF
      have := hh d f h a b e hF hR
      simp only [Prod.mk.injEq] at this
      obtain ⟨q1, q2, q3, q4, q5⟩ := this
      rw [← q1, ← q2, ← q3, ← q4, ← q5] at hF e
      exact absurd ⟨hF, e.symm⟩ hq

theorem join_2 (s : ByteArray) (hh : ∀ d f h a b, Giv4.nums s = bytO 2 d f h a b → Giv.OpF 2 d f h a b → Rg h a b → (0, 0, (W8 (Giv4.nums s) 1), 0, 0) = (d, f, h, a, b)) (hs : s.size < 100000) (hr : Rg (W8 (Giv4.nums s) 1) 0 0) (hc : ∀ c d f h a b, Giv4.nums s = bytO c d f h a b → Giv.OpF c d f h a b → c = 2) :
    Ev (fun k => cubicleref18_Of.l0 k s (asked 2) 1 0 2 0 0 0 0 0) (ofL (Giv4.nums s)) := by
  refine par_2 s hs _ ?_
  have T := tail_eq s 2 0 0 (W8 (Giv4.nums s) 1) 0 0
  by_cases hq : Giv.OpF 2 0 0 (W8 (Giv4.nums s) 1) 0 0 ∧ bytO 2 0 0 (W8 (Giv4.nums s) 1) 0 0 = Giv4.nums s
  · rw [if_pos hq] at T
    have E := ofL_byt hq.1 hr
    rw [hq.2] at E
    rw [E]
    exact T
  · rw [if_neg hq] at T
    rcases ofL_inv (nums_range s) with e | ⟨c', d, f, h, a, b, _, hF, hR, e⟩
    · rw [e]
      exact T
    · obtain rfl := hc c' d f h a b e hF
      have := hh d f h a b e hF hR
      simp only [Prod.mk.injEq] at this
      obtain ⟨q1, q2, q3, q4, q5⟩ := this
      rw [← q1, ← q2, ← q3, ← q4, ← q5] at hF e
      exact absurd ⟨hF, e.symm⟩ hq

theorem join_3 (s : ByteArray) (hh : ∀ d f h a b, Giv4.nums s = bytO 3 d f h a b → Giv.OpF 3 d f h a b → Rg h a b → (0, (md (W8 (Giv4.nums s) 9)), (W8 (Giv4.nums s) 1), 0, 0) = (d, f, h, a, b)) (hs : s.size < 100000) (hr : Rg (W8 (Giv4.nums s) 1) 0 0) (hc : ∀ c d f h a b, Giv4.nums s = bytO c d f h a b → Giv.OpF c d f h a b → c = 3) :
    Ev (fun k => cubicleref18_Of.l0 k s (asked 3) 1 0 3 0 0 0 0 0) (ofL (Giv4.nums s)) := by
  refine par_3 s hs _ ?_
  have T := tail_eq s 3 0 (md (W8 (Giv4.nums s) 9)) (W8 (Giv4.nums s) 1) 0 0
  by_cases hq : Giv.OpF 3 0 (md (W8 (Giv4.nums s) 9)) (W8 (Giv4.nums s) 1) 0 0 ∧ bytO 3 0 (md (W8 (Giv4.nums s) 9)) (W8 (Giv4.nums s) 1) 0 0 = Giv4.nums s
  · rw [if_pos hq] at T
    have E := ofL_byt hq.1 hr
    rw [hq.2] at E
    rw [E]
    exact T
  · rw [if_neg hq] at T
    rcases ofL_inv (nums_range s) with e | ⟨c', d, f, h, a, b, _, hF, hR, e⟩
    · rw [e]
      exact T
    · obtain rfl := hc c' d f h a b e hF
      have := hh d f h a b e hF hR
      simp only [Prod.mk.injEq] at this
      obtain ⟨q1, q2, q3, q4, q5⟩ := this
      rw [← q1, ← q2, ← q3, ← q4, ← q5] at hF e
      exact absurd ⟨hF, e.symm⟩ hq

theorem join_4 (s : ByteArray) (hh : ∀ d f h a b, Giv4.nums s = bytO 4 d f h a b → Giv.OpF 4 d f h a b → Rg h a b → (0, (md (W8 (Giv4.nums s) 9)), (W8 (Giv4.nums s) 1), (W8 (Giv4.nums s) 10), 0) = (d, f, h, a, b)) (hs : s.size < 100000) (hr : Rg (W8 (Giv4.nums s) 1) (W8 (Giv4.nums s) 10) 0) (hc : ∀ c d f h a b, Giv4.nums s = bytO c d f h a b → Giv.OpF c d f h a b → c = 4) :
    Ev (fun k => cubicleref18_Of.l0 k s (asked 4) 1 0 4 0 0 0 0 0) (ofL (Giv4.nums s)) := by
  refine par_4 s hs _ ?_
  have T := tail_eq s 4 0 (md (W8 (Giv4.nums s) 9)) (W8 (Giv4.nums s) 1) (W8 (Giv4.nums s) 10) 0
  by_cases hq : Giv.OpF 4 0 (md (W8 (Giv4.nums s) 9)) (W8 (Giv4.nums s) 1) (W8 (Giv4.nums s) 10) 0 ∧ bytO 4 0 (md (W8 (Giv4.nums s) 9)) (W8 (Giv4.nums s) 1) (W8 (Giv4.nums s) 10) 0 = Giv4.nums s
  · rw [if_pos hq] at T
    have E := ofL_byt hq.1 hr
    rw [hq.2] at E
    rw [E]
    exact T
  · rw [if_neg hq] at T
    rcases ofL_inv (nums_range s) with e | ⟨c', d, f, h, a, b, _, hF, hR, e⟩
    · rw [e]
      exact T
    · obtain rfl := hc c' d f h a b e hF
      have := hh d f h a b e hF hR
      simp only [Prod.mk.injEq] at this
      obtain ⟨q1, q2, q3, q4, q5⟩ := this
      rw [← q1, ← q2, ← q3, ← q4, ← q5] at hF e
      exact absurd ⟨hF, e.symm⟩ hq

theorem join_5 (s : ByteArray) (hh : ∀ d f h a b, Giv4.nums s = bytO 5 d f h a b → Giv.OpF 5 d f h a b → Rg h a b → (0, (md (W8 (Giv4.nums s) 9)), (W8 (Giv4.nums s) 1), (W8 (Giv4.nums s) 10), (W8 (Giv4.nums s) 18)) = (d, f, h, a, b)) (hs : s.size < 100000) (hr : Rg (W8 (Giv4.nums s) 1) (W8 (Giv4.nums s) 10) (W8 (Giv4.nums s) 18)) (hc : ∀ c d f h a b, Giv4.nums s = bytO c d f h a b → Giv.OpF c d f h a b → c = 5) :
    Ev (fun k => cubicleref18_Of.l0 k s (asked 5) 1 0 5 0 0 0 0 0) (ofL (Giv4.nums s)) := by
  refine par_5 s hs _ ?_
  have T := tail_eq s 5 0 (md (W8 (Giv4.nums s) 9)) (W8 (Giv4.nums s) 1) (W8 (Giv4.nums s) 10) (W8 (Giv4.nums s) 18)
  by_cases hq : Giv.OpF 5 0 (md (W8 (Giv4.nums s) 9)) (W8 (Giv4.nums s) 1) (W8 (Giv4.nums s) 10) (W8 (Giv4.nums s) 18) ∧ bytO 5 0 (md (W8 (Giv4.nums s) 9)) (W8 (Giv4.nums s) 1) (W8 (Giv4.nums s) 10) (W8 (Giv4.nums s) 18) = Giv4.nums s
  · rw [if_pos hq] at T
    have E := ofL_byt hq.1 hr
    rw [hq.2] at E
    rw [E]
    exact T
  · rw [if_neg hq] at T
    rcases ofL_inv (nums_range s) with e | ⟨c', d, f, h, a, b, _, hF, hR, e⟩
    · rw [e]
      exact T
    · obtain rfl := hc c' d f h a b e hF
      have := hh d f h a b e hF hR
      simp only [Prod.mk.injEq] at this
      obtain ⟨q1, q2, q3, q4, q5⟩ := this
      rw [← q1, ← q2, ← q3, ← q4, ← q5] at hF e
      exact absurd ⟨hF, e.symm⟩ hq

theorem join_6 (s : ByteArray) (hh : ∀ d f h a b, Giv4.nums s = bytO 6 d f h a b → Giv.OpF 6 d f h a b → Rg h a b → (0, 0, 0, 0, 0) = (d, f, h, a, b)) (hs : s.size < 100000) (hr : Rg 0 0 0) (hc : ∀ c d f h a b, Giv4.nums s = bytO c d f h a b → Giv.OpF c d f h a b → c = 6) :
    Ev (fun k => cubicleref18_Of.l0 k s (asked 6) 1 0 6 0 0 0 0 0) (ofL (Giv4.nums s)) := by
  refine par_6 s hs _ ?_
  have T := tail_eq s 6 0 0 0 0 0
  by_cases hq : Giv.OpF 6 0 0 0 0 0 ∧ bytO 6 0 0 0 0 0 = Giv4.nums s
  · rw [if_pos hq] at T
    have E := ofL_byt hq.1 hr
    rw [hq.2] at E
    rw [E]
    exact T
  · rw [if_neg hq] at T
    rcases ofL_inv (nums_range s) with e | ⟨c', d, f, h, a, b, _, hF, hR, e⟩
    · rw [e]
      exact T
    · obtain rfl := hc c' d f h a b e hF
      have := hh d f h a b e hF hR
      simp only [Prod.mk.injEq] at this
      obtain ⟨q1, q2, q3, q4, q5⟩ := this
      rw [← q1, ← q2, ← q3, ← q4, ← q5] at hF e
      exact absurd ⟨hF, e.symm⟩ hq

theorem join_7 (s : ByteArray) (hh : ∀ d f h a b, Giv4.nums s = bytO 7 d f h a b → Giv.OpF 7 d f h a b → Rg h a b → ((md (W8 (Giv4.nums s) 1)), 0, 0, (W8 (Giv4.nums s) 2), 0) = (d, f, h, a, b)) (hs : s.size < 100000) (hr : Rg 0 (W8 (Giv4.nums s) 2) 0) (hc : ∀ c d f h a b, Giv4.nums s = bytO c d f h a b → Giv.OpF c d f h a b → c = 7) :
    Ev (fun k => cubicleref18_Of.l0 k s (asked 7) 1 0 7 0 0 0 0 0) (ofL (Giv4.nums s)) := by
  refine par_7 s hs _ ?_
  have T := tail_eq s 7 (md (W8 (Giv4.nums s) 1)) 0 0 (W8 (Giv4.nums s) 2) 0
  by_cases hq : Giv.OpF 7 (md (W8 (Giv4.nums s) 1)) 0 0 (W8 (Giv4.nums s) 2) 0 ∧ bytO 7 (md (W8 (Giv4.nums s) 1)) 0 0 (W8 (Giv4.nums s) 2) 0 = Giv4.nums s
  · rw [if_pos hq] at T
    have E := ofL_byt hq.1 hr
    rw [hq.2] at E
    rw [E]
    exact T
  · rw [if_neg hq] at T
    rcases ofL_inv (nums_range s) with e | ⟨c', d, f, h, a, b, _, hF, hR, e⟩
    · rw [e]
      exact T
    · obtain rfl := hc c' d f h a b e hF
      have := hh d f h a b e hF hR
      simp only [Prod.mk.injEq] at this
      obtain ⟨q1, q2, q3, q4, q5⟩ := this
      rw [← q1, ← q2, ← q3, ← q4, ← q5] at hF e
      exact absurd ⟨hF, e.symm⟩ hq

theorem join_8 (s : ByteArray) (hh : ∀ d f h a b, Giv4.nums s = bytO 8 d f h a b → Giv.OpF 8 d f h a b → Rg h a b → ((md (W8 (Giv4.nums s) 1)), 0, 0, 0, 0) = (d, f, h, a, b)) (hs : s.size < 100000) (hr : Rg 0 0 0) (hc : ∀ c d f h a b, Giv4.nums s = bytO c d f h a b → Giv.OpF c d f h a b → c = 8) :
    Ev (fun k => cubicleref18_Of.l0 k s (asked 8) 1 0 8 0 0 0 0 0) (ofL (Giv4.nums s)) := by
  refine par_8 s hs _ ?_
  have T := tail_eq s 8 (md (W8 (Giv4.nums s) 1)) 0 0 0 0
  by_cases hq : Giv.OpF 8 (md (W8 (Giv4.nums s) 1)) 0 0 0 0 ∧ bytO 8 (md (W8 (Giv4.nums s) 1)) 0 0 0 0 = Giv4.nums s
  · rw [if_pos hq] at T
    have E := ofL_byt hq.1 hr
    rw [hq.2] at E
    rw [E]
    exact T
  · rw [if_neg hq] at T
    rcases ofL_inv (nums_range s) with e | ⟨c', d, f, h, a, b, _, hF, hR, e⟩
    · rw [e]
      exact T
    · obtain rfl := hc c' d f h a b e hF
      have := hh d f h a b e hF hR
      simp only [Prod.mk.injEq] at this
      obtain ⟨q1, q2, q3, q4, q5⟩ := this
      rw [← q1, ← q2, ← q3, ← q4, ← q5] at hF e
      exact absurd ⟨hF, e.symm⟩ hq

theorem join_9 (s : ByteArray) (hh : ∀ d f h a b, Giv4.nums s = bytO 9 d f h a b → Giv.OpF 9 d f h a b → Rg h a b → (0, 0, 0, 0, 0) = (d, f, h, a, b)) (hs : s.size < 100000) (hr : Rg 0 0 0) (hc : ∀ c d f h a b, Giv4.nums s = bytO c d f h a b → Giv.OpF c d f h a b → c = 9) :
    Ev (fun k => cubicleref18_Of.l0 k s (asked 9) 1 0 9 0 0 0 0 0) (ofL (Giv4.nums s)) := by
  refine par_9 s hs _ ?_
  have T := tail_eq s 9 0 0 0 0 0
  by_cases hq : Giv.OpF 9 0 0 0 0 0 ∧ bytO 9 0 0 0 0 0 = Giv4.nums s
  · rw [if_pos hq] at T
    have E := ofL_byt hq.1 hr
    rw [hq.2] at E
    rw [E]
    exact T
  · rw [if_neg hq] at T
    rcases ofL_inv (nums_range s) with e | ⟨c', d, f, h, a, b, _, hF, hR, e⟩
    · rw [e]
      exact T
    · obtain rfl := hc c' d f h a b e hF
      have := hh d f h a b e hF hR
      simp only [Prod.mk.injEq] at this
      obtain ⟨q1, q2, q3, q4, q5⟩ := this
      rw [← q1, ← q2, ← q3, ← q4, ← q5] at hF e
      exact absurd ⟨hF, e.symm⟩ hq

theorem join_10 (s : ByteArray) (hh : ∀ d f h a b, Giv4.nums s = bytO 10 d f h a b → Giv.OpF 10 d f h a b → Rg h a b → ((md (W8 (Giv4.nums s) 1)), 0, 0, (W8 (Giv4.nums s) 2), (W8 (Giv4.nums s) 10)) = (d, f, h, a, b)) (hs : s.size < 100000) (hr : Rg 0 (W8 (Giv4.nums s) 2) (W8 (Giv4.nums s) 10)) (hc : ∀ c d f h a b, Giv4.nums s = bytO c d f h a b → Giv.OpF c d f h a b → c = 10) :
    Ev (fun k => cubicleref18_Of.l0 k s (asked 10) 1 0 10 0 0 0 0 0) (ofL (Giv4.nums s)) := by
  refine par_10 s hs _ ?_
  have T := tail_eq s 10 (md (W8 (Giv4.nums s) 1)) 0 0 (W8 (Giv4.nums s) 2) (W8 (Giv4.nums s) 10)
  by_cases hq : Giv.OpF 10 (md (W8 (Giv4.nums s) 1)) 0 0 (W8 (Giv4.nums s) 2) (W8 (Giv4.nums s) 10) ∧ bytO 10 (md (W8 (Giv4.nums s) 1)) 0 0 (W8 (Giv4.nums s) 2) (W8 (Giv4.nums s) 10) = Giv4.nums s
  · rw [if_pos hq] at T
    have E := ofL_byt hq.1 hr
    rw [hq.2] at E
    rw [E]
    exact T
  · rw [if_neg hq] at T
    rcases ofL_inv (nums_range s) with e | ⟨c', d, f, h, a, b, _, hF, hR, e⟩
    · rw [e]
      exact T
    · obtain rfl := hc c' d f h a b e hF
      have := hh d f h a b e hF hR
      simp only [Prod.mk.injEq] at this
      obtain ⟨q1, q2, q3, q4, q5⟩ := this
      rw [← q1, ← q2, ← q3, ← q4, ← q5] at hF e
      exact absurd ⟨hF, e.symm⟩ hq

theorem join_11 (s : ByteArray) (hh : ∀ d f h a b, Giv4.nums s = bytO 11 d f h a b → Giv.OpF 11 d f h a b → Rg h a b → ((md (W8 (Giv4.nums s) 1)), 0, 0, (W8 (Giv4.nums s) 2), 0) = (d, f, h, a, b)) (hs : s.size < 100000) (hr : Rg 0 (W8 (Giv4.nums s) 2) 0) (hc : ∀ c d f h a b, Giv4.nums s = bytO c d f h a b → Giv.OpF c d f h a b → c = 11) :
    Ev (fun k => cubicleref18_Of.l0 k s (asked 11) 1 0 11 0 0 0 0 0) (ofL (Giv4.nums s)) := by
  refine par_11 s hs _ ?_
  have T := tail_eq s 11 (md (W8 (Giv4.nums s) 1)) 0 0 (W8 (Giv4.nums s) 2) 0
  by_cases hq : Giv.OpF 11 (md (W8 (Giv4.nums s) 1)) 0 0 (W8 (Giv4.nums s) 2) 0 ∧ bytO 11 (md (W8 (Giv4.nums s) 1)) 0 0 (W8 (Giv4.nums s) 2) 0 = Giv4.nums s
  · rw [if_pos hq] at T
    have E := ofL_byt hq.1 hr
    rw [hq.2] at E
    rw [E]
    exact T
  · rw [if_neg hq] at T
    rcases ofL_inv (nums_range s) with e | ⟨c', d, f, h, a, b, _, hF, hR, e⟩
    · rw [e]
      exact T
    · obtain rfl := hc c' d f h a b e hF
      have := hh d f h a b e hF hR
      simp only [Prod.mk.injEq] at this
      obtain ⟨q1, q2, q3, q4, q5⟩ := this
      rw [← q1, ← q2, ← q3, ← q4, ← q5] at hF e
      exact absurd ⟨hF, e.symm⟩ hq

theorem join_12 (s : ByteArray) (hh : ∀ d f h a b, Giv4.nums s = bytO 12 d f h a b → Giv.OpF 12 d f h a b → Rg h a b → ((md (W8 (Giv4.nums s) 1)), 0, 0, (W8 (Giv4.nums s) 2), 0) = (d, f, h, a, b)) (hs : s.size < 100000) (hr : Rg 0 (W8 (Giv4.nums s) 2) 0) (hc : ∀ c d f h a b, Giv4.nums s = bytO c d f h a b → Giv.OpF c d f h a b → c = 12) :
    Ev (fun k => cubicleref18_Of.l0 k s (asked 12) 1 0 12 0 0 0 0 0) (ofL (Giv4.nums s)) := by
  refine par_12 s hs _ ?_
  have T := tail_eq s 12 (md (W8 (Giv4.nums s) 1)) 0 0 (W8 (Giv4.nums s) 2) 0
  by_cases hq : Giv.OpF 12 (md (W8 (Giv4.nums s) 1)) 0 0 (W8 (Giv4.nums s) 2) 0 ∧ bytO 12 (md (W8 (Giv4.nums s) 1)) 0 0 (W8 (Giv4.nums s) 2) 0 = Giv4.nums s
  · rw [if_pos hq] at T
    have E := ofL_byt hq.1 hr
    rw [hq.2] at E
    rw [E]
    exact T
  · rw [if_neg hq] at T
    rcases ofL_inv (nums_range s) with e | ⟨c', d, f, h, a, b, _, hF, hR, e⟩
    · rw [e]
      exact T
    · obtain rfl := hc c' d f h a b e hF
      have := hh d f h a b e hF hR
      simp only [Prod.mk.injEq] at this
      obtain ⟨q1, q2, q3, q4, q5⟩ := this
      rw [← q1, ← q2, ← q3, ← q4, ← q5] at hF e
      exact absurd ⟨hF, e.symm⟩ hq

theorem back_1 (s : ByteArray) : ∀ d f h a b, Giv4.nums s = bytO 1 d f h a b → Giv.OpF 1 d f h a b → Rg h a b → (0, 0, 0, 0, 0) = (d, f, h, a, b) := by
  intro d f h a b e hF hR
  obtain ⟨⟨_, _, d1, d2, f1, f2⟩, gh, gd, gf, ga, gb⟩ := hF
  obtain ⟨rh, ra, rb⟩ := hR
  have xh : Giv.askh 1 = false := by decide
  have xd : Giv.askd 1 = false := by decide
  have xf : Giv.askf 1 = false := by decide
  have xa : Giv.aska 1 = false := by decide
  have xb : Giv.askb 1 = false := by decide
  rw [xh] at gh
  rw [xd] at gd
  rw [xf] at gf
  rw [xa] at ga
  rw [xb] at gb
  simp at gh gd gf ga gb
  unfold bytO at e
  rw [byt_eq, xh, xd, xf, xa, xb] at e
  try rw [e]
  simp only [Prod.mk.injEq, W8, p8, p1, if_true, Bool.false_eq_true, if_false, Giv3.eightB, List.cons_append, List.nil_append, List.append_nil, List.drop_succ_cons, List.drop_zero, List.take_succ_cons, List.take_zero, List.take_nil, List.drop_nil, val, md]
  refine ⟨?_, ?_, ?_, ?_, ?_⟩ <;> first | omega | (try rw [Int.tmod_eq_emod_of_nonneg (by omega)]; unfold wrap64; omega)
theorem back_2 (s : ByteArray) : ∀ d f h a b, Giv4.nums s = bytO 2 d f h a b → Giv.OpF 2 d f h a b → Rg h a b → (0, 0, (W8 (Giv4.nums s) 1), 0, 0) = (d, f, h, a, b) := by
  intro d f h a b e hF hR
  obtain ⟨⟨_, _, d1, d2, f1, f2⟩, gh, gd, gf, ga, gb⟩ := hF
  obtain ⟨rh, ra, rb⟩ := hR
  have xh : Giv.askh 2 = true := by decide
  have xd : Giv.askd 2 = false := by decide
  have xf : Giv.askf 2 = false := by decide
  have xa : Giv.aska 2 = false := by decide
  have xb : Giv.askb 2 = false := by decide
  rw [xh] at gh
  rw [xd] at gd
  rw [xf] at gf
  rw [xa] at ga
  rw [xb] at gb
  simp at gh gd gf ga gb
  unfold bytO at e
  rw [byt_eq, xh, xd, xf, xa, xb] at e
  try rw [e]
  simp only [Prod.mk.injEq, W8, p8, p1, if_true, Bool.false_eq_true, if_false, Giv3.eightB, List.cons_append, List.nil_append, List.append_nil, List.drop_succ_cons, List.drop_zero, List.take_succ_cons, List.take_zero, List.take_nil, List.drop_nil, val, md]
  refine ⟨?_, ?_, ?_, ?_, ?_⟩ <;> first | omega | (try rw [Int.tmod_eq_emod_of_nonneg (by omega)]; unfold wrap64; omega)
theorem back_3 (s : ByteArray) : ∀ d f h a b, Giv4.nums s = bytO 3 d f h a b → Giv.OpF 3 d f h a b → Rg h a b → (0, (md (W8 (Giv4.nums s) 9)), (W8 (Giv4.nums s) 1), 0, 0) = (d, f, h, a, b) := by
  intro d f h a b e hF hR
  obtain ⟨⟨_, _, d1, d2, f1, f2⟩, gh, gd, gf, ga, gb⟩ := hF
  obtain ⟨rh, ra, rb⟩ := hR
  have xh : Giv.askh 3 = true := by decide
  have xd : Giv.askd 3 = false := by decide
  have xf : Giv.askf 3 = true := by decide
  have xa : Giv.aska 3 = false := by decide
  have xb : Giv.askb 3 = false := by decide
  rw [xh] at gh
  rw [xd] at gd
  rw [xf] at gf
  rw [xa] at ga
  rw [xb] at gb
  simp at gh gd gf ga gb
  unfold bytO at e
  rw [byt_eq, xh, xd, xf, xa, xb] at e
  try rw [e]
  simp only [Prod.mk.injEq, W8, p8, p1, if_true, Bool.false_eq_true, if_false, Giv3.eightB, List.cons_append, List.nil_append, List.append_nil, List.drop_succ_cons, List.drop_zero, List.take_succ_cons, List.take_zero, List.take_nil, List.drop_nil, val, md]
  refine ⟨?_, ?_, ?_, ?_, ?_⟩ <;> first | omega | (try rw [Int.tmod_eq_emod_of_nonneg (by omega)]; unfold wrap64; omega)
theorem back_4 (s : ByteArray) : ∀ d f h a b, Giv4.nums s = bytO 4 d f h a b → Giv.OpF 4 d f h a b → Rg h a b → (0, (md (W8 (Giv4.nums s) 9)), (W8 (Giv4.nums s) 1), (W8 (Giv4.nums s) 10), 0) = (d, f, h, a, b) := by
  intro d f h a b e hF hR
  obtain ⟨⟨_, _, d1, d2, f1, f2⟩, gh, gd, gf, ga, gb⟩ := hF
  obtain ⟨rh, ra, rb⟩ := hR
  have xh : Giv.askh 4 = true := by decide
  have xd : Giv.askd 4 = false := by decide
  have xf : Giv.askf 4 = true := by decide
  have xa : Giv.aska 4 = true := by decide
  have xb : Giv.askb 4 = false := by decide
  rw [xh] at gh
  rw [xd] at gd
  rw [xf] at gf
  rw [xa] at ga
  rw [xb] at gb
  simp at gh gd gf ga gb
  unfold bytO at e
  rw [byt_eq, xh, xd, xf, xa, xb] at e
  try rw [e]
  simp only [Prod.mk.injEq, W8, p8, p1, if_true, Bool.false_eq_true, if_false, Giv3.eightB, List.cons_append, List.nil_append, List.append_nil, List.drop_succ_cons, List.drop_zero, List.take_succ_cons, List.take_zero, List.take_nil, List.drop_nil, val, md]
  refine ⟨?_, ?_, ?_, ?_, ?_⟩ <;> first | omega | (try rw [Int.tmod_eq_emod_of_nonneg (by omega)]; unfold wrap64; omega)
theorem back_5 (s : ByteArray) : ∀ d f h a b, Giv4.nums s = bytO 5 d f h a b → Giv.OpF 5 d f h a b → Rg h a b → (0, (md (W8 (Giv4.nums s) 9)), (W8 (Giv4.nums s) 1), (W8 (Giv4.nums s) 10), (W8 (Giv4.nums s) 18)) = (d, f, h, a, b) := by
  intro d f h a b e hF hR
  obtain ⟨⟨_, _, d1, d2, f1, f2⟩, gh, gd, gf, ga, gb⟩ := hF
  obtain ⟨rh, ra, rb⟩ := hR
  have xh : Giv.askh 5 = true := by decide
  have xd : Giv.askd 5 = false := by decide
  have xf : Giv.askf 5 = true := by decide
  have xa : Giv.aska 5 = true := by decide
  have xb : Giv.askb 5 = true := by decide
  rw [xh] at gh
  rw [xd] at gd
  rw [xf] at gf
  rw [xa] at ga
  rw [xb] at gb
  simp at gh gd gf ga gb
  unfold bytO at e
  rw [byt_eq, xh, xd, xf, xa, xb] at e
  try rw [e]
  simp only [Prod.mk.injEq, W8, p8, p1, if_true, Bool.false_eq_true, if_false, Giv3.eightB, List.cons_append, List.nil_append, List.append_nil, List.drop_succ_cons, List.drop_zero, List.take_succ_cons, List.take_zero, List.take_nil, List.drop_nil, val, md]
  refine ⟨?_, ?_, ?_, ?_, ?_⟩ <;> first | omega | (try rw [Int.tmod_eq_emod_of_nonneg (by omega)]; unfold wrap64; omega)
theorem back_6 (s : ByteArray) : ∀ d f h a b, Giv4.nums s = bytO 6 d f h a b → Giv.OpF 6 d f h a b → Rg h a b → (0, 0, 0, 0, 0) = (d, f, h, a, b) := by
  intro d f h a b e hF hR
  obtain ⟨⟨_, _, d1, d2, f1, f2⟩, gh, gd, gf, ga, gb⟩ := hF
  obtain ⟨rh, ra, rb⟩ := hR
  have xh : Giv.askh 6 = false := by decide
  have xd : Giv.askd 6 = false := by decide
  have xf : Giv.askf 6 = false := by decide
  have xa : Giv.aska 6 = false := by decide
  have xb : Giv.askb 6 = false := by decide
  rw [xh] at gh
  rw [xd] at gd
  rw [xf] at gf
  rw [xa] at ga
  rw [xb] at gb
  simp at gh gd gf ga gb
  unfold bytO at e
  rw [byt_eq, xh, xd, xf, xa, xb] at e
  try rw [e]
  simp only [Prod.mk.injEq, W8, p8, p1, if_true, Bool.false_eq_true, if_false, Giv3.eightB, List.cons_append, List.nil_append, List.append_nil, List.drop_succ_cons, List.drop_zero, List.take_succ_cons, List.take_zero, List.take_nil, List.drop_nil, val, md]
  refine ⟨?_, ?_, ?_, ?_, ?_⟩ <;> first | omega | (try rw [Int.tmod_eq_emod_of_nonneg (by omega)]; unfold wrap64; omega)
theorem back_7 (s : ByteArray) : ∀ d f h a b, Giv4.nums s = bytO 7 d f h a b → Giv.OpF 7 d f h a b → Rg h a b → ((md (W8 (Giv4.nums s) 1)), 0, 0, (W8 (Giv4.nums s) 2), 0) = (d, f, h, a, b) := by
  intro d f h a b e hF hR
  obtain ⟨⟨_, _, d1, d2, f1, f2⟩, gh, gd, gf, ga, gb⟩ := hF
  obtain ⟨rh, ra, rb⟩ := hR
  have xh : Giv.askh 7 = false := by decide
  have xd : Giv.askd 7 = true := by decide
  have xf : Giv.askf 7 = false := by decide
  have xa : Giv.aska 7 = true := by decide
  have xb : Giv.askb 7 = false := by decide
  rw [xh] at gh
  rw [xd] at gd
  rw [xf] at gf
  rw [xa] at ga
  rw [xb] at gb
  simp at gh gd gf ga gb
  unfold bytO at e
  rw [byt_eq, xh, xd, xf, xa, xb] at e
  try rw [e]
  simp only [Prod.mk.injEq, W8, p8, p1, if_true, Bool.false_eq_true, if_false, Giv3.eightB, List.cons_append, List.nil_append, List.append_nil, List.drop_succ_cons, List.drop_zero, List.take_succ_cons, List.take_zero, List.take_nil, List.drop_nil, val, md]
  refine ⟨?_, ?_, ?_, ?_, ?_⟩ <;> first | omega | (try rw [Int.tmod_eq_emod_of_nonneg (by omega)]; unfold wrap64; omega)
theorem back_8 (s : ByteArray) : ∀ d f h a b, Giv4.nums s = bytO 8 d f h a b → Giv.OpF 8 d f h a b → Rg h a b → ((md (W8 (Giv4.nums s) 1)), 0, 0, 0, 0) = (d, f, h, a, b) := by
  intro d f h a b e hF hR
  obtain ⟨⟨_, _, d1, d2, f1, f2⟩, gh, gd, gf, ga, gb⟩ := hF
  obtain ⟨rh, ra, rb⟩ := hR
  have xh : Giv.askh 8 = false := by decide
  have xd : Giv.askd 8 = true := by decide
  have xf : Giv.askf 8 = false := by decide
  have xa : Giv.aska 8 = false := by decide
  have xb : Giv.askb 8 = false := by decide
  rw [xh] at gh
  rw [xd] at gd
  rw [xf] at gf
  rw [xa] at ga
  rw [xb] at gb
  simp at gh gd gf ga gb
  unfold bytO at e
  rw [byt_eq, xh, xd, xf, xa, xb] at e
  try rw [e]
  simp only [Prod.mk.injEq, W8, p8, p1, if_true, Bool.false_eq_true, if_false, Giv3.eightB, List.cons_append, List.nil_append, List.append_nil, List.drop_succ_cons, List.drop_zero, List.take_succ_cons, List.take_zero, List.take_nil, List.drop_nil, val, md]
  refine ⟨?_, ?_, ?_, ?_, ?_⟩ <;> first | omega | (try rw [Int.tmod_eq_emod_of_nonneg (by omega)]; unfold wrap64; omega)
theorem back_9 (s : ByteArray) : ∀ d f h a b, Giv4.nums s = bytO 9 d f h a b → Giv.OpF 9 d f h a b → Rg h a b → (0, 0, 0, 0, 0) = (d, f, h, a, b) := by
  intro d f h a b e hF hR
  obtain ⟨⟨_, _, d1, d2, f1, f2⟩, gh, gd, gf, ga, gb⟩ := hF
  obtain ⟨rh, ra, rb⟩ := hR
  have xh : Giv.askh 9 = false := by decide
  have xd : Giv.askd 9 = false := by decide
  have xf : Giv.askf 9 = false := by decide
  have xa : Giv.aska 9 = false := by decide
  have xb : Giv.askb 9 = false := by decide
  rw [xh] at gh
  rw [xd] at gd
  rw [xf] at gf
  rw [xa] at ga
  rw [xb] at gb
  simp at gh gd gf ga gb
  unfold bytO at e
  rw [byt_eq, xh, xd, xf, xa, xb] at e
  try rw [e]
  simp only [Prod.mk.injEq, W8, p8, p1, if_true, Bool.false_eq_true, if_false, Giv3.eightB, List.cons_append, List.nil_append, List.append_nil, List.drop_succ_cons, List.drop_zero, List.take_succ_cons, List.take_zero, List.take_nil, List.drop_nil, val, md]
  refine ⟨?_, ?_, ?_, ?_, ?_⟩ <;> first | omega | (try rw [Int.tmod_eq_emod_of_nonneg (by omega)]; unfold wrap64; omega)
theorem back_10 (s : ByteArray) : ∀ d f h a b, Giv4.nums s = bytO 10 d f h a b → Giv.OpF 10 d f h a b → Rg h a b → ((md (W8 (Giv4.nums s) 1)), 0, 0, (W8 (Giv4.nums s) 2), (W8 (Giv4.nums s) 10)) = (d, f, h, a, b) := by
  intro d f h a b e hF hR
  obtain ⟨⟨_, _, d1, d2, f1, f2⟩, gh, gd, gf, ga, gb⟩ := hF
  obtain ⟨rh, ra, rb⟩ := hR
  have xh : Giv.askh 10 = false := by decide
  have xd : Giv.askd 10 = true := by decide
  have xf : Giv.askf 10 = false := by decide
  have xa : Giv.aska 10 = true := by decide
  have xb : Giv.askb 10 = true := by decide
  rw [xh] at gh
  rw [xd] at gd
  rw [xf] at gf
  rw [xa] at ga
  rw [xb] at gb
  simp at gh gd gf ga gb
  unfold bytO at e
  rw [byt_eq, xh, xd, xf, xa, xb] at e
  try rw [e]
  simp only [Prod.mk.injEq, W8, p8, p1, if_true, Bool.false_eq_true, if_false, Giv3.eightB, List.cons_append, List.nil_append, List.append_nil, List.drop_succ_cons, List.drop_zero, List.take_succ_cons, List.take_zero, List.take_nil, List.drop_nil, val, md]
  refine ⟨?_, ?_, ?_, ?_, ?_⟩ <;> first | omega | (try rw [Int.tmod_eq_emod_of_nonneg (by omega)]; unfold wrap64; omega)
theorem back_11 (s : ByteArray) : ∀ d f h a b, Giv4.nums s = bytO 11 d f h a b → Giv.OpF 11 d f h a b → Rg h a b → ((md (W8 (Giv4.nums s) 1)), 0, 0, (W8 (Giv4.nums s) 2), 0) = (d, f, h, a, b) := by
  intro d f h a b e hF hR
  obtain ⟨⟨_, _, d1, d2, f1, f2⟩, gh, gd, gf, ga, gb⟩ := hF
  obtain ⟨rh, ra, rb⟩ := hR
  have xh : Giv.askh 11 = false := by decide
  have xd : Giv.askd 11 = true := by decide
  have xf : Giv.askf 11 = false := by decide
  have xa : Giv.aska 11 = true := by decide
  have xb : Giv.askb 11 = false := by decide
  rw [xh] at gh
  rw [xd] at gd
  rw [xf] at gf
  rw [xa] at ga
  rw [xb] at gb
  simp at gh gd gf ga gb
  unfold bytO at e
  rw [byt_eq, xh, xd, xf, xa, xb] at e
  try rw [e]
  simp only [Prod.mk.injEq, W8, p8, p1, if_true, Bool.false_eq_true, if_false, Giv3.eightB, List.cons_append, List.nil_append, List.append_nil, List.drop_succ_cons, List.drop_zero, List.take_succ_cons, List.take_zero, List.take_nil, List.drop_nil, val, md]
  refine ⟨?_, ?_, ?_, ?_, ?_⟩ <;> first | omega | (try rw [Int.tmod_eq_emod_of_nonneg (by omega)]; unfold wrap64; omega)
theorem back_12 (s : ByteArray) : ∀ d f h a b, Giv4.nums s = bytO 12 d f h a b → Giv.OpF 12 d f h a b → Rg h a b → ((md (W8 (Giv4.nums s) 1)), 0, 0, (W8 (Giv4.nums s) 2), 0) = (d, f, h, a, b) := by
  intro d f h a b e hF hR
  obtain ⟨⟨_, _, d1, d2, f1, f2⟩, gh, gd, gf, ga, gb⟩ := hF
  obtain ⟨rh, ra, rb⟩ := hR
  have xh : Giv.askh 12 = false := by decide
  have xd : Giv.askd 12 = true := by decide
  have xf : Giv.askf 12 = false := by decide
  have xa : Giv.aska 12 = true := by decide
  have xb : Giv.askb 12 = false := by decide
  rw [xh] at gh
  rw [xd] at gd
  rw [xf] at gf
  rw [xa] at ga
  rw [xb] at gb
  simp at gh gd gf ga gb
  unfold bytO at e
  rw [byt_eq, xh, xd, xf, xa, xb] at e
  try rw [e]
  simp only [Prod.mk.injEq, W8, p8, p1, if_true, Bool.false_eq_true, if_false, Giv3.eightB, List.cons_append, List.nil_append, List.append_nil, List.drop_succ_cons, List.drop_zero, List.take_succ_cons, List.take_zero, List.take_nil, List.drop_nil, val, md]
  refine ⟨?_, ?_, ?_, ?_, ?_⟩ <;> first | omega | (try rw [Int.tmod_eq_emod_of_nonneg (by omega)]; unfold wrap64; omega)
theorem head_eq (s : ByteArray) (c d f h a b : Int) (e : Giv4.nums s = bytO c d f h a b) (hF : Giv.OpF c d f h a b) : 0 < s.size ∧ bt s 0 = c := by
  obtain ⟨t, ht⟩ := bytO_head c d f h a b
  rw [ht] at e
  have hl := congrArg List.length e
  rw [nums_len] at hl
  simp at hl
  have := bt_nums s 0 (by omega)
  rw [e] at this
  have hc := hF.1
  simp at this
  exact ⟨by omega, by rw [← this]; omega⟩
theorem pow8 (n : Nat) (h : n ≤ 8) : (256 : Int) ^ n ≤ 256 ^ 8 := by
  rcases (show n = 0 ∨ n = 1 ∨ n = 2 ∨ n = 3 ∨ n = 4 ∨ n = 5 ∨ n = 6 ∨ n = 7 ∨ n = 8 by omega) with rfl | rfl | rfl | rfl | rfl | rfl | rfl | rfl | rfl <;> decide
theorem rof_eq (s : ByteArray) (hs : s.size ≤ 60) : Ev (fun k => cubicleref18_Of.f k s) (ofL (Giv4.nums s)) := by
  unfold cubicleref18_Of.f
  have no : Ev (fun k => cubicleref18_Of.j0 k s true 0 0 0 0 0 0) (0, 0, 0, 0, 0, 0, 2) := by
    refine Ev.step (f := fun _ => some (0, 0, 0, 0, 0, 0, 2)) (fun k => ?_) (Ev.now _)
    simp only [cubicleref18_Of.j0]
    rw [if_pos True.intro]
  have err : (∀ c : Int, 1 ≤ c → c ≤ 12 → 0 < s.size → bt s 0 ≠ c) → ofL (Giv4.nums s) = (0, 0, 0, 0, 0, 0, 2) := fun q => ofL_none (nums_range s) (fun c d f h a b hF e => by
    have := head_eq s c d f h a b e hF
    exact q c hF.1.1 hF.1.2.1 this.1 this.2)
  by_cases h0 : (s.size : Int) = 0
  · rw [err (fun c _ _ h _ => by omega)]
    exact Ev.congr (fun k => if_pos h0) no
  · refine Ev.congr (fun k => by rw [if_neg h0, if_pos (by omega)]) ?_
    by_cases h1 : bt s 0 < 1
    · rw [err (fun c _ _ h e => by omega)]
      exact Ev.congr (fun k => if_pos h1) no
    · refine Ev.congr (fun k => if_neg h1) ?_
      by_cases h2 : bt s 0 > 12
      · rw [err (fun c _ _ h e => by omega), decide_eq_true h2]
        exact no
      · rw [decide_eq_false h2]
        have hw : wrap64 (bt s 0) = bt s 0 := wrap_in (by omega)
        refine Ev.step (f := fun k => cubicleref18_Of.l0 k s (asked (bt s 0)) 1 0 (bt s 0) 0 0 0 0 0) (fun k => ?_) ?_
        · simp only [cubicleref18_Of.j0]
          rw [if_neg (by simp), if_pos (by omega), hw, asks_eq (by omega) (by omega), Option.bind_some]
        · have hc : ∀ c d f h a b, Giv4.nums s = bytO c d f h a b → Giv.OpF c d f h a b → c = bt s 0 := fun c d f h a b e hF => (head_eq s c d f h a b e hF).2.symm
          have hW : ∀ n, 0 ≤ W8 (Giv4.nums s) n ∧ W8 (Giv4.nums s) n < 18446744073709551616 := fun n => by
            have h3 := val_range (((Giv4.nums s).drop n).take 8) (fun x hx => nums_range s x (List.mem_of_mem_drop (List.mem_of_mem_take hx)))
            have h4 : (256 : Int) ^ (((Giv4.nums s).drop n).take 8).length ≤ 256 ^ 8 := pow8 _ (by rw [List.length_take]; omega)
            unfold W8
            omega
          have h3 : 1 ≤ bt s 0 := by omega
          have h4 : bt s 0 ≤ 12 := by omega
          generalize bt s 0 = c at *
          rcases code_cases h3 h4 with rfl | rfl | rfl | rfl | rfl | rfl | rfl | rfl | rfl | rfl | rfl | rfl
          · exact join_1 s (back_1 s) (by omega) (by unfold Rg; refine ⟨?_, ?_, ?_⟩ <;> first | exact hW _ | decide) hc
          · exact join_2 s (back_2 s) (by omega) (by unfold Rg; refine ⟨?_, ?_, ?_⟩ <;> first | exact hW _ | decide) hc
          · exact join_3 s (back_3 s) (by omega) (by unfold Rg; refine ⟨?_, ?_, ?_⟩ <;> first | exact hW _ | decide) hc
          · exact join_4 s (back_4 s) (by omega) (by unfold Rg; refine ⟨?_, ?_, ?_⟩ <;> first | exact hW _ | decide) hc
          · exact join_5 s (back_5 s) (by omega) (by unfold Rg; refine ⟨?_, ?_, ?_⟩ <;> first | exact hW _ | decide) hc
          · exact join_6 s (back_6 s) (by omega) (by unfold Rg; refine ⟨?_, ?_, ?_⟩ <;> first | exact hW _ | decide) hc
          · exact join_7 s (back_7 s) (by omega) (by unfold Rg; refine ⟨?_, ?_, ?_⟩ <;> first | exact hW _ | decide) hc
          · exact join_8 s (back_8 s) (by omega) (by unfold Rg; refine ⟨?_, ?_, ?_⟩ <;> first | exact hW _ | decide) hc
          · exact join_9 s (back_9 s) (by omega) (by unfold Rg; refine ⟨?_, ?_, ?_⟩ <;> first | exact hW _ | decide) hc
          · exact join_10 s (back_10 s) (by omega) (by unfold Rg; refine ⟨?_, ?_, ?_⟩ <;> first | exact hW _ | decide) hc
          · exact join_11 s (back_11 s) (by omega) (by unfold Rg; refine ⟨?_, ?_, ?_⟩ <;> first | exact hW _ | decide) hc
          · exact join_12 s (back_12 s) (by omega) (by unfold Rg; refine ⟨?_, ?_, ?_⟩ <;> first | exact hW _ | decide) hc
theorem DecodeOf : cubiclelaw18_DecodeOf.Pure := by
  intro a0 _
  apply Ev.rounds (g := fun k => cubiclelaw18_DecodeOf.f k a0)
  unfold cubiclelaw18_DecodeOf.f
  rw [awake_eq]
  refine Ev.congr (fun k => by rw [Option.bind_some, if_pos rfl]) ?_
  by_cases h : (a0.size : Int) > 60
  · rw [decide_eq_true h]
    refine Ev.step (f := fun _ => some true) (fun k => ?_) (Ev.now _)
    simp only [cubiclelaw18_DecodeOf.j0]
    rw [if_pos True.intro, awake_eq, Option.bind_some]
  · rw [decide_eq_false h]
    have e2 : decode_Of.f a0 = some (ofL (Giv4.nums a0)) := rfl
    refine Ev.step (f := fun k => (cubicleref18_Of.f k a0).bind fun t => (if ((ofL (Giv4.nums a0)).1 == t.1 && ((ofL (Giv4.nums a0)).2.1 == t.2.1 && ((ofL (Giv4.nums a0)).2.2.1 == t.2.2.1 && ((ofL (Giv4.nums a0)).2.2.2.1 == t.2.2.2.1 && ((ofL (Giv4.nums a0)).2.2.2.2.1 == t.2.2.2.2.1 && ((ofL (Giv4.nums a0)).2.2.2.2.2.1 == t.2.2.2.2.2.1)))))) = true then (some ((ofL (Giv4.nums a0)).2.2.2.2.2.2 == t.2.2.2.2.2.2)) else (some false))) (fun k => ?_) (Ev.bind (rof_eq a0 (by omega)) ?_)
    · simp only [cubiclelaw18_DecodeOf.j0]
      rw [if_neg (by simp), e2, Option.bind_some]
    · simp only [beq_self_eq_true, Bool.and_self, if_true]
      exact Ev.now _
end Go.Proofs.Ytdmiingneodcbaa.Pure
