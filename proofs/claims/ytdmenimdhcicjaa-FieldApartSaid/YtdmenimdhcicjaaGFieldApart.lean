/- What the printed functions on layouts tell, in plain words. -/
import Derived.Test.YtdmenimdhcicjaaFFieldApart
import Derived.Test.YtdmenimdhcicjaaFieldLists
namespace Go.Proofs.Ytdmenimdhcicjaa.GFieldApart
open Go Go.RowKit Go.Proofs.Ytdmenimdhcicjaa.PFieldApart Go.Proofs.YtdmenimdhcicjaaW.PrintWords Go.Proofs.YtdmenimdhcicjaaW.PrintLast Go.Proofs.YtdmenimdhcicjaaW.PrintMore Go.Proofs.Ytdmenimdhcicjaa.FB Go.Proofs.Ytdmenimdhcicjaa.FL Go.Proofs.Ytdmenimdhcicjaa.FFieldApart
set_option linter.unusedVariables false
set_option linter.unusedSimpArgs false
def pr (l : List S23) : List Fld := l.map fun x => (x.f0, x.f1)
theorem pr_len (l : List S23) : (pr l).length = l.length := by simp [pr]
theorem pr_app (p s : List S23) : pr (p ++ s) = pr p ++ pr s := by simp [pr]
theorem rd_mid (p : List S23) (x : S23) (s : List S23) (n : Int) (h : n = p.length) : rd_T23 (p ++ x :: s) n = x := by
  subst h
  unfold rd_T23
  rw [Int.toNat_natCast]
  simp [List.getD_eq_getElem?_getD]
theorem rd_num (p : List Int) (x : Int) (s : List Int) (n : Int) (h : n = p.length) : rd (p ++ x :: s) n = x := by
  subst h
  unfold rd
  rw [Int.toNat_natCast]
  simp [List.getD_eq_getElem?_getD]
theorem fnat {f : Fld} (h : Fm f.1 f.2) : f.1 = (f.1.toNat : Int) ∧ f.2 = (f.2.toNat : Int) := by unfold Fm at h; omega
theorem most_f {f : Fld} (h : Fm f.1 f.2) : field_Field_Most.f f.1 f.2 = some (u (ons f)) := by
  obtain ⟨e1, e2⟩ := fnat h
  have h' := h
  rw [e1, e2] at h'
  have := most_eq h'
  rw [← e1, ← e2] at this
  exact this
theorem mask_f {f : Fld} (h : Fm f.1 f.2) : field_Field_mask.f f.1 f.2 = some (u (msk f)) := by
  obtain ⟨e1, e2⟩ := fnat h
  have h' := h
  rw [e1, e2] at h'
  have := mask_eq h'
  rw [← e1, ← e2] at this
  exact this
theorem get_f {f : Fld} (h : Fm f.1 f.2) (w : BitVec 64) : field_Field_Get.f f.1 f.2 (u w) = some (u (gt f w)) := by
  obtain ⟨e1, e2⟩ := fnat h
  have h' := h
  rw [e1, e2] at h'
  have := get_eq h' w
  rw [← e1, ← e2] at this
  exact this
theorem put_f {f : Fld} (h : Fm f.1 f.2) (w v : BitVec 64) : field_Field_Put.f f.1 f.2 (u w) (u v) = some (u (pt f w v)) := by
  obtain ⟨e1, e2⟩ := fnat h
  have h' := h
  rw [e1, e2] at h'
  have := put_eq h' w v
  rw [← e1, ← e2] at this
  exact this
theorem layout_in (x : S23) (s : List S23) (p : List S23) (hn : (p ++ x :: s).length < 4611686018427387904) (hp : ∀ f ∈ pr p, Fm f.1 f.2) (hf : Fm x.f0 x.f1) (r : Bool)
    (hno : (¬ ∀ f ∈ pr p, Dj f (x.f0, x.f1)) → r = false) (hyes : Ev (fun k => cubicleref01_Layout.l0 k (p ++ x :: s) ((p.length : Int) + 1)) r ∨ ¬ ∀ f ∈ pr p, Dj f (x.f0, x.f1)) :
    ∀ (b a : List S23), a ++ b = p → (∀ f ∈ pr a, Dj f (x.f0, x.f1)) → Ev (fun k => cubicleref01_Layout.l1 k (p ++ x :: s) (p.length : Int) (a.length : Int)) r := by
  intro b
  induction b with
  | nil =>
    intro a ha hd
    rw [List.append_nil] at ha
    subst ha
    rcases hyes with hy | hy
    · refine Ev.step (fun k => ?_) hy
      simp only [cubicleref01_Layout.l1]
      rw [if_neg (by omega), wrap_in (by simp at hn; omega)]
    · exact absurd hd hy
  | cons y b ih =>
    intro a ha hd
    subst ha
    have e0 : (a.length : Int) < ((a ++ y :: b).length : Int) := by simp; omega
    have e1 : (a.length : Int) < (((a ++ y :: b) ++ x :: s).length : Int) := by simp; omega
    have e2 : ((a ++ y :: b).length : Int) < (((a ++ y :: b) ++ x :: s).length : Int) := by simp; omega
    have e3 : rd_T23 ((a ++ y :: b) ++ x :: s) (a.length : Int) = y := by
      rw [List.append_assoc]; exact rd_mid a y _ _ rfl
    have e4 := rd_mid (a ++ y :: b) x s _ rfl
    have hy : Fm y.f0 y.f1 := hp (y.f0, y.f1) (by simp [pr])
    have e5 : wrap64 (x.f0 + x.f1) = x.f0 + x.f1 := wrap_in (by unfold Fm at hf; omega)
    have e6 : wrap64 (y.f0 + y.f1) = y.f0 + y.f1 := wrap_in (by unfold Fm at hy; omega)
    have e7 : wrap64 ((a.length : Int) + 1) = ((a ++ [y]).length : Int) := by
      rw [wrap_in (by simp at hn; omega)]; simp
    by_cases hj : Dj (y.f0, y.f1) (x.f0, x.f1)
    · have hgo := ih (a ++ [y]) (by simp) (fun f hfm => by
        rw [pr_app] at hfm
        rcases List.mem_append.1 hfm with h | h
        · exact hd f h
        · simp [pr] at h; subst h; exact hj)
      refine Ev.step (fun k => ?_) hgo
      simp only [cubicleref01_Layout.l1]
      rw [if_pos e0, if_pos (by omega), if_pos e1, if_pos (by omega), if_pos e2, e3, e4, e5, e6, e7]
      unfold Dj at hj
      simp only at hj
      by_cases h1 : y.f0 < x.f0 + x.f1
      · rw [if_pos h1, if_neg (fun h2 => hj ⟨h1, h2⟩)]
      · rw [if_neg h1]
    · have : r = false := hno (fun h => hj (h _ (by simp [pr])))
      subst this
      refine Ev.step (f := fun _ => some false) (fun k => ?_) (Ev.now _)
      simp only [cubicleref01_Layout.l1]
      rw [if_pos e0, if_pos (by omega), if_pos e1, if_pos (by omega), if_pos e2, e3, e4, e5, e6]
      unfold Dj at hj
      simp only [Classical.not_not] at hj
      rw [if_pos hj.1, if_pos hj.2]
theorem layout_loop (s : List S23) : ∀ (p : List S23), (p ++ s).length < 4611686018427387904 → Lay (pr p) →
    Ev (fun k => cubicleref01_Layout.l0 k (p ++ s) (p.length : Int)) (decide (Lay (pr (p ++ s)))) := by
  induction s with
  | nil =>
    intro p hn hl
    refine Ev.step (f := fun _ => some (decide (Lay (pr (p ++ []))))) (fun k => ?_) (Ev.now _)
    simp only [cubicleref01_Layout.l0]
    rw [if_neg (by simp), List.append_nil, decide_eq_true hl]
  | cons x s ih =>
    intro p hn hl
    have e0 : (p.length : Int) < ((p ++ x :: s).length : Int) := by simp; omega
    have e2 : p ++ x :: s = (p ++ [x]) ++ s := by simp
    have e3 := rd_mid p x s _ rfl
    have e4 : (p.length : Int) + 1 = ((p ++ [x]).length : Int) := by simp
    by_cases hf : Fm x.f0 x.f1
    · have hin := layout_in x s p hn hl.1 hf (decide (Lay (pr (p ++ x :: s)))) (fun h => by
        rw [decide_eq_false_iff_not]
        intro h2
        rw [e2, pr_app] at h2
        have h3 := lay_pre h2
        rw [pr_app] at h3
        exact h (lay_snoc.1 h3).2.2) (by
        by_cases h : ∀ f ∈ pr p, Dj f (x.f0, x.f1)
        · left
          rw [e4, e2]
          refine ih (p ++ [x]) (by rw [← e2]; exact hn) ?_
          rw [pr_app]
          exact lay_snoc.2 ⟨hl, hf, h⟩
        · right; exact h) p [] rfl (by simp [pr])
      refine Ev.step (fun k => ?_) hin
      simp only [cubicleref01_Layout.l0]
      rw [if_pos e0, if_pos (by omega), e3, rformed_yes hf, Option.bind_some, if_pos rfl]
      rfl
    · have hno : decide (Lay (pr (p ++ x :: s))) = false := by
        rw [decide_eq_false_iff_not]
        intro h
        exact hf (h.1 (x.f0, x.f1) (by simp [pr]))
      rw [hno]
      refine Ev.step (f := fun _ => some false) (fun k => ?_) (Ev.now _)
      simp only [cubicleref01_Layout.l0]
      rw [if_pos e0, if_pos (by omega), e3, rformed_no hf, Option.bind_some, if_neg (by simp)]
theorem layout_f (l : List S23) (hn : l.length < 4611686018427387904) : Ev (fun k => cubicleref01_Layout.f k l) (decide (Lay (pr l))) := by
  have := layout_loop l [] (by simpa using hn) lay_nil
  simpa [cubicleref01_Layout.f] using this
end Go.Proofs.Ytdmenimdhcicjaa.GFieldApart
