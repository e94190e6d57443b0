/- What the printed functions on layouts tell, in plain words. -/
import Derived.Test.YtdmenimdhcicjaaFHandleApart
import Derived.Test.YtdmenimdhcicjaaFieldLists
namespace Go.Proofs.Ytdmenimdhcicjaa.GHandleApart
open Go Go.RowKit Go.Proofs.Ytdmenimdhcicjaa.PHandleApart Go.Proofs.YtdmenimdhcicjaaW.PrintWords Go.Proofs.YtdmenimdhcicjaaW.PrintLast Go.Proofs.YtdmenimdhcicjaaW.PrintMore Go.Proofs.Ytdmenimdhcicjaa.FB Go.Proofs.Ytdmenimdhcicjaa.FL Go.Proofs.Ytdmenimdhcicjaa.FHandleApart
set_option linter.unusedVariables false
set_option linter.unusedSimpArgs false
def pr (l : List S23) : List Fld := l.map fun x => (x.f0, x.f1)
theorem pr_len (l : List S23) : (pr l).length = l.length := by simp [pr]
theorem pr_app (p s : List S23) : pr (p ++ s) = pr p ++ pr s := by simp [pr]
theorem rd_mid (p : List S23) (x : S23) (s : List S23) (n : Int) (h : n = p.length) : rd_T23 (p ++ x :: s) n = x := by
  subst h
  unfold rd_T23
  rw [Int.toNat_natCast]
  simp [List.getD_eq_getElem?_getD]
theorem rd_num (p : List Int) (x : Int) (s : List Int) (n : Int) (h : n = p.length) : rd (p ++ x :: s) n = x := by
  subst h
  unfold rd
  rw [Int.toNat_natCast]
  simp [List.getD_eq_getElem?_getD]
theorem fnat {f : Fld} (h : Fm f.1 f.2) : f.1 = (f.1.toNat : Int) ∧ f.2 = (f.2.toNat : Int) := by unfold Fm at h; omega
theorem most_f {f : Fld} (h : Fm f.1 f.2) : field_Field_Most.f f.1 f.2 = some (u (ons f)) := by
  obtain ⟨e1, e2⟩ := fnat h
  have h' := h
  rw [e1, e2] at h'
  have := most_eq h'
  rw [← e1, ← e2] at this
  exact this
theorem mask_f {f : Fld} (h : Fm f.1 f.2) : field_Field_mask.f f.1 f.2 = some (u (msk f)) := by
  obtain ⟨e1, e2⟩ := fnat h
  have h' := h
  rw [e1, e2] at h'
  have := mask_eq h'
  rw [← e1, ← e2] at this
  exact this
theorem get_f {f : Fld} (h : Fm f.1 f.2) (w : BitVec 64) : field_Field_Get.f f.1 f.2 (u w) = some (u (gt f w)) := by
  obtain ⟨e1, e2⟩ := fnat h
  have h' := h
  rw [e1, e2] at h'
  have := get_eq h' w
  rw [← e1, ← e2] at this
  exact this
theorem put_f {f : Fld} (h : Fm f.1 f.2) (w v : BitVec 64) : field_Field_Put.f f.1 f.2 (u w) (u v) = some (u (pt f w v)) := by
  obtain ⟨e1, e2⟩ := fnat h
  have h' := h
  rw [e1, e2] at h'
  have := put_eq h' w v
  rw [← e1, ← e2] at this
  exact this
theorem formed_loop (s : List S23) : ∀ (p : List S23) (all : BitVec 64), (p ++ s).length < 4611686018427387904 → Lay (pr p) → Bits all (pr p) →
    Ev (fun k => field_Formed.l0 k (u all) (p ++ s) ((p ++ s).length : Int) (p.length : Int)) (decide (Lay (pr (p ++ s)))) := by
  induction s with
  | nil =>
    intro p all hn hl hb
    refine Ev.step (f := fun _ => some (decide (Lay (pr (p ++ []))))) (fun k => ?_) (Ev.now _)
    simp only [field_Formed.l0]
    rw [if_neg (by simp), List.append_nil, decide_eq_true hl]
  | cons x s ih =>
    intro p all hn hl hb
    have e0 : (p.length : Int) < ((p ++ x :: s).length : Int) := by simp; omega
    have e1 : wrap64 ((p.length : Int) + 1) = ((p ++ [x]).length : Int) := by
      rw [wrap_in (by simp at hn; omega)]; simp
    have e2 : p ++ x :: s = (p ++ [x]) ++ s := by simp
    have e3 := rd_mid p x s _ rfl
    by_cases hf : Fm x.f0 x.f1
    · have hm := mask_f (f := (x.f0, x.f1)) hf
      by_cases ha : all &&& msk (x.f0, x.f1) = 0#64
      · refine Ev.step (f := fun k => field_Formed.l0 k (u (all ||| msk (x.f0, x.f1))) ((p ++ [x]) ++ s) (((p ++ [x]) ++ s).length : Int) ((p ++ [x]).length : Int)) (fun k => ?_) ?_
        · simp only [field_Formed.l0]
          rw [if_pos e0, if_pos (by omega), if_pos e0, e3, formed_yes hf, Option.bind_some, if_pos rfl]
          simp only [hm, Option.bind_some]
          rw [and_u, if_pos (by rw [ha]; rfl), or_u, e1, e2]
        · rw [e2]
          refine ih (p ++ [x]) _ (by rw [← e2]; exact hn) ?_ ?_
          · rw [pr_app]
            exact lay_snoc.2 ⟨hl, hf, (bits_apart hb hl.1 hf).1 ha⟩
          · rw [pr_app]
            exact bits_snoc hb hf
      · have hno : decide (Lay (pr (p ++ x :: s))) = false := by
          rw [decide_eq_false_iff_not]
          intro h
          rw [e2, pr_app] at h
          have h2 := lay_pre h
          rw [pr_app] at h2
          exact ha ((bits_apart hb hl.1 hf).2 (lay_snoc.1 h2).2.2)
        rw [hno]
        refine Ev.step (f := fun _ => some false) (fun k => ?_) (Ev.now _)
        simp only [field_Formed.l0]
        rw [if_pos e0, if_pos (by omega), if_pos e0, e3, formed_yes hf, Option.bind_some, if_pos rfl]
        simp only [hm, Option.bind_some]
        rw [and_u, if_neg (by rw [u_eq_zero]; exact ha)]
    · have hno : decide (Lay (pr (p ++ x :: s))) = false := by
        rw [decide_eq_false_iff_not]
        intro h
        exact hf (h.1 (x.f0, x.f1) (by simp [pr]))
      rw [hno]
      refine Ev.step (f := fun _ => some false) (fun k => ?_) (Ev.now _)
      simp only [field_Formed.l0]
      rw [if_pos e0, if_pos (by omega), if_pos e0, e3, formed_no hf, Option.bind_some, if_neg (by simp)]
theorem formed_f (l : List S23) (hn : l.length < 4611686018427387904) : Ev (fun k => field_Formed.f k l) (decide (Lay (pr l))) := by
  have := formed_loop l [] 0#64 (by simpa using hn) lay_nil bits_nil
  exact this
/-- What a loop of Pack comes to. -/
def told (o : Option (BitVec 64)) : Int × Int := match o with | some w => (u w, 0) | none => (0, 1)
theorem pack_loop (s : List S23) : ∀ (p : List S23) (a b : List (BitVec 64)) (w : BitVec 64), (p ++ s).length < 4611686018427387904 → (∀ f ∈ pr s, Fm f.1 f.2) → a.length = p.length → b.length = s.length →
    Ev (fun k => field_Pack.l0 k ((a ++ b).map u) (u w) (p ++ s) ((p ++ s).length : Int) (p.length : Int)) (told (pk w (pr s) b)) := by
  induction s with
  | nil =>
    intro p a b w hn hl ha hb
    refine Ev.step (f := fun _ => some (told (some w))) (fun k => ?_) (Ev.now _)
    simp only [field_Pack.l0]
    rw [if_neg (by simp)]
    rfl
  | cons x s ih =>
    intro p a b w hn hl ha hb
    obtain ⟨v, b, rfl⟩ : ∃ v c, b = v :: c := by cases b with | nil => simp at hb | cons v c => exact ⟨v, c, rfl⟩
    have e0 : (p.length : Int) < ((p ++ x :: s).length : Int) := by simp; omega
    have e1 : wrap64 ((p.length : Int) + 1) = ((p ++ [x]).length : Int) := by
      rw [wrap_in (by simp at hn; omega)]; simp
    have e2 : p ++ x :: s = (p ++ [x]) ++ s := by simp
    have e3 := rd_mid p x s _ rfl
    have e4 : rd ((a ++ v :: b).map u) (p.length : Int) = u v := by
      rw [List.map_append, List.map_cons]
      exact rd_num _ _ _ _ (by simp [ha])
    have e5 : (p.length : Int) < (((a ++ v :: b).map u).length : Int) := by simp; omega
    have e6 : a ++ v :: b = (a ++ [v]) ++ b := by simp
    have hf : Fm x.f0 x.f1 := hl (x.f0, x.f1) (by simp [pr])
    have hp : pr (x :: s) = (x.f0, x.f1) :: pr s := rfl
    rw [hp, pk]
    by_cases hv : u (ons (x.f0, x.f1)) < u v
    · rw [if_pos hv]
      refine Ev.step (f := fun _ => some (0, 1)) (fun k => ?_) (Ev.now _)
      simp only [field_Pack.l0]
      rw [if_pos e0, if_pos (by omega), if_pos e0, if_pos e5, e3, e4, most_f (f := (x.f0, x.f1)) hf, Option.bind_some, if_pos hv]
    · rw [if_neg hv]
      have hgo := ih (p ++ [x]) (a ++ [v]) b (pt (x.f0, x.f1) w v) (by rw [← e2]; exact hn) (fun f hfm => hl f (by rw [hp]; simp [hfm])) (by simp [ha]) (by simpa using hb)
      rw [← e2, ← e6] at hgo
      refine Ev.step (fun k => ?_) hgo
      simp only [field_Pack.l0]
      rw [if_pos e0, if_pos (by omega), if_pos e0, if_pos e5, e3, e4, most_f (f := (x.f0, x.f1)) hf, Option.bind_some, if_neg hv, put_f (f := (x.f0, x.f1)) hf, Option.bind_some, e1]
theorem pack_f (l : List S23) (vs : List (BitVec 64)) (hn : l.length < 4611686018427387904) : Ev (fun k => field_Pack.f k l (vs.map u)) (packed (pr l) vs) := by
  unfold field_Pack.f
  refine Ev.bind (formed_f l hn) ?_
  unfold packed
  by_cases h : Lay (pr l)
  · rw [decide_eq_true h]
    by_cases hlen : l.length = vs.length
    · rw [if_pos ⟨h, by rw [pr_len]; exact hlen⟩]
      have hgo := pack_loop l [] [] vs 0#64 (by simpa using hn) h.1 rfl hlen.symm
      refine Ev.congr (fun k => if_pos rfl) ?_
      refine Ev.step (fun k => ?_) hgo
      simp only [field_Pack.j0]
      rw [if_neg (by simp [hlen])]
      rfl
    · rw [if_neg (by rw [pr_len]; exact fun e => hlen e.2)]
      refine Ev.congr (fun k => if_pos rfl) ?_
      refine Ev.step (f := fun _ => some (0, 1)) (fun k => ?_) (Ev.now _)
      simp only [field_Pack.j0]
      rw [if_pos (by simp; omega)]
  · rw [decide_eq_false h, if_neg (fun e => h e.1)]
    refine Ev.congr (fun k => if_neg (by simp)) ?_
    refine Ev.step (f := fun _ => some (0, 1)) (fun k => ?_) (Ev.now _)
    simp only [field_Pack.j0]
    rw [if_pos True.intro]
theorem split_loop (w : BitVec 64) (s : List S23) : ∀ (p : List S23) (o : List Int) (r : BitVec 64), (p ++ s).length < 70368744177664 / 8 → (∀ f ∈ pr s, Fm f.1 f.2) → o.length = p.length →
    Ev (fun k => field_Split.l0 k (u w) o (u r) (p ++ s) ((p ++ s).length : Int) (p.length : Int)) (if u (left r (pr s)) = 0 then (o ++ (pr s).map (fun f => u (gt f w)), 0) else ([], 10)) := by
  induction s with
  | nil =>
    intro p o r hn hl ho
    refine Ev.step (f := fun _ => some (if u (left r (pr [])) = 0 then (o ++ (pr []).map (fun f => u (gt f w)), 0) else ([], 10))) (fun k => ?_) (Ev.now _)
    simp only [field_Split.l0]
    rw [if_neg (by simp)]
    have e : left r (pr []) = r := rfl
    rw [e]
    by_cases h : u r = 0
    · rw [if_pos h, if_pos h]; simp [pr]
    · rw [if_neg h, if_neg h]
  | cons x s ih =>
    intro p o r hn hl ho
    have e0 : (p.length : Int) < ((p ++ x :: s).length : Int) := by simp; omega
    have e1 : wrap64 ((p.length : Int) + 1) = ((p ++ [x]).length : Int) := by
      rw [wrap_in (by simp at hn; omega)]; simp
    have e2 : p ++ x :: s = (p ++ [x]) ++ s := by simp
    have e3 := rd_mid p x s _ rfl
    have hf : Fm x.f0 x.f1 := hl (x.f0, x.f1) (by simp [pr])
    have hp : pr (x :: s) = (x.f0, x.f1) :: pr s := rfl
    have hgo := ih (p ++ [x]) (o ++ [u (gt (x.f0, x.f1) w)]) (r &&& ~~~(msk (x.f0, x.f1))) (by rw [← e2]; exact hn) (fun f hfm => hl f (by rw [hp]; simp [hfm])) (by simp [ho])
    rw [← e2] at hgo
    rw [hp, left, List.map_cons, show o ++ u (gt (x.f0, x.f1) w) :: (pr s).map (fun f => u (gt f w)) = o ++ [u (gt (x.f0, x.f1) w)] ++ (pr s).map (fun f => u (gt f w)) by simp]
    refine Ev.step (fun k => ?_) hgo
    simp only [field_Split.l0]
    rw [if_pos e0, if_pos (by omega), if_pos e0, e3, get_f (f := (x.f0, x.f1)) hf, Option.bind_some, if_pos (by simp at hn; omega), mask_f (f := (x.f0, x.f1)) hf, Option.bind_some, andNot_u, e1]
theorem split_f (l : List S23) (w : BitVec 64) (hn : l.length < 70368744177664 / 8) : Ev (fun k => field_Split.f k l (u w)) (parted (pr l) w) := by
  unfold field_Split.f
  refine Ev.bind (formed_f l (by omega)) ?_
  unfold parted
  by_cases h : Lay (pr l)
  · rw [decide_eq_true h, if_pos h]
    refine Ev.congr (fun k => if_pos rfl) ?_
    exact split_loop w l [] [] w (by simpa using hn) h.1 rfl
  · rw [decide_eq_false h, if_neg h]
    exact Ev.congr (fun k => if_neg (by simp)) (Ev.now _)
end Go.Proofs.Ytdmenimdhcicjaa.GHandleApart
