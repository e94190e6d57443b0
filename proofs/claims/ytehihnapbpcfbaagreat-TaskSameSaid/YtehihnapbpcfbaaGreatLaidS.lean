/- A memory of one region, with a fresh list. -/
import Derived.Test.YtehihnapbpcfbaaGreatPlanF
import Derived.Test.YtehihnapbpcfbaaGreatFreshL
import Derived.Test.YtehihnapbpcfbaaGreatRunN
import Derived.Test.YtehihnapbpcfbaaGreatNewOne
namespace Go.Proofs.YtehihnapbpcfbaaGreat.Fun
open Go
set_option linter.unusedVariables false
section
variable {p : Pl} (h : PFew p)
include h
/-- A fresh list, laid on any words: it is over. -/
theorem fresh_over : ∀ (j k n : Nat), ((k + j : Nat) : Int) = p.qNodes → j + 2 ≤ n → ∀ w : Nat → Int, (LP.run (szQ p).toNat (j + 1) (freshL p n k) w).1 = .done ⟨⟩
  | 0, k, 0, hk, hn, w => by omega
  | 0, k, n + 1, hk, hn, w => by
    have := h.sz; have := h.nd; have := h.ct; have := h.hz
    rw [freshL, show (((k : Nat) : Int) == p.qNodes) = true by rw [beq_iff_eq]; omega, cond_true]
    obtain ⟨w', hw⟩ := accW_some (rn := (szQ p).toNat) (w := w) (op := 1) (a := headG p) (x := 1) (y := 0) (by rw [h.head]; omega) (by rw [h.head]; omega) (by omega) (by omega)
    simp only [LP.run, hw]
  | j + 1, k, 0, hk, hn, w => by omega
  | j + 1, k, n + 1, hk, hn, w => by
    have := h.sz; have := h.nd; have := h.ct; have := h.hz; have := h.hn
    rw [freshL, show (((k : Nat) : Int) == p.qNodes) = false by rw [beq_eq_false_iff_ne]; omega, cond_false]
    have e := h.next (k := k) (by omega) (by omega)
    obtain ⟨w', hw⟩ := accW_some (rn := (szQ p).toNat) (w := w) (op := 1) (a := nextG p k) (x := cond (w6 ((k : Int) + 1) == p.qNodes) 0 (wu (w6 (w6 ((k : Int) + 1) + 1)))) (y := 0) (by rw [e]; omega) (by rw [e]; unfold szQ; omega) (by omega) (by omega)
    simp only [LP.run, hw]
    have e2 : w6 ((k : Int) + 1) = ((k + 1 : Nat) : Int) := by unfold w6; rw [wrap64 (by omega) (by omega)]; omega
    rw [e2]
    exact fresh_over j (k + 1) n (by omega) (by omega) _
omit h in
theorem isCut_done {R : Type} {t : LP R} {r : R} (h : t = .done r) : t.isCut = false := by rw [h]; rfl
omit h in
theorem off_to {n n1 l : Nat} (h : n ≤ n1) (h' : n1 ≤ n + l) : offUse (nms n (n1 - n)) (nms n l) = nms n1 (n + l - n1) := by
  have := off_nms n (n1 - n) (l - (n1 - n))
  rw [show n1 - n + (l - (n1 - n)) = l by omega, show n + (n1 - n) = n1 by omega, show l - (n1 - n) = n + l - n1 by omega] at this
  exact this
/-- The words that a fresh list leaves. -/
def freshWords (p : Pl) : Nat → Int := (LP.run (szQ p).toNat (p.qNodes.toNat + 1) (freshL p (p.qNodes.toNat + 2) 0) fun _ => 0).2.2
/-- Where a memory of one region lies. -/
abbrev reg1 (p : Pl) (a : Nat) (w : Nat → Int) : Reg := ⟨a + 2, a + 1, (szQ p).toNat, 1, w⟩
omit h in
theorem HasReg.low4 {m m' : Mu} {a : Nat} {c : Int} {w : Nat → Int} (q : HasReg m a (a + 3) 1 0 c (reg1 p a w)) (k : ∀ b, a ≤ b → b < a + 4 → ∀ o, m' b o = m b o) : HasReg m' a (a + 3) 1 0 c (reg1 p a w) :=
  q.keep fun b hb o => k b (by rcases hb with rfl | rfl | rfl | rfl <;> simp) (by rcases hb with rfl | rfl | rfl | rfl <;> simp) o
theorem laidOk (a : Nat) : ∃ L, 4 ≤ L ∧ ∀ m, ∃ m' c, CallOk Tryz.prog n_cubiclelaw09_Laid [.agg p.cs] m (.adr a 0) m' false (nms a L) ∧ HasReg m' a (a + 3) 1 0 c (reg1 p a (freshWords p)) ∧ Low a m m' := by
  have := h.sz; have := h.nd; have := h.ct; have := h.hz; have := h.hn
  have over := fresh_over h p.qNodes.toNat 0 (p.qNodes.toNat + 2) (by omega) (by omega) fun _ => 0
  rw [show (((0 : Nat) : Int)) = 0 from rfl] at over
  obtain ⟨pv, own, n1, a1, a2, a3, a4, a5⟩ := den_fresh p (p.qNodes.toNat + 2) (a + 4) (fun x hx => by cases hx)
  obtain ⟨n2, b1, b2⟩ := runN.runOk (szQ p).toNat a5 a3 (p.qNodes.toNat + 1) (by omega) (fun _ => 0) (isCut_done over)
  refine ⟨n2 - a, by omega, fun m => ?_⟩
  obtain ⟨m1, c1, r1, low1⟩ := newOne (sz := szQ p) (by omega) (by omega) m a
  obtain ⟨m2, c2, o2, k2⟩ := a4 m1 (fun x hx => by cases hx)
  have r2 : HasReg m2 a (a + 3) 1 0 0 (reg1 p a fun _ => 0) := HasReg.low4 r1 fun b h1 h2 o => k2 b (by omega) (fun x hx => by cases hx) o
  have hown : ∀ x ∈ own, a + 4 ≤ x.1 := fun x hx => by
    rcases a2 x hx with ⟨y, hy, _⟩ | h'
    · cases hy
    · exact h'.1
  have hap : Apart own n1 a (a + 3) (a + 2) (a + 1) := fun b hb => ⟨by rcases hb with rfl | rfl | rfl | rfl <;> omega, fun x hx e => by have := hown x hx; rcases hb with rfl | rfl | rfl | rfl <;> omega⟩
  obtain ⟨m3, c3, r3, far3⟩ := b2 m2 a (a + 3) 1 0 0 (a + 2) (a + 1) 1 o2 r2 hap (n2 - n1) (by omega)
  refine ⟨m3, _, ?_, r3, fun b hb o => ?_⟩
  · have e1 : offUse (nms a 4) (nms a (n2 - a)) = nms (a + 4) (n2 - (a + 4)) := by
      have := off_to (n := a) (n1 := a + 4) (l := n2 - a) (by omega) (by omega)
      rw [show a + 4 - a = 4 by omega, show a + (n2 - a) - (a + 4) = n2 - (a + 4) by omega] at this
      exact this
    have e2 : offUse (nms (a + 4) (n1 - (a + 4))) (nms (a + 4) (n2 - (a + 4))) = nms n1 (n2 - n1) := by
      rw [off_to (by omega) (by omega)]; congr 1; omega
    have g1 : ((nms a 4).all fun n => (nms a (n2 - a)).contains n) = true := all_nms (Nat.le_refl _) (by omega)
    have g2 : ((nms (a + 4) (n1 - (a + 4))).all fun n => (offUse (nms a 4) (nms a (n2 - a))).contains n) = true := by rw [e1]; exact all_nms (Nat.le_refl _) (by omega)
    have g3 : ((nms n1 (n2 - n1)).all fun n => (offUse (nms (a + 4) (n1 - (a + 4))) (offUse (nms a 4) (nms a (n2 - a)))).contains n) = true := by rw [e1, e2]; exact all_nms (Nat.le_refl _) (by omega)
    have cs : CallOk Tryz.prog n_plan_Plan_Size [.agg p.cs] m (I (szQ p)) m false [] := by
      have := sizeG_ok p m
      rw [h.size] at this; exact this
    have ek : I ((p.qNodes.toNat + 1 : Nat) : Int) = I (IntKind.i64.wrap (p.qNodes + 1)) := by
      rw [wrap64 (by omega) (by omega)]; congr 1; omega
    rw [ek, over] at c3
    rcases a5.looks with ⟨r, rfl⟩ | ⟨op, x, y, z, g, cc, rfl⟩
    · exact f_cubiclelaw09_Laid_1_o cs c1 g1 rfl c2.1 g2 (capOk r2) c3 g3 rfl
    · exact f_cubiclelaw09_Laid_1_s cs c1 g1 rfl c2.1 g2 (capOk r2) c3 g3 rfl
  · rw [far3 b (by omega) (fun x hx e => by have := hown x hx; omega) (by omega) (by omega) o, k2 b (by omega) (fun x hx => by cases hx) o, low1 b hb o]
end
end Go.Proofs.YtehihnapbpcfbaaGreat.Fun
