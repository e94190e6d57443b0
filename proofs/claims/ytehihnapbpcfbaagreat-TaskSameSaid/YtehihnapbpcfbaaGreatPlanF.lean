/- Plans that are formed and few: where their words are, and how many these are. -/
import Derived.Test.YtehihnapbpcfbaaGreatPlanS
import Derived.Test.YtehihnapbpcfbaaGreatRunL
namespace Go.Proofs.YtehihnapbpcfbaaGreat.Fun
open Go
set_option linter.unusedVariables false
set_option linter.unusedSectionVars false
theorem cond_f {c x : Bool} : (cond c false x = true) = (c = false ∧ x = true) := by cases c <;> simp
theorem cond_t {c x : Bool} : (cond c x false = true) = (c = true ∧ x = true) := by cases c <;> simp
/-- A plan that is formed, and of a size that is looked at. -/
structure PFew (p : Pl) : Prop where
  hn : 1 ≤ p.qNodes ∧ p.qNodes ≤ 40
  ht : 1 ≤ p.qThreads ∧ p.qThreads ≤ 16
  hr : 3 * p.qThreads < p.qRetire ∧ p.qRetire ≤ 40
  hd : 0 ≤ p.qDomains ∧ p.qDomains ≤ 6
  hb : 1 ≤ p.qBuckets ∧ p.qBuckets ≤ 10
  hg : 1 ≤ p.qGen ∧ p.qGen ≤ 1073741823
theorem PFew.of {p : Pl} (h1 : fewR p = true) (h2 : formR p = true) : PFew p := by
  unfold formR at h2
  simp only [cond_f, cond_t] at h2
  obtain ⟨a1, a2, a3, a4, a5, a6, a7, a8, a9, a10, a11, a12⟩ := h2
  unfold fewR at h1
  simp only [a1, a2, a3, a4, a5, a6, a7, a8, a9, a10, a11, a12, cond_true, cond_false, Bool.not_true, cond_t, decide_eq_true_eq] at h1
  simp only [decide_eq_true_eq, decide_eq_false_iff_not] at a1 a2 a3 a4 a5 a6 a7 a8 a9 a10 a11 a12
  rw [wrap64 (by omega) (by omega)] at a11
  obtain ⟨b1, b2, b3, b4⟩ := h1
  constructor <;> omega
def clP (p : Pl) : Int := if p.qBuckets > 2 then p.qBuckets else 2
def hzQ (p : Pl) : Int := 1 + p.qDomains * (1 + clP p)
def ctQ (p : Pl) : Int := hzQ p + p.qThreads * 3
def ndQ (p : Pl) : Int := ctQ p + p.qThreads * (1 + p.qRetire)
def szQ (p : Pl) : Int := ndQ p + p.qNodes * 5
section
variable {p : Pl} (h : PFew p)
include h
theorem PFew.formed : formedG p = true := by
  have := h.hn; have := h.ht; have := h.hr; have := h.hd; have := h.hb; have := h.hg
  unfold formedG
  have e : IntKind.i64.wrap (IntKind.i64.wrap (3 * p.qThreads) + 1) = 3 * p.qThreads + 1 := by rw [wrap64 (x := 3 * p.qThreads) (by omega) (by omega), wrap64 (by omega) (by omega)]
  simp only [cond_f, e, decide_eq_false_iff_not]
  refine ⟨by omega, by omega, by omega, by omega, by omega, by omega, by omega, by omega, by omega, by omega, by omega, by omega, trivial⟩
theorem PFew.cl : 2 ≤ clP p ∧ clP p ≤ 10 := by
  have := h.hb
  unfold clP; split <;> omega
theorem PFew.mul1 : 0 ≤ p.qDomains * (1 + clP p) ∧ p.qDomains * (1 + clP p) ≤ 66 := by
  have hc := h.cl; have hd := h.hd
  exact ⟨Int.mul_nonneg hd.1 (by omega), by
    have := Int.mul_le_mul hd.2 (show 1 + clP p ≤ 11 by omega) (by omega) (by omega)
    omega⟩
theorem PFew.mul2 : 0 ≤ p.qThreads * (1 + p.qRetire) ∧ p.qThreads * (1 + p.qRetire) ≤ 656 := by
  have hr := h.hr; have ht := h.ht
  exact ⟨Int.mul_nonneg (by omega) (by omega), by
    have := Int.mul_le_mul ht.2 (show 1 + p.qRetire ≤ 41 by omega) (by omega) (by omega)
    omega⟩
theorem PFew.hz : 1 ≤ hzQ p ∧ hzQ p ≤ 67 := by have := h.mul1; unfold hzQ; omega
theorem PFew.ct : hzQ p + 3 ≤ ctQ p ∧ ctQ p ≤ 115 := by have := h.hz; have := h.ht; unfold ctQ; omega
theorem PFew.nd : ctQ p ≤ ndQ p ∧ ndQ p ≤ 771 := by have := h.ct; have := h.mul2; unfold ndQ; omega
theorem PFew.sz : ndQ p + 5 ≤ szQ p ∧ szQ p ≤ 971 := by have := h.nd; have := h.hn; unfold szQ; omega
theorem PFew.ws : IntKind.i64.wrap (IntKind.i64.wrap (IntKind.i64.wrap (1 + IntKind.i64.wrap (p.qDomains * IntKind.i64.wrap (1 + if p.qBuckets > 2 then p.qBuckets else 2))) + IntKind.i64.wrap (p.qThreads * 3)) + IntKind.i64.wrap (p.qThreads * IntKind.i64.wrap (1 + p.qRetire))) = ndQ p := by
  have := h.cl; have := h.mul1; have := h.mul2; have := h.hz; have := h.ct; have := h.nd; have := h.ht; have := h.hr
  rw [show (if p.qBuckets > 2 then p.qBuckets else 2) = clP p from rfl, wrap64 (x := 1 + clP p) (by omega) (by omega), wrap64 (x := p.qDomains * (1 + clP p)) (by omega) (by omega), wrap64 (x := 1 + p.qDomains * (1 + clP p)) (by omega) (by omega),
    show 1 + p.qDomains * (1 + clP p) = hzQ p from rfl, wrap64 (x := p.qThreads * 3) (by omega) (by omega), show hzQ p + p.qThreads * 3 = ctQ p from rfl, wrap64 (x := ctQ p) (by omega) (by omega), wrap64 (x := 1 + p.qRetire) (by omega) (by omega),
    wrap64 (x := p.qThreads * (1 + p.qRetire)) (by omega) (by omega), show ctQ p + p.qThreads * (1 + p.qRetire) = ndQ p from rfl, wrap64 (by omega) (by omega)]
theorem PFew.size : sizeG p = szQ p := by
  have := h.nd; have := h.ct; have := h.hz; have := h.sz; have := h.hn
  unfold sizeG
  rw [h.formed, Bool.not_true, cond_false, h.ws, wrap64 (x := p.qNodes * 5) (by omega) (by omega), show ndQ p + p.qNodes * 5 = szQ p from rfl, wrap64 (by omega) (by omega)]
theorem PFew.head : headG p = 0 := by
  unfold headG
  rw [h.formed, Bool.not_true, cond_false]
theorem PFew.next {k : Int} (h0 : 0 ≤ k) (h1 : k < p.qNodes) : nextG p k = ndQ p + k * 5 + 1 := by
  have := h.nd; have := h.ct; have := h.hz; have := h.sz; have := h.hn
  unfold nextG
  rw [h.formed, Bool.not_true, cond_false, decide_eq_false (by omega), cond_false, wrap64 (x := p.qNodes - 1) (by omega) (by omega), decide_eq_false (by omega), cond_false, h.ws, wrap64 (x := k * 5) (by omega) (by omega), wrap64 (x := ndQ p + k * 5) (by omega) (by omega), wrap64 (by omega) (by omega)]
end
/-- An access in bounds is done. -/
theorem accW_some {rn : Nat} {w : Nat → Int} {op a x y : Int} (h0 : 0 ≤ a) (h1 : a < rn) (h2 : 0 ≤ op) (h3 : op ≤ 3) : ∃ w', accW rn w op a x y = some (w a.toNat, w') := by
  unfold accW
  rw [if_neg (by omega)]
  exact ⟨_, rfl⟩
end Go.Proofs.YtehihnapbpcfbaaGreat.Fun
