/- Plans that are formed and few: where their words are. -/
import Derived.Test.YtkhjkfbgcpjphaaGreatRD3
namespace Go.Proofs.YtkhjkfbgcpjphaaGreat.Fun
open Go
set_option linter.unusedVariables false
set_option linter.unusedSectionVars false
/-- A plan that is formed, and of a size that is looked at. -/
structure PF (n t r d b g : Int) : Prop where
  hn : 1 ≤ n ∧ n ≤ 40
  ht : 1 ≤ t ∧ t ≤ 16
  hr : 3 * t < r ∧ r ≤ 40
  hd : 0 ≤ d ∧ d ≤ 6
  hb : 1 ≤ b ∧ b ≤ 10
  hg : 1 ≤ g ∧ g ≤ 1073741823
def pl (n t r d b g : Int) : DV := .agg [.int .i64 n, .int .i64 t, .int .i64 r, .int .i64 d, .int .i64 b, .int .i64 g]
def cl (b : Int) : Int := if b > 2 then b else 2
def hzP (d b : Int) : Int := 1 + d * (1 + cl b)
def ctP (t d b : Int) : Int := hzP d b + t * 3
def ndP (t r d b : Int) : Int := ctP t d b + t * (1 + r)
def szP (n t r d b : Int) : Int := ndP t r d b + n * 5
section
variable {n t r d b g : Int} (h : PF n t r d b g)
include h
theorem PF.cl : 2 ≤ cl b ∧ cl b ≤ 10 := by
  have := h.hb
  unfold Fun.cl; split <;> omega
theorem PF.mul1 {k : Int} (h0 : 0 ≤ k) (h1 : k ≤ 6) : 0 ≤ k * (1 + Fun.cl b) ∧ k * (1 + Fun.cl b) ≤ 66 := by
  have hc := h.cl
  exact ⟨Int.mul_nonneg h0 (by omega), by
    have := Int.mul_le_mul h1 (show 1 + Fun.cl b ≤ 11 by omega) (by omega) (by omega)
    omega⟩
theorem PF.mul2 {k : Int} (h0 : 0 ≤ k) (h1 : k ≤ 16) : 0 ≤ k * (1 + r) ∧ k * (1 + r) ≤ 656 := by
  have hr := h.hr; have ht := h.ht
  exact ⟨Int.mul_nonneg h0 (by omega), by
    have := Int.mul_le_mul h1 (show 1 + r ≤ 41 by omega) (by omega) (by omega)
    omega⟩
theorem PF.hz : 1 ≤ hzP d b ∧ hzP d b ≤ 67 := by
  have := h.mul1 h.hd.1 h.hd.2
  unfold hzP; omega
theorem PF.ct : hzP d b + 3 ≤ ctP t d b ∧ ctP t d b ≤ 115 := by
  have := h.hz; have := h.ht
  unfold ctP; omega
theorem PF.nd : ctP t d b ≤ ndP t r d b ∧ ndP t r d b ≤ 771 := by
  have := h.ct; have := h.mul2 (by have := h.ht; omega) h.ht.2
  unfold ndP; omega
theorem w1 : IntKind.i64.wrap (1 + cl b) = 1 + cl b := by have := h.cl; exact wrap64 (by omega) (by omega)
theorem w2 {k : Int} (h0 : 0 ≤ k) (h1 : k ≤ 6) : IntKind.i64.wrap (k * (1 + cl b)) = k * (1 + cl b) := by have := h.mul1 h0 h1; exact wrap64 (by omega) (by omega)
theorem w3 : IntKind.i64.wrap (1 + d * (1 + cl b)) = hzP d b := by have := h.mul1 h.hd.1 h.hd.2; unfold hzP; exact wrap64 (by omega) (by omega)
theorem w4 {k : Int} (h0 : 0 ≤ k) (h1 : k ≤ 16) : IntKind.i64.wrap (k * 3) = k * 3 := wrap64 (by omega) (by omega)
theorem w5 : IntKind.i64.wrap (hzP d b + t * 3) = ctP t d b := by have := h.hz; have := h.ht; unfold ctP; exact wrap64 (by omega) (by omega)
theorem w6 : IntKind.i64.wrap (1 + r) = 1 + r := by have := h.hr; have := h.ht; exact wrap64 (by omega) (by omega)
theorem w7 {k : Int} (h0 : 0 ≤ k) (h1 : k ≤ 16) : IntKind.i64.wrap (k * (1 + r)) = k * (1 + r) := by have := h.mul2 h0 h1; exact wrap64 (by omega) (by omega)
theorem w8 : IntKind.i64.wrap (ctP t d b + t * (1 + r)) = ndP t r d b := by have := h.ct; have := h.hz; have := h.mul2 (by have := h.ht; omega) h.ht.2; unfold ndP; exact wrap64 (by omega) (by omega)
theorem w9 {k : Int} (h0 : 0 ≤ k) (h1 : k ≤ 40) : IntKind.i64.wrap (k * 5) = k * 5 := wrap64 (by omega) (by omega)
theorem w10 {k : Int} (h0 : 0 ≤ k) (h1 : k ≤ 40) : IntKind.i64.wrap (ndP t r d b + k * 5) = ndP t r d b + k * 5 := by have := h.nd; have := h.ct; have := h.hz; exact wrap64 (by omega) (by omega)
theorem w3t : IntKind.i64.wrap (IntKind.i64.wrap (3 * t) + 1) = 3 * t + 1 := by have := h.ht; rw [wrap64 (x := 3 * t) (by omega) (by omega), wrap64 (by omega) (by omega)]
theorem formed37 (m : Mu) : CallOk Tryz.prog 37 [pl n t r d b g] m (.bool true) m false [] := by
  have := h.hn; have := h.ht; have := h.hr; have := h.hd; have := h.hb; have := h.hg
  exact d37_1 (decide_eq_false (by omega)) (decide_eq_false (by omega)) (decide_eq_false (by omega)) (decide_eq_false (by omega)) (decide_eq_false (by omega)) (decide_eq_false (by omega)) (decide_eq_false (by omega)) (decide_eq_false (by omega)) (decide_eq_false (by omega)) (decide_eq_false (by omega)) (by rw [w3t h]; exact decide_eq_false (by omega)) (decide_eq_false (by omega)) m
theorem size38 (m : Mu) : CallOk Tryz.prog 18 [pl n t r d b g] m (.int .i64 (szP n t r d b)) m false [] := by
  have := h.hn; have := h.ht; have := h.hr; have := h.hd; have := h.hb; have := h.hg
  have q := d18_1 (a0_0 := n) (a0_1 := t) (a0_2 := r) (a0_3 := d) (a0_4 := b) (a0_5 := g) (decide_eq_false (by omega)) (decide_eq_false (by omega)) (decide_eq_false (by omega)) (decide_eq_false (by omega)) (decide_eq_false (by omega)) (decide_eq_false (by omega)) (decide_eq_false (by omega)) (decide_eq_false (by omega)) (decide_eq_false (by omega)) (decide_eq_false (by omega)) (by rw [w3t h]; exact decide_eq_false (by omega)) (decide_eq_false (by omega)) m
  rw [show (if b > 2 then b else 2) = Fun.cl b from rfl, w1 h, w2 h (by omega) (by omega), w3 h, w4 h (by omega) (by omega), w5 h, w6 h, w7 h (by omega) (by omega), w8 h, w9 h (by omega) (by omega), w10 h (by omega) (by omega)] at q
  exact q
theorem state79 {k : Int} (h0 : 0 ≤ k) (h1 : k < n) (m : Mu) : CallOk Tryz.prog 68 [pl n t r d b g, .int .i64 k] m (.int .i64 (ndP t r d b + k * 5)) m false [] := by
  have := h.hn; have := h.ht; have := h.hr; have := h.hd; have := h.hb; have := h.hg
  have q := d68_1 (a0_0 := n) (a0_1 := t) (a0_2 := r) (a0_3 := d) (a0_4 := b) (a0_5 := g) (a1 := k) (decide_eq_false (by omega)) (decide_eq_false (by omega)) (decide_eq_false (by omega)) (decide_eq_false (by omega)) (decide_eq_false (by omega)) (decide_eq_false (by omega)) (decide_eq_false (by omega)) (decide_eq_false (by omega)) (decide_eq_false (by omega)) (decide_eq_false (by omega)) (by rw [w3t h]; exact decide_eq_false (by omega)) (decide_eq_false (by omega)) (decide_eq_false (by omega)) (by rw [wrap64 (by omega) (by omega)]; exact decide_eq_false (by omega)) m
  rw [show (if b > 2 then b else 2) = Fun.cl b from rfl, w1 h, w2 h (by omega) (by omega), w3 h, w4 h (by omega) (by omega), w5 h, w6 h, w7 h (by omega) (by omega), w8 h, w9 h (by omega) (by omega), w10 h (by omega) (by omega)] at q
  exact q
theorem head60  (m : Mu) : CallOk Tryz.prog 58 [pl n t r d b g] m (.int .i64 (0)) m false [] := by
  have := h.hn; have := h.ht; have := h.hr; have := h.hd; have := h.hb; have := h.hg; have := h.cl; have := h.hz; have := h.ct; have := h.nd
  have q := d58_1 (a0_0 := n) (a0_1 := t) (a0_2 := r) (a0_3 := d) (a0_4 := b) (a0_5 := g)  (decide_eq_false (by omega)) (decide_eq_false (by omega)) (decide_eq_false (by omega)) (decide_eq_false (by omega)) (decide_eq_false (by omega)) (decide_eq_false (by omega)) (decide_eq_false (by omega)) (decide_eq_false (by omega)) (decide_eq_false (by omega)) (decide_eq_false (by omega)) (by rw [w3t h]; exact decide_eq_false (by omega)) (decide_eq_false (by omega))  m
  exact q
theorem next61 {k : Int} (h0 : 0 ≤ k) (h1 : k < n) (m : Mu) : CallOk Tryz.prog 79 [pl n t r d b g, .int .i64 k] m (.int .i64 (ndP t r d b + k * 5 + 1)) m false [] := by
  have := h.hn; have := h.ht; have := h.hr; have := h.hd; have := h.hb; have := h.hg; have := h.cl; have := h.hz; have := h.ct; have := h.nd
  have q := d79_1 (a0_0 := n) (a0_1 := t) (a0_2 := r) (a0_3 := d) (a0_4 := b) (a0_5 := g) (a1 := k) (decide_eq_false (by omega)) (decide_eq_false (by omega)) (decide_eq_false (by omega)) (decide_eq_false (by omega)) (decide_eq_false (by omega)) (decide_eq_false (by omega)) (decide_eq_false (by omega)) (decide_eq_false (by omega)) (decide_eq_false (by omega)) (decide_eq_false (by omega)) (by rw [w3t h]; exact decide_eq_false (by omega)) (decide_eq_false (by omega)) (decide_eq_false (by omega)) (by rw [wrap64 (by omega) (by omega)]; exact decide_eq_false (by omega)) m
  rw [show (if b > 2 then b else 2) = Fun.cl b from rfl, w1 h, w2 h (by omega) (by omega), w3 h, w4 h (by omega) (by omega), w5 h, w6 h, w7 h (by omega) (by omega), w8 h, w9 h (by omega) (by omega), w10 h (by omega) (by omega), wrap64 (by omega) (by omega)] at q
  exact q
theorem field104 {k j : Int} (h0 : 0 ≤ k) (h1 : k < n) (j0 : 0 ≤ j) (j1 : j < 3) (m : Mu) : CallOk Tryz.prog 112 [pl n t r d b g, .int .i64 k, .int .i64 j] m (.int .i64 (ndP t r d b + k * 5 + 2 + j)) m false [] := by
  have := h.hn; have := h.ht; have := h.hr; have := h.hd; have := h.hb; have := h.hg; have := h.cl; have := h.hz; have := h.ct; have := h.nd
  have q := d112_1 (a0_0 := n) (a0_1 := t) (a0_2 := r) (a0_3 := d) (a0_4 := b) (a0_5 := g) (a1 := k) (a2 := j) (decide_eq_false (by omega)) (decide_eq_false (by omega)) (decide_eq_false (by omega)) (decide_eq_false (by omega)) (decide_eq_false (by omega)) (decide_eq_false (by omega)) (decide_eq_false (by omega)) (decide_eq_false (by omega)) (decide_eq_false (by omega)) (decide_eq_false (by omega)) (by rw [w3t h]; exact decide_eq_false (by omega)) (decide_eq_false (by omega)) (decide_eq_false (by omega)) (by rw [wrap64 (by omega) (by omega)]; exact decide_eq_false (by omega)) (decide_eq_false (by omega)) (decide_eq_false (by omega)) m
  rw [show (if b > 2 then b else 2) = Fun.cl b from rfl, w1 h, w2 h (by omega) (by omega), w3 h, w4 h (by omega) (by omega), w5 h, w6 h, w7 h (by omega) (by omega), w8 h, w9 h (by omega) (by omega), w10 h (by omega) (by omega), wrap64 (x := ndP t r d b + k * 5 + 2) (by omega) (by omega), wrap64 (by omega) (by omega)] at q
  exact q
theorem kind71 {k : Int} (h0 : 0 ≤ k) (h1 : k < d) (m : Mu) : CallOk Tryz.prog 59 [pl n t r d b g, .int .i64 k] m (.int .i64 (1 + k * (1 + Fun.cl b))) m false [] := by
  have := h.hn; have := h.ht; have := h.hr; have := h.hd; have := h.hb; have := h.hg; have := h.cl; have := h.hz; have := h.ct; have := h.nd
  have := h.mul1 h0 (show k ≤ 6 by omega)
  have q := d59_1 (a0_0 := n) (a0_1 := t) (a0_2 := r) (a0_3 := d) (a0_4 := b) (a0_5 := g) (a1 := k) (decide_eq_false (by omega)) (decide_eq_false (by omega)) (decide_eq_false (by omega)) (decide_eq_false (by omega)) (decide_eq_false (by omega)) (decide_eq_false (by omega)) (decide_eq_false (by omega)) (decide_eq_false (by omega)) (decide_eq_false (by omega)) (decide_eq_false (by omega)) (by rw [w3t h]; exact decide_eq_false (by omega)) (decide_eq_false (by omega)) (decide_eq_false (by omega)) (by rw [wrap64 (by omega) (by omega)]; exact decide_eq_false (by omega)) m
  rw [show (if b > 2 then b else 2) = Fun.cl b from rfl, w1 h, w2 h (by omega) (by omega), wrap64 (by omega) (by omega)] at q
  exact q
theorem cell72 {k j : Int} (h0 : 0 ≤ k) (h1 : k < d) (j0 : 0 ≤ j) (j1 : j < Fun.cl b) (m : Mu) : CallOk Tryz.prog 61 [pl n t r d b g, .int .i64 k, .int .i64 j] m (.int .i64 (2 + k * (1 + Fun.cl b) + j)) m false [] := by
  have := h.hn; have := h.ht; have := h.hr; have := h.hd; have := h.hb; have := h.hg; have := h.cl; have := h.hz; have := h.ct; have := h.nd
  have := h.mul1 h0 (show k ≤ 6 by omega)
  have q := d61_1 (a0_0 := n) (a0_1 := t) (a0_2 := r) (a0_3 := d) (a0_4 := b) (a0_5 := g) (a1 := k) (a2 := j) (decide_eq_false (by omega)) (decide_eq_false (by omega)) (decide_eq_false (by omega)) (decide_eq_false (by omega)) (decide_eq_false (by omega)) (decide_eq_false (by omega)) (decide_eq_false (by omega)) (decide_eq_false (by omega)) (decide_eq_false (by omega)) (decide_eq_false (by omega)) (by rw [w3t h]; exact decide_eq_false (by omega)) (decide_eq_false (by omega)) (decide_eq_false (by omega)) (by rw [wrap64 (by omega) (by omega)]; exact decide_eq_false (by omega)) (decide_eq_false (by omega)) (by rw [show (if b > 2 then b else 2) = Fun.cl b from rfl, wrap64 (by omega) (by omega)]; exact decide_eq_false (by omega)) m
  rw [show (if b > 2 then b else 2) = Fun.cl b from rfl, w1 h, w2 h (by omega) (by omega), wrap64 (x := 2 + k * (1 + Fun.cl b)) (by omega) (by omega), wrap64 (by omega) (by omega)] at q
  exact q
theorem hazard73 {k j : Int} (h0 : 0 ≤ k) (h1 : k < t) (j0 : 0 ≤ j) (j1 : j < 3) (m : Mu) : CallOk Tryz.prog 62 [pl n t r d b g, .int .i64 k, .int .i64 j] m (.int .i64 (hzP d b + k * 3 + j)) m false [] := by
  have := h.hn; have := h.ht; have := h.hr; have := h.hd; have := h.hb; have := h.hg; have := h.cl; have := h.hz; have := h.ct; have := h.nd
  have q := d62_1 (a0_0 := n) (a0_1 := t) (a0_2 := r) (a0_3 := d) (a0_4 := b) (a0_5 := g) (a1 := k) (a2 := j) (decide_eq_false (by omega)) (decide_eq_false (by omega)) (decide_eq_false (by omega)) (decide_eq_false (by omega)) (decide_eq_false (by omega)) (decide_eq_false (by omega)) (decide_eq_false (by omega)) (decide_eq_false (by omega)) (decide_eq_false (by omega)) (decide_eq_false (by omega)) (by rw [w3t h]; exact decide_eq_false (by omega)) (decide_eq_false (by omega)) (decide_eq_false (by omega)) (by rw [wrap64 (by omega) (by omega)]; exact decide_eq_false (by omega)) (decide_eq_false (by omega)) (decide_eq_false (by omega)) m
  rw [show (if b > 2 then b else 2) = Fun.cl b from rfl, w1 h, w2 h (by omega) (by omega), w3 h, w4 h (by omega) (by omega), wrap64 (x := hzP d b + k * 3) (by omega) (by omega), wrap64 (by omega) (by omega)] at q
  exact q
theorem count74 {k : Int} (h0 : 0 ≤ k) (h1 : k < t) (m : Mu) : CallOk Tryz.prog 63 [pl n t r d b g, .int .i64 k] m (.int .i64 (ctP t d b + k * (1 + r))) m false [] := by
  have := h.hn; have := h.ht; have := h.hr; have := h.hd; have := h.hb; have := h.hg; have := h.cl; have := h.hz; have := h.ct; have := h.nd
  have := h.mul2 h0 (show k ≤ 16 by omega)
  have q := d63_1 (a0_0 := n) (a0_1 := t) (a0_2 := r) (a0_3 := d) (a0_4 := b) (a0_5 := g) (a1 := k) (decide_eq_false (by omega)) (decide_eq_false (by omega)) (decide_eq_false (by omega)) (decide_eq_false (by omega)) (decide_eq_false (by omega)) (decide_eq_false (by omega)) (decide_eq_false (by omega)) (decide_eq_false (by omega)) (decide_eq_false (by omega)) (decide_eq_false (by omega)) (by rw [w3t h]; exact decide_eq_false (by omega)) (decide_eq_false (by omega)) (decide_eq_false (by omega)) (by rw [wrap64 (by omega) (by omega)]; exact decide_eq_false (by omega)) m
  rw [show (if b > 2 then b else 2) = Fun.cl b from rfl, w1 h, w2 h (by omega) (by omega), w3 h, w4 h (by omega) (by omega), w5 h, w6 h, w7 h (by omega) (by omega), wrap64 (by omega) (by omega)] at q
  exact q
theorem cells16  (m : Mu) : CallOk Tryz.prog 60 [pl n t r d b g] m (.int .i64 (Fun.cl b)) m false [] := by
  have := h.hn; have := h.ht; have := h.hr; have := h.hd; have := h.hb; have := h.hg; have := h.cl; have := h.hz; have := h.ct; have := h.nd
  have q := d60_1 (a0_0 := n) (a0_1 := t) (a0_2 := r) (a0_3 := d) (a0_4 := b) (a0_5 := g)  (decide_eq_false (by omega)) (decide_eq_false (by omega)) (decide_eq_false (by omega)) (decide_eq_false (by omega)) (decide_eq_false (by omega)) (decide_eq_false (by omega)) (decide_eq_false (by omega)) (decide_eq_false (by omega)) (decide_eq_false (by omega)) (decide_eq_false (by omega)) (by rw [w3t h]; exact decide_eq_false (by omega)) (decide_eq_false (by omega))  m
  exact q
end
end Go.Proofs.YtkhjkfbgcpjphaaGreat.Fun
