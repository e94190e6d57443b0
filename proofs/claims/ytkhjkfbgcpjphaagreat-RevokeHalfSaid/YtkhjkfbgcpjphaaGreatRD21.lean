/- A region's words as a row; the list of free nodes as a row; rows compared. -/
import Derived.Test.YtkhjkfbgcpjphaaGreatRD20
namespace Go.Proofs.YtkhjkfbgcpjphaaGreat.Fun
open Go Go.Proofs.YtkhjkfbgcpjphaaGreat.Fun.B
set_option linter.unusedVariables false
theorem peek52 {m : Mu} {mb lb len i : Nat} {R : Reg} (h : HasReg m mb lb len i R) {a : Int} (h0 : 0 ≤ a) (h1 : a < R.n) : CallOk Tryz.prog 36 [.adr mb 0, .int .i64 i, .int .i64 a] m (.int .u64 (R.w a.toNat)) m false [] :=
  f36_1 (decide_eq_false (by omega)) (sizeOk h) (decide_eq_false (by omega)) h.l (decide_eq_true (by have := h.lt; omega)) (by simpa using h.at_) h.ws (decide_eq_true (by omega)) (by rw [Nat.zero_add, Nat.mul_one]; exact h.w _ (by omega))
/-- A region's words, whole. -/
theorem w22 {mb lb len : Nat} {R : Reg} (a : Nat) (l1 : mb < a) (l2 : lb < a) (l3 : R.rb < a) (l4 : R.wb < a) (hn : R.n < 1000000) : ∀ (j k : Nat), 1 ≤ k → k + j = R.n → ∀ mk : Mu, HasReg mk mb lb len 0 R → (∀ o, o < k → mk (a + k - 1) o = some (.int .u64 (R.w o))) →
    ∃ m', LoopOk Tryz.prog (codeAt [true, true, false, true, false, false] (Tryz.f13.body.getD .skip)) (L13_1 mb (.vec (a + k - 1) 0 k 1) (k : Int) mk false (nms (a + k) j)) (.exit 0) (L13_1 mb (.vec (a + R.n - 1) 0 R.n 1) (R.n : Int) m' false (nms (a + R.n) 0)) ∧
      (∀ o, o < R.n → m' (a + R.n - 1) o = some (.int .u64 (R.w o))) ∧ Low a mk m'
  | 0, k, hk, hkj, mk, hR, hrow => by
    obtain rfl : k = R.n := by omega
    refine ⟨mk, .last (by simp) (L13_1_1 (sizeOk hR) (decide_eq_false (by omega))), hrow, .refl a mk⟩
  | j + 1, k, hk, hkj, mk, hR, hrow => by
    have hw : IntKind.i64.wrap ((k : Int) + 1) = ((k + 1 : Nat) : Int) := by rw [wrap64 (by omega) (by omega)]; omega
    let m1 := appMu mk (a + k - 1) (k * 1) (a + k) [.int .u64 (R.w k)]
    have low : Low a mk m1 := fun c hc o => appMu_low (by omega) (by omega) o
    have row1 : ∀ o, o < k + 1 → m1 (a + k) o = some (.int .u64 (R.w o)) := fun o ho => by
      show appMu _ _ _ _ _ _ _ = _
      rw [appMu_at]
      by_cases hok : o < k
      · rw [if_pos (by omega)]; exact hrow o hok
      · obtain rfl : o = k := by omega
        rw [if_neg (by omega)]; simp
    obtain ⟨m', hl, hr, lw⟩ := w22 a l1 l2 l3 l4 hn j (k + 1) (by omega) (by omega) m1 (hR.low low l1 l2 l3 l4) (by rw [show a + (k + 1) - 1 = a + k by omega]; exact row1)
    refine ⟨m', .step (s1 := L13_1 mb (.vec (a + (k + 1) - 1) 0 (k + 1) 1) ((k + 1 : Nat) : Int) m1 false (nms (a + (k + 1)) j)) ?_ hl, hr, low.trans lw⟩
    have hp := peek52 hR (a := (k : Int)) (by omega) (by omega)
    rw [Int.toNat_natCast] at hp
    have this : CodeOk Tryz.prog (codeAt [true, true, false, true, false, false] (Tryz.f13.body.getD .skip)) (L13_1 mb (.vec (a + k - 1) 0 k 1) (k : Int) mk false (nms (a + k) (j + 1))) .normal (L13_1 mb (.vec (a + k) 0 (k + 1) 1) (IntKind.i64.wrap ((k : Int) + 1)) m1 false (offUse [a + k] (nms (a + k) (j + 1)))) :=
      L13_1_2 (sizeOk hR) (decide_eq_true (by omega)) hp (decide_eq_true ⟨by omega, by omega, rfl⟩) (List.all_eq_true.2 fun o ho => by rw [hrow o (by simpa using ho)]; rfl)
        (by rw [show [a + k] = nms (a + k) 1 from rfl]; exact all_nms (Nat.le_refl _) (by omega))
    rw [hw, off_one] at this
    rw [show a + (k + 1) - 1 = a + k by omega, show a + (k + 1) = a + k + 1 by omega]
    exact @this
theorem words22 {m : Mu} {mb lb len : Nat} {R : Reg} (hR : HasReg m mb lb len 0 R) (a : Nat) (l1 : mb < a) (l2 : lb < a) (l3 : R.rb < a) (l4 : R.wb < a) (h1 : 1 ≤ R.n) (hn : R.n < 1000000) :
    ∃ m' row, CallOk Tryz.prog 13 [.adr mb 0] m (.vec row 0 R.n 1) m' false (nms a R.n) ∧ (∀ o, o < R.n → m' row o = some (.int .u64 (R.w o))) ∧ Low a m m' ∧ a ≤ row ∧ row < a + R.n := by
  obtain ⟨j, hj⟩ : ∃ j, R.n = j + 1 := ⟨R.n - 1, by omega⟩
  let m1 := appMu m a 0 a [.int .u64 (R.w 0)]
  have low : Low a m m1 := fun c hc o => appMu_low (by omega) (by omega) o
  obtain ⟨m', hl, hr, lw⟩ := w22 a l1 l2 l3 l4 hn j 1 (Nat.le_refl _) (by omega) m1 (hR.low low l1 l2 l3 l4) (fun o ho => by
    obtain rfl : o = 0 := by omega
    show appMu _ _ _ _ _ _ _ = _
    rw [show a + 1 - 1 = a from rfl, appMu_at, if_neg (by omega)]; rfl)
  have hp := peek52 hR (a := 0) (by omega) (by omega)
  have s1 : CodeOk Tryz.prog (codeAt [true, true, false, true, false, false] (Tryz.f13.body.getD .skip)) (L13_1 mb .nils 0 m false (nms a (j + 1))) .normal (L13_1 mb (.vec a 0 1 1) (IntKind.i64.wrap (0 + 1)) m1 false (offUse [a] (nms a (j + 1)))) :=
    L13_1_4 (sizeOk hR) (decide_eq_true (by omega)) hp (by rw [show [a] = nms a 1 from rfl]; exact all_nms (Nat.le_refl _) (by omega))
  rw [off_one] at s1
  have lp : CodeOk Tryz.prog (codeAt [true, true, false, true, false] (Tryz.f13.body.getD .skip)) (L13_1 mb .nils 0 m false (nms a (j + 1))) (.exit 0) (L13_1 mb (.vec (a + R.n - 1) 0 R.n 1) (R.n : Int) m' false (nms (a + R.n) 0)) := by
    rw [L13_1_loop]
    exact (LoopOk.step (P := Tryz.prog) @s1 hl).code
  rw [← hj] at lp
  exact ⟨m', a + R.n - 1, f13_1 lp, hr, low.trans lw, by omega, by omega⟩
/-- Two rows of words that are one. -/
theorem same24 {m : Mu} {x y n : Nat} (v : Nat → Int) (hn : n < 1000000) (hx : ∀ o, o < n → m x o = some (.int .u64 (v o))) (hy : ∀ o, o < n → m y o = some (.int .u64 (v o))) : CallOk Tryz.prog 12 [.vec x 0 n 1, .vec y 0 n 1] m (.bool true) m false [] := by
  have go : ∀ (j k : Nat), k + j = n → LoopOk Tryz.prog (codeAt [true, true, false, true, false, false] (Tryz.f12.body.getD .skip)) (L12_1 x 0 n y 0 n false (k : Int) m false) (.exit 0) (L12_1 x 0 n y 0 n false (n : Int) m false) := by
    intro j
    induction j with
    | zero =>
      intro k hk
      obtain rfl : k = n := by omega
      exact .last (by simp) (L12_1_1 (decide_eq_false (by omega)))
    | succ j ih =>
      intro k hk
      have hw : IntKind.i64.wrap ((k : Int) + 1) = ((k + 1 : Nat) : Int) := by rw [wrap64 (by omega) (by omega)]; omega
      refine .step (s1 := L12_1 x 0 n y 0 n false ((k + 1 : Nat) : Int) m false) ?_ (ih (k + 1) (by omega))
      have this : CodeOk Tryz.prog (codeAt [true, true, false, true, false, false] (Tryz.f12.body.getD .skip)) (L12_1 x 0 n y 0 n false (k : Int) m false) .normal (L12_1 x 0 n y 0 n false (IntKind.i64.wrap ((k : Int) + 1)) m false) :=
        L12_1_2 (v0 := v k) (v1 := v k) (decide_eq_true (by omega)) (decide_eq_true (by omega)) (by rw [Nat.zero_add, Nat.mul_one, Int.toNat_natCast]; exact hx k (by omega)) (decide_eq_true (by omega)) (by rw [Nat.zero_add, Nat.mul_one, Int.toNat_natCast]; exact hy k (by omega)) (by simp)
      rw [hw] at this
      exact @this
  have lp := go n 0 (by omega)
  refine f12_1 (z1_t4 := false) (z1_t5 := (n : Int)) (by simp) ?_
  rw [L12_1_loop]
  exact lp.code
end Go.Proofs.YtkhjkfbgcpjphaaGreat.Fun
