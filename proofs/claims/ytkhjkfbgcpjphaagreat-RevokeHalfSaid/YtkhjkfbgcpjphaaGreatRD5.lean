/- A node's words. -/
import Derived.Test.YtkhjkfbgcpjphaaGreatRD4
namespace Go.Proofs.YtkhjkfbgcpjphaaGreat.Fun
open Go
set_option linter.unusedVariables false
/-- Rows of names below one stay as they were. -/
def Low (a : Nat) (m m' : Mu) : Prop := ∀ c, c < a → ∀ o, m' c o = m c o
theorem Low.trans {a : Nat} {m m1 m2 : Mu} (h : Low a m m1) (h' : Low a m1 m2) : Low a m m2 := fun c hc o => (h' c hc o).trans (h c hc o)
theorem appMu_low {m : Mu} {b k n : Nat} {cs : List DV} {c : Nat} (h1 : c ≠ n) (h2 : c ≠ b) (o : Nat) : appMu m b k n cs c o = m c o := by unfold appMu; rw [if_neg h1, if_neg h2]
theorem appMu_at {m : Mu} {b k n : Nat} {cs : List DV} (o : Nat) : appMu m b k n cs n o = if o < k then m b o else cs[o - k]? := by unfold appMu; rw [if_pos rfl]
theorem off_one (a k : Nat) : offUse [a] (nms a (k + 1)) = nms (a + 1) k := by
  rw [Nat.add_comm k 1]; exact off_nms a 1 k
section
variable {n t r d b g : Int} (h : PF n t r d b g)
include h
theorem words76 {k : Int} (h0 : 0 ≤ k) (h1 : k < n) (m : Mu) (a : Nat) : ∃ m', CallOk Tryz.prog 65 [pl n t r d b g, .int .i64 k] m (.vec (a + 2) 0 3 1) m' false (nms a 3) ∧ Low a m m' ∧
    ∀ j : Nat, j < 3 → m' (a + 2) j = some (.int .i64 (ndP t r d b + k * 5 + 2 + j)) := by
  have hnd := h.nd; have hct := h.ct; have hhz := h.hz
  let m1 := appMu m a 0 a [.int .i64 (ndP t r d b + k * 5 + 2 + 0)]
  let m2 := appMu m1 a (1 * 1) (a + 1) [.int .i64 (ndP t r d b + k * 5 + 2 + 1)]
  let m3 := appMu m2 (a + 1) (2 * 1) (a + 2) [.int .i64 (ndP t r d b + k * 5 + 2 + 2)]
  have c1 : ∀ o : Nat, m1 a o = if o = 0 then some (.int .i64 (ndP t r d b + k * 5 + 2 + 0)) else none := fun o => by
    show appMu _ _ _ _ _ _ _ = _
    rw [appMu_at, if_neg (by omega)]
    cases o <;> simp
  have c2 : ∀ o : Nat, m2 (a + 1) o = if o < 1 then m1 a o else [DV.int .i64 (ndP t r d b + k * 5 + 2 + 1)][o - 1]? := fun o => by
    show appMu _ _ _ _ _ _ _ = _
    rw [appMu_at]
  have c3 : ∀ o : Nat, m3 (a + 2) o = if o < 2 then m2 (a + 1) o else [DV.int .i64 (ndP t r d b + k * 5 + 2 + 2)][o - 2]? := fun o => by
    show appMu _ _ _ _ _ _ _ = _
    rw [appMu_at]
  have s1 : CodeOk Tryz.prog (codeAt [true, true, true, false, true, false, false] (Tryz.f65.body.getD .skip)) (L65_1 n t r d b g k .nils 0 m false (nms a 3)) .normal (L65_1 n t r d b g k (.vec a 0 1 1) (IntKind.i64.wrap (0 + 1)) m1 false (offUse [a] (nms a 3))) :=
    L65_1_4 rfl (field104 h h0 h1 (by omega) (by omega) m) (by rw [show [a] = nms a 1 from rfl]; exact all_nms (Nat.le_refl _) (by omega))
  have s2 : CodeOk Tryz.prog (codeAt [true, true, true, false, true, false, false] (Tryz.f65.body.getD .skip)) (L65_1 n t r d b g k (.vec a 0 1 1) 1 m1 false (nms (a + 1) 2)) .normal (L65_1 n t r d b g k (.vec (a + 1) 0 (1 + 1) 1) (IntKind.i64.wrap (1 + 1)) m2 false (offUse [a + 1] (nms (a + 1) 2))) :=
    L65_1_2 rfl (field104 h h0 h1 (by omega) (by omega) m1) rfl (by simp [c1]) (by rw [show [a + 1] = nms (a + 1) 1 from rfl]; exact all_nms (Nat.le_refl _) (by omega))
  have s3 : CodeOk Tryz.prog (codeAt [true, true, true, false, true, false, false] (Tryz.f65.body.getD .skip)) (L65_1 n t r d b g k (.vec (a + 1) 0 2 1) 2 m2 false (nms (a + 2) 1)) .normal (L65_1 n t r d b g k (.vec (a + 2) 0 (2 + 1) 1) (IntKind.i64.wrap (2 + 1)) m3 false (offUse [a + 2] (nms (a + 2) 1))) :=
    L65_1_2 rfl (field104 h h0 h1 (by omega) (by omega) m2) rfl (by simp [c1, c2, List.range_succ]) (by rw [show [a + 2] = nms (a + 2) 1 from rfl]; exact all_nms (Nat.le_refl _) (by omega))
  have s4 : CodeOk Tryz.prog (codeAt [true, true, true, false, true, false, false] (Tryz.f65.body.getD .skip)) (L65_1 n t r d b g k (.vec (a + 2) 0 3 1) 3 m3 false (nms (a + 3) 0)) (.exit 0) (L65_1 n t r d b g k (.vec (a + 2) 0 3 1) 3 m3 false (nms (a + 3) 0)) :=
    L65_1_1 rfl
  rw [off_one] at s1
  rw [off_one] at s2
  rw [off_one] at s3
  have lp : CodeOk Tryz.prog (codeAt [true, true, true, false, true, false] (Tryz.f65.body.getD .skip)) (L65_1 n t r d b g k .nils 0 m false (nms a 3)) (.exit 0) (L65_1 n t r d b g k (.vec (a + 2) 0 3 1) 3 m3 false (nms (a + 3) 0)) := by
    rw [L65_1_loop]
    exact (LoopOk.step (P := Tryz.prog) @s1 (LoopOk.step (P := Tryz.prog) @s2 (LoopOk.step (P := Tryz.prog) @s3 (LoopOk.last (P := Tryz.prog) (by simp) @s4)))).code
  refine ⟨m3, f65_1 (state79 h h0 h1 m) (by rw [beq_eq_false_iff_ne]; omega) lp, fun c hc o => ?_, fun j hj => ?_⟩
  · show appMu (appMu (appMu m a 0 a _) a (1 * 1) (a + 1) _) (a + 1) (2 * 1) (a + 2) _ c o = _
    rw [appMu_low (by omega) (by omega), appMu_low (by omega) (by omega), appMu_low (by omega) (by omega)]
  · rw [c3]
    have hj' : j = 0 ∨ j = 1 ∨ j = 2 := by omega
    rcases hj' with rfl | rfl | rfl <;> simp [c2, c1]
end
end Go.Proofs.YtkhjkfbgcpjphaaGreat.Fun
