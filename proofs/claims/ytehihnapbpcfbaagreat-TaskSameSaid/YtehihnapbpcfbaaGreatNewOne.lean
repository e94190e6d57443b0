/- mem.New of one size. -/
import Derived.Test.YtehihnapbpcfbaaGreatRunL
namespace Go.Proofs.YtehihnapbpcfbaaGreat.Fun
open Go
set_option linter.unusedVariables false
def Low (a : Nat) (m m' : Mu) : Prop := ∀ c, c < a → ∀ o, m' c o = m c o
theorem Low.trans {a : Nat} {m m1 m2 : Mu} (h : Low a m m1) (h' : Low a m1 m2) : Low a m m2 := fun c hc o => (h' c hc o).trans (h c hc o)
theorem appMu_low {m : Mu} {b k n : Nat} {cs : List DV} {c : Nat} (h1 : c ≠ n) (h2 : c ≠ b) (o : Nat) : appMu m b k n cs c o = m c o := by unfold appMu; rw [if_neg h1, if_neg h2]
theorem appMu_at {m : Mu} {b k n : Nat} {cs : List DV} (o : Nat) : appMu m b k n cs n o = if o < k then m b o else cs[o - k]? := by unfold appMu; rw [if_pos rfl]
theorem off_one (a k : Nat) : offUse [a] (nms a (k + 1)) = nms (a + 1) k := by
  rw [Nat.add_comm k 1]; exact off_nms a 1 k
/-- mem.New of one size. -/
theorem newOne {sz : Int} (h0 : 0 ≤ sz) (h1 : sz ≤ 16777216) (m : Mu) (a : Nat) : ∃ m', CallOk Tryz.prog n_mem_New [.slice [.int .i64 sz] 1] m (.tup [.adr a 0, .int .i64 0]) m' false (nms a 4) ∧ HasReg m' a (a + 3) 1 0 0 ⟨a + 2, a + 1, sz.toNat, 1, fun _ => 0⟩ ∧ Low a m m' := by
  let ym := updMu m a 0 [.nils, .int .i64 0]
  let q1 := updMu (updMu (appMu ym (a + 3) 0 (a + 3) [.adr (a + 2) 0]) (a + 2) 0 [.vec (a + 1) 0 sz.toNat 1, .int .u64 1]) (a + 1) 0 (freshRow [.int .u64 0] sz.toNat)
  have ya : ∀ o, ym a o = if o = 0 then some .nils else if o = 1 then some (.int .i64 0) else m a o := fun o => by
    show updMu _ _ _ _ _ _ = _
    rw [updMu_get]
    by_cases h : o = 0
    · subst h; simp
    · by_cases h' : o = 1
      · subst h'; simp
      · rw [if_neg (by simp; omega), if_neg h, if_neg h']
  have qa : ∀ o, q1 a o = ym a o := fun o => by
    show updMu _ _ _ _ _ _ = _
    rw [updMu_get, if_neg (by omega), updMu_get, if_neg (by omega), appMu_low (by omega) (by omega)]
  have l1 : CodeOk Tryz.prog (codeAt [true, true, true, false, true, false, false] (Tryz.f49.body.getD .skip)) (L_mem_New_1 [.int .i64 sz] 1 0 16777216 0 m false (nms a 4)) .normal (L_mem_New_1 [.int .i64 sz] 1 0 (IntKind.i64.wrap (16777216 - sz)) (IntKind.i64.wrap (0 + 1)) m false (nms a 4)) :=
    L_mem_New_1_2 rfl rfl rfl (decide_eq_false (by omega)) (decide_eq_false (by omega))
  have l2 : CodeOk Tryz.prog (codeAt [true, true, true, false, true, false, false] (Tryz.f49.body.getD .skip)) (L_mem_New_1 [.int .i64 sz] 1 0 (IntKind.i64.wrap (16777216 - sz)) 1 m false (nms a 4)) (.exit 0) (L_mem_New_1 [.int .i64 sz] 1 0 (IntKind.i64.wrap (16777216 - sz)) 1 m false (nms a 4)) :=
    L_mem_New_1_1 rfl
  have lp : CodeOk Tryz.prog (codeAt [true, true, true, false, true, false] (Tryz.f49.body.getD .skip)) (L_mem_New_1 [.int .i64 sz] 1 0 16777216 0 m false (nms a 4)) (.exit 0) (L_mem_New_1 [.int .i64 sz] 1 0 (IntKind.i64.wrap (16777216 - sz)) 1 m false (nms a 4)) := by
    rw [L_mem_New_1_loop]
    exact (LoopOk.step (P := Tryz.prog) @l1 (LoopOk.last (P := Tryz.prog) (by simp) @l2)).code
  have e1 : offUse [a] (nms a 4) = nms (a + 1) 3 := off_one a 3
  have e2 : offUse [a + 1] (nms (a + 1) 3) = nms (a + 2) 2 := off_one (a + 1) 2
  have e3 : offUse [a + 2] (nms (a + 2) 2) = nms (a + 3) 1 := off_one (a + 2) 1
  have e4 : offUse [a + 3] (nms (a + 3) 1) = nms (a + 4) 0 := off_one (a + 3) 0
  have k1 : CodeOk Tryz.prog (codeAt [true, true, true, true, true, false, true, false, false] (Tryz.f49.body.getD .skip)) (L_mem_New_2 [.int .i64 sz] 1 0 a 0 ym false (nms (a + 1) 3)) .normal (L_mem_New_2 [.int .i64 sz] 1 0 a (IntKind.i64.wrap (0 + 1)) (updMu q1 a 0 [.vec (a + 3) 0 1 1]) false (offUse [a + 3] (offUse [a + 2] (offUse [a + 1] (nms (a + 1) 3))))) :=
    L_mem_New_2_3 rfl rfl rfl (by rw [ya]; rfl) (decide_eq_true ⟨h0, rfl, by omega⟩) (by rw [show [a + 1] = nms (a + 1) 1 from rfl]; exact all_nms (Nat.le_refl _) (by omega))
      (by rw [e2, show [a + 2] = nms (a + 2) 1 from rfl]; exact all_nms (Nat.le_refl _) (by omega)) (by rw [e2, e3, show [a + 3] = nms (a + 3) 1 from rfl]; exact all_nms (Nat.le_refl _) (by omega)) (by
        show (q1 a 0).isSome = true
        rw [qa, ya]; rfl)
  have k2 : CodeOk Tryz.prog (codeAt [true, true, true, true, true, false, true, false, false] (Tryz.f49.body.getD .skip)) (L_mem_New_2 [.int .i64 sz] 1 0 a 1 (updMu q1 a 0 [.vec (a + 3) 0 1 1]) false (nms (a + 4) 0)) (.exit 2) (L_mem_New_2 [.int .i64 sz] 1 0 a 1 (updMu q1 a 0 [.vec (a + 3) 0 1 1]) false (nms (a + 4) 0)) :=
    L_mem_New_2_1 rfl
  rw [e2, e3, e4] at k1
  have kp : CodeOk Tryz.prog (codeAt [true, true, true, true, true, false, true, false] (Tryz.f49.body.getD .skip)) (L_mem_New_2 [.int .i64 sz] 1 0 a 0 ym false (nms (a + 1) 3)) (.exit 2) (L_mem_New_2 [.int .i64 sz] 1 0 a 1 (updMu q1 a 0 [.vec (a + 3) 0 1 1]) false (nms (a + 4) 0)) := by
    rw [L_mem_New_2_loop]
    exact (LoopOk.step (P := Tryz.prog) @k1 (LoopOk.last (P := Tryz.prog) (by simp) @k2)).code
  have c : CallOk Tryz.prog n_mem_New [.slice [.int .i64 sz] 1] m (.tup [.adr a 0, .int .i64 0]) (updMu q1 a 0 [.vec (a + 3) 0 1 1]) false (nms a 4) :=
    f_mem_New_1 rfl lp (by rw [show [a] = nms a 1 from rfl]; exact all_nms (Nat.le_refl _) (by omega)) (by rw [e1]; exact kp)
  refine ⟨_, c, ⟨?_, ?_, by omega, ?_, ?_, ?_, fun o ho => ?_, by simp only; omega, by simp only; omega, by simp only; omega, by omega, by simp only; omega⟩, fun c hc o => ?_⟩
  · rw [updMu_get, if_pos (by simp)]; rfl
  · rw [updMu_get, if_neg (by simp), qa, ya]; rfl
  · rw [updMu_get, if_neg (by omega)]
    show updMu _ _ _ _ _ _ = _
    rw [updMu_get, if_neg (by omega), updMu_get, if_neg (by omega), appMu_at]; rfl
  · simp only
    rw [updMu_get, if_neg (by omega)]
    show updMu _ _ _ _ _ _ = _
    rw [updMu_get, if_neg (by omega), updMu_get, if_pos (by simp)]; rfl
  · simp only
    rw [updMu_get, if_neg (by omega)]
    show updMu _ _ _ _ _ _ = _
    rw [updMu_get, if_neg (by omega), updMu_get, if_pos (by simp)]; rfl
  · simp only at ho ⊢
    rw [updMu_get, if_neg (by omega)]
    show updMu _ _ _ _ _ _ = _
    have hl : (freshRow [DV.int .u64 0] sz.toNat).length = sz.toNat := by
      have : ∀ k, (freshRow [DV.int .u64 0] k).length = k := fun k => by
        induction k with
        | zero => rfl
        | succ k ih => simp [freshRow, ih]
      exact this _
    rw [updMu_get, if_pos ⟨rfl, Nat.zero_le _, by omega⟩, Nat.sub_zero, freshRow_get, if_pos (by simpa using ho)]
    simp [Nat.mod_one]
  · rw [updMu_get, if_neg (by omega)]
    show updMu _ _ _ _ _ _ = _
    rw [updMu_get, if_neg (by omega), updMu_get, if_neg (by omega), appMu_low (by omega) (by omega)]
    show updMu _ _ _ _ _ _ = _
    rw [updMu_get, if_neg (by omega)]
theorem Low.refl (a : Nat) (m : Mu) : Low a m m := fun _ _ _ => rfl
end Go.Proofs.YtehihnapbpcfbaaGreat.Fun
