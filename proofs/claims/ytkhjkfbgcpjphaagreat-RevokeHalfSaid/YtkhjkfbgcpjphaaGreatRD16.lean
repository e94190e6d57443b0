/- A memory of one region, with a fresh list; which plans are looked at. -/
import Derived.Test.YtkhjkfbgcpjphaaGreatRD15
namespace Go.Proofs.YtkhjkfbgcpjphaaGreat.Fun
open Go
set_option linter.unusedVariables false
/-- mem.New of one size. -/
theorem new39 {sz : Int} (h0 : 0 ≤ sz) (h1 : sz ≤ 16777216) (m : Mu) (a : Nat) : ∃ m', CallOk Tryz.prog 17 [.slice [.int .i64 sz] 1] m (.tup [.adr a 0, .int .i64 0]) m' false (nms a 4) ∧ HasReg m' a (a + 3) 1 0 ⟨a + 2, a + 1, sz.toNat, 1, fun _ => 0⟩ ∧ Low a m m' := by
  let ym := updMu m a 0 [.nils, .int .i64 0]
  let q1 := updMu (updMu (appMu ym (a + 3) 0 (a + 3) [.adr (a + 2) 0]) (a + 2) 0 [.vec (a + 1) 0 sz.toNat 1, .int .u64 1]) (a + 1) 0 (freshRow [.int .u64 0] sz.toNat)
  have ya : ∀ o, ym a o = if o = 0 then some .nils else if o = 1 then some (.int .i64 0) else m a o := fun o => by
    show updMu _ _ _ _ _ _ = _
    rw [updMu_get]
    by_cases h : o = 0
    · subst h; simp
    · by_cases h' : o = 1
      · subst h'; simp
      · rw [if_neg (by simp; omega), if_neg h, if_neg h']
  have qa : ∀ o, q1 a o = ym a o := fun o => by
    show updMu _ _ _ _ _ _ = _
    rw [updMu_get, if_neg (by omega), updMu_get, if_neg (by omega), appMu_low (by omega) (by omega)]
  have l1 : CodeOk Tryz.prog (codeAt [true, true, true, false, true, false, false] (Tryz.f17.body.getD .skip)) (L17_1 [.int .i64 sz] 1 0 16777216 0 m false (nms a 4)) .normal (L17_1 [.int .i64 sz] 1 0 (IntKind.i64.wrap (16777216 - sz)) (IntKind.i64.wrap (0 + 1)) m false (nms a 4)) :=
    L17_1_2 rfl rfl rfl (decide_eq_false (by omega)) (decide_eq_false (by omega))
  have l2 : CodeOk Tryz.prog (codeAt [true, true, true, false, true, false, false] (Tryz.f17.body.getD .skip)) (L17_1 [.int .i64 sz] 1 0 (IntKind.i64.wrap (16777216 - sz)) 1 m false (nms a 4)) (.exit 0) (L17_1 [.int .i64 sz] 1 0 (IntKind.i64.wrap (16777216 - sz)) 1 m false (nms a 4)) :=
    L17_1_1 rfl
  have lp : CodeOk Tryz.prog (codeAt [true, true, true, false, true, false] (Tryz.f17.body.getD .skip)) (L17_1 [.int .i64 sz] 1 0 16777216 0 m false (nms a 4)) (.exit 0) (L17_1 [.int .i64 sz] 1 0 (IntKind.i64.wrap (16777216 - sz)) 1 m false (nms a 4)) := by
    rw [L17_1_loop]
    exact (LoopOk.step (P := Tryz.prog) @l1 (LoopOk.last (P := Tryz.prog) (by simp) @l2)).code
  have e1 : offUse [a] (nms a 4) = nms (a + 1) 3 := off_one a 3
  have e2 : offUse [a + 1] (nms (a + 1) 3) = nms (a + 2) 2 := off_one (a + 1) 2
  have e3 : offUse [a + 2] (nms (a + 2) 2) = nms (a + 3) 1 := off_one (a + 2) 1
  have e4 : offUse [a + 3] (nms (a + 3) 1) = nms (a + 4) 0 := off_one (a + 3) 0
  have k1 : CodeOk Tryz.prog (codeAt [true, true, true, true, true, false, true, false, false] (Tryz.f17.body.getD .skip)) (L17_2 [.int .i64 sz] 1 0 a 0 ym false (nms (a + 1) 3)) .normal (L17_2 [.int .i64 sz] 1 0 a (IntKind.i64.wrap (0 + 1)) (updMu q1 a 0 [.vec (a + 3) 0 1 1]) false (offUse [a + 3] (offUse [a + 2] (offUse [a + 1] (nms (a + 1) 3))))) :=
    L17_2_3 rfl rfl rfl (by rw [ya]; rfl) (decide_eq_true ⟨h0, rfl, by omega⟩) (by rw [show [a + 1] = nms (a + 1) 1 from rfl]; exact all_nms (Nat.le_refl _) (by omega))
      (by rw [e2, show [a + 2] = nms (a + 2) 1 from rfl]; exact all_nms (Nat.le_refl _) (by omega)) (by rw [e2, e3, show [a + 3] = nms (a + 3) 1 from rfl]; exact all_nms (Nat.le_refl _) (by omega)) (by
        show (q1 a 0).isSome = true
        rw [qa, ya]; rfl)
  have k2 : CodeOk Tryz.prog (codeAt [true, true, true, true, true, false, true, false, false] (Tryz.f17.body.getD .skip)) (L17_2 [.int .i64 sz] 1 0 a 1 (updMu q1 a 0 [.vec (a + 3) 0 1 1]) false (nms (a + 4) 0)) (.exit 2) (L17_2 [.int .i64 sz] 1 0 a 1 (updMu q1 a 0 [.vec (a + 3) 0 1 1]) false (nms (a + 4) 0)) :=
    L17_2_1 rfl
  rw [e2, e3, e4] at k1
  have kp : CodeOk Tryz.prog (codeAt [true, true, true, true, true, false, true, false] (Tryz.f17.body.getD .skip)) (L17_2 [.int .i64 sz] 1 0 a 0 ym false (nms (a + 1) 3)) (.exit 2) (L17_2 [.int .i64 sz] 1 0 a 1 (updMu q1 a 0 [.vec (a + 3) 0 1 1]) false (nms (a + 4) 0)) := by
    rw [L17_2_loop]
    exact (LoopOk.step (P := Tryz.prog) @k1 (LoopOk.last (P := Tryz.prog) (by simp) @k2)).code
  have c : CallOk Tryz.prog 17 [.slice [.int .i64 sz] 1] m (.tup [.adr a 0, .int .i64 0]) (updMu q1 a 0 [.vec (a + 3) 0 1 1]) false (nms a 4) :=
    f17_1 rfl lp (by rw [show [a] = nms a 1 from rfl]; exact all_nms (Nat.le_refl _) (by omega)) (by rw [e1]; exact kp)
  refine ⟨_, c, ⟨?_, ⟨0, ?_⟩, by omega, ?_, ?_, ?_, fun o ho => ?_, by simp only; omega, by simp only; omega, by simp only; omega, by omega, by simp only; omega⟩, fun c hc o => ?_⟩
  · rw [updMu_get, if_pos (by simp)]; rfl
  · rw [updMu_get, if_neg (by simp), qa, ya]; rfl
  · rw [updMu_get, if_neg (by omega)]
    show updMu _ _ _ _ _ _ = _
    rw [updMu_get, if_neg (by omega), updMu_get, if_neg (by omega), appMu_at]; rfl
  · simp only
    rw [updMu_get, if_neg (by omega)]
    show updMu _ _ _ _ _ _ = _
    rw [updMu_get, if_neg (by omega), updMu_get, if_pos (by simp)]; rfl
  · simp only
    rw [updMu_get, if_neg (by omega)]
    show updMu _ _ _ _ _ _ = _
    rw [updMu_get, if_neg (by omega), updMu_get, if_pos (by simp)]; rfl
  · simp only at ho ⊢
    rw [updMu_get, if_neg (by omega)]
    show updMu _ _ _ _ _ _ = _
    have hl : (freshRow [DV.int .u64 0] sz.toNat).length = sz.toNat := by
      have : ∀ k, (freshRow [DV.int .u64 0] k).length = k := fun k => by
        induction k with
        | zero => rfl
        | succ k ih => simp [freshRow, ih]
      exact this _
    rw [updMu_get, if_pos ⟨rfl, Nat.zero_le _, by omega⟩, Nat.sub_zero, freshRow_get, if_pos (by simpa using ho)]
    simp [Nat.mod_one]
  · rw [updMu_get, if_neg (by omega)]
    show updMu _ _ _ _ _ _ = _
    rw [updMu_get, if_neg (by omega), updMu_get, if_neg (by omega), appMu_low (by omega) (by omega)]
    show updMu _ _ _ _ _ _ = _
    rw [updMu_get, if_neg (by omega)]
theorem Low.refl (a : Nat) (m : Mu) : Low a m m := fun _ _ _ => rfl
theorem CallOk.hid {f : FuncId} {ds : List DV} {m m' : Mu} {d : DV} {F : List Nat} (h : CallOk Tryz.prog f ds m d m' false F) : CallOk Tryz.prog f ds m d m' false F := h
section
variable {n t r d b g : Int} (h : PF n t r d b g)
include h
/-- cubiclelaw09.Laid. -/
theorem laid15 (m : Mu) (a : Nat) : ∃ m' w', CallOk Tryz.prog 6 [pl n t r d b g] m (.adr a 0) m' false (nms a 4) ∧ HasReg m' a (a + 3) 1 0 ⟨a + 2, a + 1, (szP n t r d b).toNat, 1, w'⟩ ∧ FreshW (ndP t r d b) (fun _ => 0) w' ∧ Low a m m' := by
  have hn := h.hn; have hnd := h.nd; have hct := h.ct; have hhz := h.hz
  have hs : 0 ≤ szP n t r d b ∧ szP n t r d b ≤ 16777216 := by unfold szP; omega
  obtain ⟨m1, h1, hR, low⟩ := new39 hs.1 hs.2 m a
  obtain ⟨p, m2, c41, runs, w', hR', hf, far⟩ := fresh41 h (R := ⟨a + 2, a + 1, (szP n t r d b).toNat, 1, fun _ => 0⟩) (Q := fun m' => ∃ w', HasReg m' a (a + 3) 1 0 ⟨a + 2, a + 1, (szP n t r d b).toNat, 1, w'⟩ ∧ FreshW (ndP t r d b) (fun _ => 0) w' ∧ Far a (a + 1) m1 m') hR (by simp only; omega) (fun m' w' q1 q2 q3 => ⟨w', q1, q3, q2⟩)
  have hw : IntKind.i64.wrap (n + 1) = n + 1 := wrap64 (by omega) (by omega)
  have run := runOkN (most := n + 1) (by omega) runs (by omega)
  rw [← hw] at run
  refine ⟨m2, w', ?_, hR', hf, fun c hc o => by rw [far c (by omega) (by omega), low c hc]⟩
  cases p with
  | over => exact f6_1_o (size38 h m) h1 (all_self _) rfl c41 (capOk hR) run rfl
  | step => exact f6_1_s (size38 h m) h1 (all_self _) rfl c41 (capOk hR) run rfl
end
/-- cubicleref06.Formed. -/
theorem formed43 (n t r d b g : Int) (m : Mu) : ∃ v, CallOk Tryz.prog 16 [pl n t r d b g] m (.bool v) m false [] ∧ (v = true → 1 ≤ n ∧ 1 ≤ t ∧ t ≤ 16 ∧ 0 ≤ d ∧ 1 ≤ b ∧ 1 ≤ g ∧ g ≤ 1073741823 ∧ 3 * t < r) := by
  by_cases c0 : n < 1
  · exact ⟨false, f16_12 (decide_eq_true c0), by simp⟩
  by_cases c1 : n > 1048576
  · exact ⟨false, f16_11 (decide_eq_false c0) (decide_eq_true c1), by simp⟩
  by_cases c2 : t < 1
  · exact ⟨false, f16_10 (decide_eq_false c0) (decide_eq_false c1) (decide_eq_true c2), by simp⟩
  by_cases c3 : t > 16
  · exact ⟨false, f16_9 (decide_eq_false c0) (decide_eq_false c1) (decide_eq_false c2) (decide_eq_true c3), by simp⟩
  by_cases c4 : d < 0
  · exact ⟨false, f16_8 (decide_eq_false c0) (decide_eq_false c1) (decide_eq_false c2) (decide_eq_false c3) (decide_eq_true c4), by simp⟩
  by_cases c5 : d > 64
  · exact ⟨false, f16_7 (decide_eq_false c0) (decide_eq_false c1) (decide_eq_false c2) (decide_eq_false c3) (decide_eq_false c4) (decide_eq_true c5), by simp⟩
  by_cases c6 : b ≥ 1
  rotate_left
  · exact ⟨false, f16_1 (decide_eq_false c0) (decide_eq_false c1) (decide_eq_false c2) (decide_eq_false c3) (decide_eq_false c4) (decide_eq_false c5) (decide_eq_false c6), by simp⟩
  by_cases c7 : b ≤ 256
  rotate_left
  · exact ⟨false, f16_2 (decide_eq_false c0) (decide_eq_false c1) (decide_eq_false c2) (decide_eq_false c3) (decide_eq_false c4) (decide_eq_false c5) (decide_eq_true c6) (decide_eq_false c7), by simp⟩
  by_cases c8 : g ≥ 1
  rotate_left
  · exact ⟨false, f16_3 (decide_eq_false c0) (decide_eq_false c1) (decide_eq_false c2) (decide_eq_false c3) (decide_eq_false c4) (decide_eq_false c5) (decide_eq_true c6) (decide_eq_true c7) (decide_eq_false c8), by simp⟩
  by_cases c9 : g ≤ 1073741823
  rotate_left
  · exact ⟨false, f16_4 (decide_eq_false c0) (decide_eq_false c1) (decide_eq_false c2) (decide_eq_false c3) (decide_eq_false c4) (decide_eq_false c5) (decide_eq_true c6) (decide_eq_true c7) (decide_eq_true c8) (decide_eq_false c9), by simp⟩
  have hw : IntKind.i64.wrap (3 * t) = 3 * t := wrap64 (by omega) (by omega)
  by_cases c10 : r > 3 * t
  rotate_left
  · exact ⟨false, f16_5 (decide_eq_false c0) (decide_eq_false c1) (decide_eq_false c2) (decide_eq_false c3) (decide_eq_false c4) (decide_eq_false c5) (decide_eq_true c6) (decide_eq_true c7) (decide_eq_true c8) (decide_eq_true c9) (by rw [hw]; exact decide_eq_false c10), by simp⟩
  exact ⟨_, f16_6 (decide_eq_false c0) (decide_eq_false c1) (decide_eq_false c2) (decide_eq_false c3) (decide_eq_false c4) (decide_eq_false c5) (decide_eq_true c6) (decide_eq_true c7) (decide_eq_true c8) (decide_eq_true c9) (by rw [hw]; exact decide_eq_true c10), fun _ => by omega⟩
/-- few. -/
theorem few14 (n t r d b g : Int) (m : Mu) : ∃ v, CallOk Tryz.prog 5 [pl n t r d b g] m (.bool v) m false [] ∧ (v = true → PF n t r d b g) := by
  obtain ⟨v, h43, hv⟩ := formed43 n t r d b g m
  cases v with
  | false => exact ⟨false, f5_2 (f15_5 h43 rfl) rfl h43, by simp⟩
  | true =>
    have hv := hv rfl
    by_cases c0 : n ≤ 40
    rotate_left
    · exact ⟨false, f5_1 (f15_1 h43 rfl (decide_eq_false c0)) rfl, by simp⟩
    by_cases c1 : r ≤ 40
    rotate_left
    · exact ⟨false, f5_1 (f15_2 h43 rfl (decide_eq_true c0) (decide_eq_false c1)) rfl, by simp⟩
    by_cases c2 : d ≤ 6
    rotate_left
    · exact ⟨false, f5_1 (f15_3 h43 rfl (decide_eq_true c0) (decide_eq_true c1) (decide_eq_false c2)) rfl, by simp⟩
    by_cases c3 : b ≤ 10
    rotate_left
    · exact ⟨false, f5_1 (f15_4 h43 rfl (decide_eq_true c0) (decide_eq_true c1) (decide_eq_true c2)) (decide_eq_false c3), by simp⟩
    exact ⟨true, f5_2 (f15_4 h43 rfl (decide_eq_true c0) (decide_eq_true c1) (decide_eq_true c2)) (decide_eq_true c3) h43, fun _ => by
      constructor <;> omega⟩
end Go.Proofs.YtkhjkfbgcpjphaaGreat.Fun
