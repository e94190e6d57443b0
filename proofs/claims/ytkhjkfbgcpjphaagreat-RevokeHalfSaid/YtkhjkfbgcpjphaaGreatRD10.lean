/- revoke.places: hazards and counts, and the whole. -/
import Derived.Test.YtkhjkfbgcpjphaaGreatRD9
namespace Go.Proofs.YtkhjkfbgcpjphaaGreat.Fun
open Go
set_option linter.unusedVariables false
section
variable {n t r d b g : Int} (h : PF n t r d b g)
include h
/-- The hazards of a thread. -/
theorem haz47 {k : Nat} (hk : (k : Int) < t) (a0 : Nat) : ∀ (j q : Nat), q + j = 3 → ∀ (m : Mu) (row a : Nat) (l : List Nat) (s : Nat), RowIs m row l → 0 < l.length → l.length + j < 1000000 → a0 ≤ row → a0 ≤ a →
    ∃ m' row', LoopOk Tryz.prog (codeAt [true, true, true, false, true, false, false, true, true, false, false, true, true, false, false] (Tryz.f32.body.getD .skip)) (L32_2i_1 n t r d b g (k : Int) row l.length (q : Int) m false (nms a (j + s))) (.exit 6)
      (L32_2i_1 n t r d b g (k : Int) row' (l.length + j) 3 m' false (nms (a + j) s)) ∧ RowIs m' row' (l ++ (List.range' q j).map fun (i : Nat) => (hzP d b + (k : Int) * 3 + i).toNat) ∧ Low a0 m m' ∧ a0 ≤ row'
  | 0, q, hq, m, row, a, l, s, hr, hl0, hl1, h1, h2 => by
    refine ⟨m, row, .last (by simp) ?_, by simpa using hr, fun _ _ _ => rfl, h1⟩
    have e : (q : Int) = 3 := by omega
    rw [e, Nat.zero_add]; simp only [Nat.add_zero]
    have this : CodeOk Tryz.prog (codeAt [true, true, true, false, true, false, false, true, true, false, false, true, true, false, false] (Tryz.f32.body.getD .skip)) (L32_2i_1 n t r d b g (k : Int) row l.length 3 m false (nms a s)) (.exit 6) (L32_2i_1 n t r d b g (k : Int) row l.length 3 m false (nms a s)) := L32_2i_1_1 (decide_eq_false (by omega))
    exact @this
  | j + 1, q, hq, m, row, a, l, s, hr, hl0, hl1, h1, h2 => by
    have hz := h.hz; have ht := h.ht
    have hcell := hazard73 h (k := (k : Int)) (j := (q : Int)) (by omega) hk (by omega) (by omega) m
    have hr' := hr.append (g := a) (hzP d b + (k : Int) * 3 + q) (by omega)
    obtain ⟨m', row', lp, ri, lo, hrow⟩ := haz47 hk a0 j (q + 1) (by omega) _ a (a + 1) _ s hr' (by simp) (by simp; omega) h2 (by omega)
    refine ⟨m', row', ?_, ?_, Low.trans (low_app h1 h2) lo, hrow⟩
    · rw [List.length_append, List.length_singleton, show l.length + 1 + j = l.length + (j + 1) by omega, show a + 1 + j = a + (j + 1) by omega] at lp
      have hw : IntKind.i64.wrap ((q : Int) + 1) = ((q + 1 : Nat) : Int) := by rw [wrap64 (by omega) (by omega)]; omega
      have this : CodeOk Tryz.prog (codeAt [true, true, true, false, true, false, false, true, true, false, false, true, true, false, false] (Tryz.f32.body.getD .skip)) (L32_2i_1 n t r d b g (k : Int) row l.length (q : Int) m false (nms a (j + s + 1))) .normal (L32_2i_1 n t r d b g (k : Int) a (l.length + 1) (IntKind.i64.wrap ((q : Int) + 1)) (appMu m row (l.length * 1) a [.int .i64 (hzP d b + (k : Int) * 3 + q)]) false (offUse [a] (nms a (j + s + 1)))) :=
        L32_2i_1_2 (decide_eq_true (by omega)) hcell (decide_eq_true ⟨hl0, by omega, rfl⟩) hr.some (by rw [show [a] = nms a 1 from rfl]; exact all_nms (Nat.le_refl _) (by omega))
      rw [hw, off_one] at this
      rw [show j + 1 + s = j + s + 1 by omega]
      exact .step (P := Tryz.prog) @this lp
    · rw [List.append_assoc] at ri
      simpa [List.range'_succ] using ri
def hazPl (d b : Int) (q j : Nat) : List Nat := (List.range' q j).flatMap fun (k : Nat) => (List.range' 0 3).map fun (i : Nat) => (hzP d b + (k : Int) * 3 + i).toNat
theorem thr47 (a0 : Nat) : ∀ (j q : Nat), ((q + j : Nat) : Int) = t → ∀ (m : Mu) (row a : Nat) (l : List Nat) (s : Nat), RowIs m row l → 0 < l.length → l.length + j * 3 < 1000 → a0 ≤ row → a0 ≤ a →
    ∃ m' row', LoopOk Tryz.prog (codeAt [true, true, true, false, true, false, false] (Tryz.f32.body.getD .skip)) (L32_2 n t r d b g row l.length (q : Int) m false (nms a (j * 3 + s))) (.exit 4)
      (L32_2 n t r d b g row' (l.length + j * 3) t m' false (nms (a + j * 3) s)) ∧ RowIs m' row' (l ++ hazPl d b q j) ∧ Low a0 m m' ∧ a0 ≤ row'
  | 0, q, hq, m, row, a, l, s, hr, hl0, hl1, h1, h2 => by
    refine ⟨m, row, .last (by simp) ?_, by simpa [hazPl] using hr, fun _ _ _ => rfl, h1⟩
    have e : (q : Int) = t := by omega
    rw [e]
    simp only [Nat.zero_mul, Nat.zero_add, Nat.add_zero]
    have this : CodeOk Tryz.prog (codeAt [true, true, true, false, true, false, false] (Tryz.f32.body.getD .skip)) (L32_2 n t r d b g row l.length t m false (nms a s)) (.exit 4) (L32_2 n t r d b g row l.length t m false (nms a s)) := L32_2_1 (decide_eq_false (by omega))
    exact @this
  | j + 1, q, hq, m, row, a, l, s, hr, hl0, hl1, h1, h2 => by
    have ht := h.ht
    obtain ⟨m1, row1, lp1, ri1, lo1, hrow1⟩ := haz47 h (k := q) (by omega) a0 3 0 rfl m row a l (j * 3 + s) hr hl0 (by omega) h1 h2
    obtain ⟨m2, row2, lp2, ri2, lo2, hrow2⟩ := thr47 a0 j (q + 1) (by omega) m1 row1 (a + 3) _ s ri1 (by simp) (by simp; omega) hrow1 (by omega)
    refine ⟨m2, row2, ?_, ?_, lo1.trans lo2, hrow2⟩
    · simp only [List.length_append, List.length_map, List.length_range'] at lp2
      have lc : CodeOk Tryz.prog (codeAt [true, true, true, false, true, false, false, true, true, false, false, true, true, false] (Tryz.f32.body.getD .skip)) (L32_2i_1 n t r d b g (q : Int) row l.length 0 m false (nms a (3 + (j * 3 + s)))) (.exit 6) (L32_2i_1 n t r d b g (q : Int) row1 (l.length + 3) 3 m1 false (nms (a + 3) (j * 3 + s))) := by
        rw [L32_2i_1_loop]
        exact lp1.code
      have st : CodeOk Tryz.prog (codeAt [true, true, true, false, true, false, false] (Tryz.f32.body.getD .skip)) (L32_2 n t r d b g row l.length (q : Int) m false (nms a (3 + (j * 3 + s)))) .normal (L32_2 n t r d b g row1 (l.length + 3) (IntKind.i64.wrap ((q : Int) + 1)) m1 false (nms (a + 3) (j * 3 + s))) :=
        L32_2_2 (decide_eq_true (by omega)) lc
      rw [show IntKind.i64.wrap ((q : Int) + 1) = ((q + 1 : Nat) : Int) by rw [wrap64 (by omega) (by omega)]; omega] at st
      rw [show (j + 1) * 3 + s = 3 + (j * 3 + s) by omega]
      rw [show l.length + 3 + j * 3 = l.length + (j + 1) * 3 by omega, show a + 3 + j * 3 = a + (j + 1) * 3 by omega] at lp2
      exact .step (P := Tryz.prog) @st lp2
    · have : hazPl d b q (j + 1) = ((List.range' 0 3).map fun (i : Nat) => (hzP d b + (q : Int) * 3 + i).toNat) ++ hazPl d b (q + 1) j := by
        unfold hazPl
        rw [show List.range' q (j + 1) = q :: List.range' (q + 1) j from rfl, List.flatMap_cons]
      rw [this]
      rw [← List.append_assoc]; exact ri2
end
end Go.Proofs.YtkhjkfbgcpjphaaGreat.Fun
