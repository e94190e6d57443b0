/- revoke.places, whole. -/
import Derived.Test.YtkhjkfbgcpjphaaGreatRD10
namespace Go.Proofs.YtkhjkfbgcpjphaaGreat.Fun
open Go
set_option linter.unusedVariables false
theorem domPl_len (b : Int) : ∀ (j q : Nat), (domPl b q j).length = j * (1 + (cl b).toNat)
  | 0, q => by simp [domPl]
  | j + 1, q => by
    have ih := domPl_len b j (q + 1)
    unfold domPl at ih ⊢
    rw [show List.range' q (j + 1) = q :: List.range' (q + 1) j from rfl, List.flatMap_cons, List.length_append, ih]
    simp only [List.length_cons, List.length_map, List.length_range']
    rw [Nat.succ_mul]; omega
theorem hazPl_len (d b : Int) : ∀ (j q : Nat), (hazPl d b q j).length = j * 3
  | 0, q => by simp [hazPl]
  | j + 1, q => by
    have ih := hazPl_len d b j (q + 1)
    unfold hazPl at ih ⊢
    rw [show List.range' q (j + 1) = q :: List.range' (q + 1) j from rfl, List.flatMap_cons, List.length_append, ih]
    simp only [List.length_map, List.length_range']
    omega
section
variable {n t r d b g : Int} (h : PF n t r d b g)
include h
def cntPl (t r d b : Int) (q j : Nat) : List Nat := (List.range' q j).map fun (k : Nat) => (ctP t d b + (k : Int) * (1 + r)).toNat
theorem cnt47 (a0 : Nat) : ∀ (j q : Nat), ((q + j : Nat) : Int) = t → ∀ (m : Mu) (row a : Nat) (l : List Nat) (s : Nat), RowIs m row l → 0 < l.length → l.length + j < 1000 → a0 ≤ row → a0 ≤ a →
    ∃ m' row', LoopOk Tryz.prog (codeAt [true, true, true, true, false, true, false, false] (Tryz.f32.body.getD .skip)) (L32_3 n t r d b g row l.length (q : Int) m false (nms a (j + s))) (.exit 8)
      (L32_3 n t r d b g row' (l.length + j) t m' false (nms (a + j) s)) ∧ RowIs m' row' (l ++ cntPl t r d b q j) ∧ Low a0 m m' ∧ a0 ≤ row'
  | 0, q, hq, m, row, a, l, s, hr, hl0, hl1, h1, h2 => by
    refine ⟨m, row, .last (by simp) ?_, by simpa [cntPl] using hr, fun _ _ _ => rfl, h1⟩
    have e : (q : Int) = t := by omega
    rw [e, Nat.zero_add]; simp only [Nat.add_zero]
    have this : CodeOk Tryz.prog (codeAt [true, true, true, true, false, true, false, false] (Tryz.f32.body.getD .skip)) (L32_3 n t r d b g row l.length t m false (nms a s)) (.exit 8) (L32_3 n t r d b g row l.length t m false (nms a s)) := L32_3_1 (decide_eq_false (by omega))
    exact @this
  | j + 1, q, hq, m, row, a, l, s, hr, hl0, hl1, h1, h2 => by
    have hz := h.hz; have ht := h.ht; have hct := h.ct
    have hm := h.mul2 (k := (q : Int)) (by omega) (by omega)
    have hcell := count74 h (k := (q : Int)) (by omega) (by omega) m
    have hr' := hr.append (g := a) (ctP t d b + (q : Int) * (1 + r)) (by omega)
    obtain ⟨m', row', lp, ri, lo, hrow⟩ := cnt47 a0 j (q + 1) (by omega) _ a (a + 1) _ s hr' (by simp) (by simp; omega) h2 (by omega)
    refine ⟨m', row', ?_, ?_, Low.trans (low_app h1 h2) lo, hrow⟩
    · rw [List.length_append, List.length_singleton, show l.length + 1 + j = l.length + (j + 1) by omega, show a + 1 + j = a + (j + 1) by omega] at lp
      have hw : IntKind.i64.wrap ((q : Int) + 1) = ((q + 1 : Nat) : Int) := by rw [wrap64 (by omega) (by omega)]; omega
      have this : CodeOk Tryz.prog (codeAt [true, true, true, true, false, true, false, false] (Tryz.f32.body.getD .skip)) (L32_3 n t r d b g row l.length (q : Int) m false (nms a (j + s + 1))) .normal (L32_3 n t r d b g a (l.length + 1) (IntKind.i64.wrap ((q : Int) + 1)) (appMu m row (l.length * 1) a [.int .i64 (ctP t d b + (q : Int) * (1 + r))]) false (offUse [a] (nms a (j + s + 1)))) :=
        L32_3_2 (decide_eq_true (by omega)) hcell (decide_eq_true ⟨hl0, by omega, rfl⟩) hr.some (by rw [show [a] = nms a 1 from rfl]; exact all_nms (Nat.le_refl _) (by omega))
      rw [hw, off_one] at this
      rw [show j + 1 + s = j + s + 1 by omega]
      exact .step (P := Tryz.prog) @this lp
    · rw [List.append_assoc] at ri
      have : cntPl t r d b q (j + 1) = [(ctP t d b + (q : Int) * (1 + r)).toNat] ++ cntPl t r d b (q + 1) j := by
        unfold cntPl
        rw [show List.range' q (j + 1) = q :: List.range' (q + 1) j from rfl, List.map_cons]; rfl
      rw [this]; exact ri
/-- The places that are 0 first. -/
def plcs (t r d b : Int) : List Nat := [0] ++ domPl b 0 d.toNat ++ hazPl d b 0 t.toNat ++ cntPl t r d b 0 t.toNat
def nPl (t d b : Int) : Nat := 1 + d.toNat * (1 + (cl b).toNat) + t.toNat * 3 + t.toNat
theorem places47 (m : Mu) (a : Nat) : ∃ m' row, CallOk Tryz.prog 32 [pl n t r d b g] m (.vec row 0 (nPl t d b) 1) m' false (nms a (nPl t d b)) ∧ RowIs m' row (plcs t r d b) ∧ Low a m m' ∧ a ≤ row := by
  have hn := h.hn; have ht := h.ht; have hd := h.hd; have hc := h.cl
  obtain ⟨D, hD⟩ : ∃ D : Nat, d.toNat = D := ⟨_, rfl⟩
  obtain ⟨T, hT⟩ : ∃ T : Nat, t.toNat = T := ⟨_, rfl⟩
  obtain ⟨C, hC⟩ : ∃ C : Nat, (cl b).toNat = C := ⟨_, rfl⟩
  have b1 : D * (1 + C) ≤ 66 := by
    have := Nat.mul_le_mul (show D ≤ 6 by omega) (show 1 + C ≤ 11 by omega)
    omega
  have e1 : nPl t d b = 1 + D * (1 + C) + T * 3 + T := by unfold nPl; rw [hD, hT, hC]
  have r0 : RowIs (updMu m a 0 [.int .i64 0]) a [0] := ⟨fun j p hp => by
    rw [updMu_get]
    cases j with
    | zero => simp at hp; subst hp; simp
    | succ j => simp at hp⟩
  have low0 : Low a m (updMu m a 0 [.int .i64 0]) := fun c hc o => by rw [updMu_get, if_neg (by omega)]
  obtain ⟨m1, row1, lp1, ri1, lo1, hr1⟩ := dom47 h a D 0 (by omega) _ a (a + 1) [0] (T * 3 + (T + 0)) r0 (by simp) (by rw [hC]; simp; omega) (Nat.le_refl _) (by omega)
  rw [hC] at lp1
  have n1 : ([0] ++ domPl b 0 D).length = 1 + D * (1 + C) := by rw [List.length_append, domPl_len, hC]; rfl
  have n2 : ([0] ++ domPl b 0 D ++ hazPl d b 0 T).length = 1 + D * (1 + C) + T * 3 := by rw [List.length_append, n1, hazPl_len]
  obtain ⟨m2, row2, lp2, ri2, lo2, hr2⟩ := thr47 h a T 0 (by omega) m1 row1 (a + 1 + D * (1 + C)) _ (T + 0) ri1 (by simp) (by rw [n1]; omega) hr1 (by omega)
  obtain ⟨m3, row3, lp3, ri3, lo3, hr3⟩ := cnt47 h a T 0 (by omega) m2 row2 (a + 1 + D * (1 + C) + T * 3) _ 0 ri2 (by simp) (by rw [n2]; omega) hr2 (by omega)
  rw [n1] at lp2
  rw [n2] at lp3
  refine ⟨m3, row3, ?_, by unfold plcs; rw [hD, hT]; exact ri3, low0.trans (lo1.trans (lo2.trans lo3)), hr3⟩
  rw [e1]
  have q1 : CodeOk Tryz.prog (codeAt [true, true, false, true, false] (Tryz.f32.body.getD .skip)) (L32_1 n t r d b g a 1 0 (updMu m a 0 [.int .i64 0]) false (offUse [a] (nms a ((D * (1 + C) + (T * 3 + (T + 0))) + 1)))) (.exit 0) (L32_1 n t r d b g row1 (1 + D * (1 + C)) d m1 false (nms (a + 1 + D * (1 + C)) (T * 3 + (T + 0)))) := by
    rw [L32_1_loop, off_one]; exact lp1.code
  have q2 : CodeOk Tryz.prog (codeAt [true, true, true, false, true, false] (Tryz.f32.body.getD .skip)) (L32_2 n t r d b g row1 (1 + D * (1 + C)) 0 m1 false (nms (a + 1 + D * (1 + C)) (T * 3 + (T + 0)))) (.exit 4) (L32_2 n t r d b g row2 (1 + D * (1 + C) + T * 3) t m2 false (nms (a + 1 + D * (1 + C) + T * 3) (T + 0))) := by
    rw [L32_2_loop]; exact lp2.code
  have q3 : CodeOk Tryz.prog (codeAt [true, true, true, true, false, true, false] (Tryz.f32.body.getD .skip)) (L32_3 n t r d b g row2 (1 + D * (1 + C) + T * 3) 0 m2 false (nms (a + 1 + D * (1 + C) + T * 3) (T + 0))) (.exit 8) (L32_3 n t r d b g row3 (1 + D * (1 + C) + T * 3 + T) t m3 false (nms (a + 1 + D * (1 + C) + T * 3 + T) 0)) := by
    rw [L32_3_loop]; exact lp3.code
  have e2 : 1 + D * (1 + C) + T * 3 + T = (D * (1 + C) + (T * 3 + (T + 0))) + 1 := by omega
  have hf := f32_1 (F := nms a ((D * (1 + C) + (T * 3 + (T + 0))) + 1)) (head60 h m) (by rw [show [a] = nms a 1 from rfl]; exact all_nms (Nat.le_refl _) (by omega)) q1 q2 q3
  rw [← e2] at hf
  exact hf
end
end Go.Proofs.YtkhjkfbgcpjphaaGreat.Fun
