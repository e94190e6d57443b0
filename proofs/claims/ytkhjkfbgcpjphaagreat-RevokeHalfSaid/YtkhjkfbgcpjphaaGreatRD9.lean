/- revoke.places: the places that are 0 first. -/
import Derived.Test.YtkhjkfbgcpjphaaGreatRD8
namespace Go.Proofs.YtkhjkfbgcpjphaaGreat.Fun
open Go
set_option linter.unusedVariables false
/-- A row of places. -/
structure RowIs (m : Mu) (b : Nat) (l : List Nat) : Prop where
  at_ : ∀ (j p : Nat), l[j]? = some p → m b j = some (.int .i64 (p : Int))
theorem RowIs.some {m : Mu} {b : Nat} {l : List Nat} (h : RowIs m b l) : ((List.range (l.length * 1)).all fun o => (m b o).isSome) = true :=
  List.all_eq_true.2 fun o ho => by
    have hlt : o < l.length := by simpa using ho
    rw [h.at_ o l[o] (List.getElem?_eq_getElem hlt)]; rfl
theorem RowIs.append {m : Mu} {b : Nat} {l : List Nat} (h : RowIs m b l) {g : Nat} (p : Int) (hp : 0 ≤ p) : RowIs (appMu m b (l.length * 1) g [.int .i64 p]) g (l ++ [p.toNat]) := by
  refine ⟨fun j q hq => ?_⟩
  rw [appMu_at]
  by_cases hj : j < l.length
  · rw [if_pos (by omega)]
    rw [List.getElem?_append_left hj] at hq
    exact h.at_ j q hq
  · rw [if_neg (by omega)]
    rw [List.getElem?_append_right (by omega)] at hq
    have hz : j - l.length = 0 := by
      rcases hd : j - l.length with _ | k
      · rfl
      · rw [hd] at hq; simp at hq
    rw [hz] at hq
    rw [Nat.mul_one, hz]
    simp only [List.getElem?_cons_zero, Option.some.injEq] at hq ⊢
    congr 1; omega
theorem low_app {m : Mu} {a b k g : Nat} {cs : List DV} (hb : a ≤ b) (hg : a ≤ g) : Low a m (appMu m b k g cs) := fun c hc o => appMu_low (by omega) (by omega) o
section
variable {n t r d b g : Int} (h : PF n t r d b g)
include h
/-- The cells of a domain. -/
theorem cells47 {k : Nat} (hk : (k : Int) < d) (x0 x1 x2 x3 x4 : Int) (y0 y1 y2 : Nat) (a0 : Nat) : ∀ (j q : Nat), ((q + j : Nat) : Int) = cl b → ∀ (m : Mu) (row a : Nat) (l : List Nat) (s : Nat), RowIs m row l → 0 < l.length → l.length + j < 1000000 → a0 ≤ row → a0 ≤ a →
    ∃ m' row', LoopOk Tryz.prog (codeAt [true, true, false, true, false, false, true, true, false, false, true, true, true, false, false] (Tryz.f32.body.getD .skip)) (L32_1i_1 n t r d b g y0 y1 (k : Int) x0 y2 (cl b) row l.length (q : Int) m false (nms a (j + s))) (.exit 2)
      (L32_1i_1 n t r d b g y0 y1 (k : Int) x0 y2 (cl b) row' (l.length + j) (cl b) m' false (nms (a + j) s)) ∧ RowIs m' row' (l ++ (List.range' q j).map fun (i : Nat) => (2 + (k : Int) * (1 + cl b) + i).toNat) ∧ Low a0 m m' ∧ a0 ≤ row'
  | 0, q, hq, m, row, a, l, s, hr, hl0, hl1, h1, h2 => by
    refine ⟨m, row, .last (by simp) ?_, by simpa using hr, fun _ _ _ => rfl, h1⟩
    have e : (q : Int) = cl b := by omega
    rw [e, Nat.zero_add]; simp only [Nat.add_zero]
    have this : CodeOk Tryz.prog (codeAt [true, true, false, true, false, false, true, true, false, false, true, true, true, false, false] (Tryz.f32.body.getD .skip)) (L32_1i_1 n t r d b g y0 y1 (k : Int) x0 y2 (cl b) row l.length (cl b) m false (nms a s)) (.exit 2) (L32_1i_1 n t r d b g y0 y1 (k : Int) x0 y2 (cl b) row l.length (cl b) m false (nms a s)) := L32_1i_1_1 (decide_eq_false (by omega))
    exact @this
  | j + 1, q, hq, m, row, a, l, s, hr, hl0, hl1, h1, h2 => by
    have hc := h.cl
    have hcell := cell72 h (k := (k : Int)) (j := (q : Int)) (by omega) hk (by omega) (by omega) m
    have hm := h.mul1 (k := (k : Int)) (by omega) (by have := h.hd; omega)
    have hr' := hr.append (g := a) (2 + (k : Int) * (1 + cl b) + q) (by omega)
    obtain ⟨m', row', lp, ri, lo, hrow⟩ := cells47 hk x0 x1 x2 x3 x4 y0 y1 y2 a0 j (q + 1) (by omega) _ a (a + 1) _ s hr' (by simp) (by simp; omega) h2 (by omega)
    refine ⟨m', row', ?_, ?_, Low.trans (low_app h1 h2) lo, hrow⟩
    · rw [List.length_append, List.length_singleton, show l.length + 1 + j = l.length + (j + 1) by omega, show a + 1 + j = a + (j + 1) by omega] at lp
      refine .step (s1 := L32_1i_1 n t r d b g y0 y1 (k : Int) x0 y2 (cl b) a (l.length + 1) ((q + 1 : Nat) : Int) (appMu m row (l.length * 1) a [.int .i64 (2 + (k : Int) * (1 + cl b) + q)]) false (nms (a + 1) (j + s))) ?_ lp
      have hw : IntKind.i64.wrap ((q : Int) + 1) = ((q + 1 : Nat) : Int) := by rw [wrap64 (by omega) (by omega)]; omega
      have : CodeOk Tryz.prog (codeAt [true, true, false, true, false, false, true, true, false, false, true, true, true, false, false] (Tryz.f32.body.getD .skip)) (L32_1i_1 n t r d b g y0 y1 (k : Int) x0 y2 (cl b) row l.length (q : Int) m false (nms a (j + s + 1))) .normal (L32_1i_1 n t r d b g y0 y1 (k : Int) x0 y2 (cl b) a (l.length + 1) (IntKind.i64.wrap ((q : Int) + 1)) (appMu m row (l.length * 1) a [.int .i64 (2 + (k : Int) * (1 + cl b) + q)]) false (offUse [a] (nms a (j + s + 1)))) :=
        L32_1i_1_2 (decide_eq_true (by omega)) hcell (decide_eq_true ⟨hl0, by omega, rfl⟩) hr.some (by rw [show [a] = nms a 1 from rfl]; exact all_nms (Nat.le_refl _) (by omega))
      rw [hw, off_one] at this
      rw [show j + 1 + s = j + s + 1 by omega]
      exact @this
    · rw [List.append_assoc] at ri
      simpa [List.range'_succ] using ri
/-- The places of domains from one on. -/
def domPl (b : Int) (q j : Nat) : List Nat := (List.range' q j).flatMap fun (k : Nat) => (1 + (k : Int) * (1 + cl b)).toNat :: (List.range' 0 (cl b).toNat).map fun (i : Nat) => (2 + (k : Int) * (1 + cl b) + i).toNat
theorem dom47 (a0 : Nat) : ∀ (j q : Nat), ((q + j : Nat) : Int) = d → ∀ (m : Mu) (row a : Nat) (l : List Nat) (s : Nat), RowIs m row l → 0 < l.length → l.length + j * (1 + (cl b).toNat) < 1000 → a0 ≤ row → a0 ≤ a →
    ∃ m' row', LoopOk Tryz.prog (codeAt [true, true, false, true, false, false] (Tryz.f32.body.getD .skip)) (L32_1 n t r d b g row l.length (q : Int) m false (nms a (j * (1 + (cl b).toNat) + s))) (.exit 0)
      (L32_1 n t r d b g row' (l.length + j * (1 + (cl b).toNat)) d m' false (nms (a + j * (1 + (cl b).toNat)) s)) ∧ RowIs m' row' (l ++ domPl b q j) ∧ Low a0 m m' ∧ a0 ≤ row'
  | 0, q, hq, m, row, a, l, s, hr, hl0, hl1, h1, h2 => by
    refine ⟨m, row, .last (by simp) ?_, by simpa [domPl] using hr, fun _ _ _ => rfl, h1⟩
    have e : (q : Int) = d := by omega
    rw [e]
    simp only [Nat.zero_mul, Nat.zero_add, Nat.add_zero]
    have this : CodeOk Tryz.prog (codeAt [true, true, false, true, false, false] (Tryz.f32.body.getD .skip)) (L32_1 n t r d b g row l.length d m false (nms a s)) (.exit 0) (L32_1 n t r d b g row l.length d m false (nms a s)) := L32_1_1 (decide_eq_false (by omega))
    exact @this
  | j + 1, q, hq, m, row, a, l, s, hr, hl0, hl1, h1, h2 => by
    have hc := h.cl; have hd := h.hd
    obtain ⟨c, hcc⟩ : ∃ c : Nat, cl b = (c : Int) := ⟨(cl b).toNat, by omega⟩
    have hct : (cl b).toNat = c := by omega
    rw [hct] at hl1 ⊢
    have hkind := kind71 h (k := (q : Int)) (by omega) (by omega) m
    have hm := h.mul1 (k := (q : Int)) (by omega) (by omega)
    have hr' := hr.append (g := a) (1 + (q : Int) * (1 + cl b)) (by omega)
    have hlen : j * (1 + c) + (1 + c) = (j + 1) * (1 + c) := (Nat.succ_mul j (1 + c)).symm
    obtain ⟨m1, row1, lp1, ri1, lo1, hrow1⟩ := cells47 h (k := q) (by omega) (1 + (q : Int) * (1 + cl b)) 0 0 0 0 row l.length a a0 c 0 (by omega) _ a (a + 1) _ (j * (1 + c) + s) hr' (by simp) (by simp; omega) h2 (by omega)
    obtain ⟨m2, row2, lp2, ri2, lo2, hrow2⟩ := dom47 a0 j (q + 1) (by omega) m1 row1 (a + 1 + c) _ s ri1 (by simp; omega) (by simp [hct]; omega) hrow1 (by omega)
    rw [hct] at lp2
    refine ⟨m2, row2, ?_, ?_, (low_app h1 h2).trans (lo1.trans lo2), hrow2⟩
    · simp only [List.length_append, List.length_singleton, List.length_map, List.length_range'] at lp1 lp2
      have e1 : (j + 1) * (1 + c) + s = (c + (j * (1 + c) + s)) + 1 := by omega
      have lc : CodeOk Tryz.prog (codeAt [true, true, false, true, false, false, true, true, false, false, true, true, true, false] (Tryz.f32.body.getD .skip)) (L32_1i_1 n t r d b g row l.length (q : Int) (1 + (q : Int) * (1 + cl b)) a (cl b) a (l.length + 1) 0 (appMu m row (l.length * 1) a [.int .i64 (1 + (q : Int) * (1 + cl b))]) false (offUse [a] (nms a ((c + (j * (1 + c) + s)) + 1)))) (.exit 2)
          (L32_1i_1 n t r d b g row l.length (q : Int) (1 + (q : Int) * (1 + cl b)) a (cl b) row1 (l.length + 1 + c) (cl b) m1 false (nms (a + 1 + c) (j * (1 + c) + s))) := by
        rw [L32_1i_1_loop, off_one]
        exact lp1.code
      have st : CodeOk Tryz.prog (codeAt [true, true, false, true, false, false] (Tryz.f32.body.getD .skip)) (L32_1 n t r d b g row l.length (q : Int) m false (nms a ((c + (j * (1 + c) + s)) + 1))) .normal (L32_1 n t r d b g row1 (l.length + 1 + c) (IntKind.i64.wrap ((q : Int) + 1)) m1 false (nms (a + 1 + c) (j * (1 + c) + s))) :=
        L32_1_2 (decide_eq_true (by omega)) hkind (decide_eq_true ⟨hl0, by omega, rfl⟩) hr.some (by rw [show [a] = nms a 1 from rfl]; exact all_nms (Nat.le_refl _) (by omega)) (cells16 h _) lc
      rw [show IntKind.i64.wrap ((q : Int) + 1) = ((q + 1 : Nat) : Int) by rw [wrap64 (by omega) (by omega)]; omega] at st
      rw [e1]
      rw [show l.length + 1 + c + j * (1 + c) = l.length + (j + 1) * (1 + c) by omega, show a + 1 + c + j * (1 + c) = a + (j + 1) * (1 + c) by omega] at lp2
      exact .step (P := Tryz.prog) @st lp2
    · have : domPl b q (j + 1) = (1 + (q : Int) * (1 + cl b)).toNat :: ((List.range' 0 c).map fun (i : Nat) => (2 + (q : Int) * (1 + cl b) + i).toNat) ++ domPl b (q + 1) j := by
        unfold domPl
        rw [List.range'_succ, List.flatMap_cons, hct]
      rw [this]
      simpa [List.append_assoc] using ri2
end
end Go.Proofs.YtkhjkfbgcpjphaaGreat.Fun
