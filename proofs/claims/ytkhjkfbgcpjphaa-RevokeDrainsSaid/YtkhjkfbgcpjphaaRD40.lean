/- The reference's words of a region: their sorts. -/
import Derived.Test.YtkhjkfbgcpjphaaRD22
import Derived.Test.YtkhjkfbgcpjphaaFunWaysE
namespace Go.Proofs.Ytkhjkfbgcpjphaa.Fun
open Go Go.Proofs.Ytkhjkfbgcpjphaa.Fun.E
set_option linter.unusedVariables false
/-- Rows of three numbers, as cells. -/
def c3 : List (Int × Int × Int) → List DV
  | [] => []
  | x :: l => .int .i64 x.1 :: .int .i64 x.2.1 :: .int .i64 x.2.2 :: c3 l
theorem c3_len : ∀ l : List (Int × Int × Int), (c3 l).length = l.length * 3
  | [] => rfl
  | x :: l => by simp only [c3, List.length_cons, c3_len l]; omega
theorem c3_app : ∀ l k : List (Int × Int × Int), c3 (l ++ k) = c3 l ++ c3 k
  | [], _ => rfl
  | x :: l, k => by simp only [List.cons_append, c3, c3_app l k]
theorem c3_get : ∀ (l : List (Int × Int × Int)) (j : Nat) (x : Int × Int × Int), l[j]? = some x → (c3 l)[j * 3]? = some (.int .i64 x.1) ∧ (c3 l)[j * 3 + 1]? = some (.int .i64 x.2.1) ∧ (c3 l)[j * 3 + 2]? = some (.int .i64 x.2.2)
  | [], j, x, h => by simp at h
  | y :: l, 0, x, h => by simp at h; subst h; exact ⟨rfl, rfl, rfl⟩
  | y :: l, j + 1, x, h => by
    have := c3_get l j x (by simpa using h)
    rw [show (j + 1) * 3 = j * 3 + 1 + 1 + 1 by omega, show j * 3 + 1 + 1 + 1 + 1 = (j * 3 + 1) + 1 + 1 + 1 by omega, show j * 3 + 1 + 1 + 1 + 2 = (j * 3 + 2) + 1 + 1 + 1 by omega]
    simpa only [c3, List.getElem?_cons_succ] using this
/-- In the row b these stand. -/
def TriAt (m : Mu) (b : Nat) (l : List (Int × Int × Int)) : Prop := ∀ (o : Nat) (v : DV), (c3 l)[o]? = some v → m b o = some v
theorem TriAt.get {m : Mu} {b : Nat} {l : List (Int × Int × Int)} (h : TriAt m b l) {j : Nat} {x : Int × Int × Int} (hx : l[j]? = some x) : m b (j * 3) = some (.int .i64 x.1) ∧ m b (j * 3 + 1) = some (.int .i64 x.2.1) ∧ m b (j * 3 + 2) = some (.int .i64 x.2.2) :=
  have := c3_get l j x hx
  ⟨h _ _ this.1, h _ _ this.2.1, h _ _ this.2.2⟩
theorem TriAt.some {m : Mu} {b : Nat} {l : List (Int × Int × Int)} (h : TriAt m b l) : ((List.range (l.length * 3)).all fun o => (m b o).isSome) = true :=
  List.all_eq_true.2 fun o ho => by
    have hlt : o < (c3 l).length := by rw [c3_len]; simpa using ho
    rw [h o (c3 l)[o] (List.getElem?_eq_getElem hlt)]; rfl
theorem TriAt.append {m : Mu} {b : Nat} {l : List (Int × Int × Int)} (h : TriAt m b l) (g : Nat) (k : List (Int × Int × Int)) : TriAt (appMu m b (l.length * 3) g (c3 k)) g (l ++ k) := by
  intro o v hv
  rw [appMu_at, c3_app] at *
  have hl := c3_len l
  by_cases ho : o < l.length * 3
  · rw [if_pos ho]
    rw [List.getElem?_append_left (by omega)] at hv
    exact h o v hv
  · rw [if_neg ho]
    rw [List.getElem?_append_right (by omega), hl] at hv
    exact hv
theorem TriAt.keep {m m' : Mu} {b : Nat} {l : List (Int × Int × Int)} (h : TriAt m b l) (hk : ∀ o, m' b o = m b o) : TriAt m' b l := fun o v hv => by rw [hk]; exact h o v hv
/-- Blocks of words of a region. -/
def blkS (hd : Nat → List (Int × Int × Int)) (s : Int) (C q j : Nat) : List (Int × Int × Int) := (List.range' q j).flatMap fun (k : Nat) => hd k ++ (List.range' 0 C).map fun (i : Nat) => (s, (k : Int), (i : Int))
theorem blkS_succ (hd : Nat → List (Int × Int × Int)) (s : Int) (C q j : Nat) : blkS hd s C q (j + 1) = hd q ++ ((List.range' 0 C).map fun (i : Nat) => (s, (q : Int), (i : Int))) ++ blkS hd s C (q + 1) j := by
  unfold blkS
  rw [show List.range' q (j + 1) = q :: List.range' (q + 1) j from rfl, List.flatMap_cons]
theorem cells85 (n t r d b g : Int) (m : Mu) : CallOk Try.prog 85 [pl n t r d b g] m (.int .i64 (cl b)) m false [] := d85_1 m
def hd1 (k : Nat) : List (Int × Int × Int) := [(1, (k : Int), 0)]
def hd2 (k : Nat) : List (Int × Int × Int) := []
def hd3 (k : Nat) : List (Int × Int × Int) := [(4, (k : Int), 0)]
def hd4 (k : Nat) : List (Int × Int × Int) := [(6, (k : Int), 0), (7, (k : Int), 0)]
/-- All sorts of a region's words. -/
def sorts (n t r d b : Int) : List (Int × Int × Int) := [(0, 0, 0)] ++ blkS hd1 2 (cl b).toNat 0 d.toNat ++ blkS hd2 3 3 0 t.toNat ++ blkS hd3 5 r.toNat 0 t.toNat ++ blkS hd4 8 3 0 n.toNat
theorem blkS_len (hd : Nat → List (Int × Int × Int)) (H : Nat) (hh : ∀ k, (hd k).length = H) (s : Int) (C : Nat) : ∀ (j q : Nat), (blkS hd s C q j).length = j * (H + C)
  | 0, q => by simp [blkS]
  | j + 1, q => by
    rw [blkS_succ, List.length_append, List.length_append, blkS_len hd H hh s C j (q + 1), hh, List.length_map, List.length_range', Nat.succ_mul]
    omega
/-- How many names they take. -/
def nSo (n t r d b : Int) : Nat := 1 + (d.toNat * (1 + (cl b).toNat) + (t.toNat * (0 + 3) + (t.toNat * (1 + r.toNat) + n.toNat * (1 + 3))))
section
variable {n t r d b g : Int} (h : PF n t r d b g)
include h
/-- The inner loop 1. -/
theorem in53_1 (k y0 y1 y2 a0 : Nat) : ∀ (j q : Nat), ((q + j : Nat) : Int) = cl b → ∀ (m : Mu) (row a : Nat) (l : List (Int × Int × Int)) (s : Nat), TriAt m row l → 0 < l.length → l.length + j < 1000000 → a0 ≤ row → row < a →
    ∃ m' row', LoopOk Try.prog (codeAt [true, true, false, true, false, false, true, false, false, true, true, false, false] (Try.f53.body.getD .skip)) (L53_1i_1 n t r d b g y0 y1 (k : Int) y2 row l.length (q : Int) m false (nms a (j + s))) (.exit 2)
      (L53_1i_1 n t r d b g y0 y1 (k : Int) y2 row' (l.length + j) (cl b) m' false (nms (a + j) s)) ∧ TriAt m' row' (l ++ (List.range' q j).map fun (i : Nat) => (2, (k : Int), (i : Int))) ∧ Low a0 m m' ∧ a0 ≤ row' ∧ row' < a + j
  | 0, q, hq, m, row, a, l, s, hr, hl0, hl1, h1, h2 => by
    refine ⟨m, row, .last (by simp) ?_, by simpa using hr, fun _ _ _ => rfl, h1, h2⟩
    have e : (q : Int) = cl b := by omega
    rw [e, Nat.zero_add]; simp only [Nat.add_zero]
    have this : CodeOk Try.prog (codeAt [true, true, false, true, false, false, true, false, false, true, true, false, false] (Try.f53.body.getD .skip)) (L53_1i_1 n t r d b g y0 y1 (k : Int) y2 row l.length (cl b) m false (nms a s)) (.exit 2) (L53_1i_1 n t r d b g y0 y1 (k : Int) y2 row l.length (cl b) m false (nms a s)) := L53_1i_1_1 (cells85 n t r d b g _) (decide_eq_false (by omega))
    exact @this
  | j + 1, q, hq, m, row, a, l, s, hr, hl0, hl1, h1, h2 => by
    have hc := h.cl; have ht := h.ht; have hrr := h.hr
    have hr' : TriAt (appMu m row (l.length * 3) a [.int .i64 2, .int .i64 (k : Int), .int .i64 (q : Int)]) a (l ++ [(2, (k : Int), (q : Int))]) := hr.append a [(2, (k : Int), (q : Int))]
    obtain ⟨m', row', lp, ri, lo, hrow, hrow2⟩ := in53_1 k y0 y1 y2 a0 j (q + 1) (by omega) _ a (a + 1) _ s hr' (by simp) (by simp; omega) (by omega) (by omega)
    refine ⟨m', row', ?_, ?_, Low.trans (low_app h1 (by omega)) lo, hrow, by omega⟩
    · rw [List.length_append, List.length_singleton, show l.length + 1 + j = l.length + (j + 1) by omega, show a + 1 + j = a + (j + 1) by omega] at lp
      have hw : IntKind.i64.wrap ((q : Int) + 1) = ((q + 1 : Nat) : Int) := by rw [wrap64 (by omega) (by omega)]; omega
      have this : CodeOk Try.prog (codeAt [true, true, false, true, false, false, true, false, false, true, true, false, false] (Try.f53.body.getD .skip)) (L53_1i_1 n t r d b g y0 y1 (k : Int) y2 row l.length (q : Int) m false (nms a (j + s + 1))) .normal (L53_1i_1 n t r d b g y0 y1 (k : Int) y2 a (l.length + 1) (IntKind.i64.wrap ((q : Int) + 1)) (appMu m row (l.length * 3) a [.int .i64 2, .int .i64 (k : Int), .int .i64 (q : Int)]) false (offUse [a] (nms a (j + s + 1)))) :=
        L53_1i_1_2 (cells85 n t r d b g _) (decide_eq_true (by omega)) (decide_eq_true ⟨hl0, by omega, rfl⟩) hr.some (by rw [show [a] = nms a 1 from rfl]; exact all_nms (Nat.le_refl _) (by omega))
      rw [hw, off_one] at this
      rw [show j + 1 + s = j + s + 1 by omega]
      exact .step (P := Try.prog) @this lp
    · rw [List.append_assoc] at ri
      simpa [List.range'_succ] using ri
/-- The inner loop 2. -/
theorem in53_2 (k y0 y1 y2 a0 : Nat) : ∀ (j q : Nat), ((q + j : Nat) : Int) = 3 → ∀ (m : Mu) (row a : Nat) (l : List (Int × Int × Int)) (s : Nat), TriAt m row l → 0 < l.length → l.length + j < 1000000 → a0 ≤ row → row < a →
    ∃ m' row', LoopOk Try.prog (codeAt [true, true, true, false, true, false, false, true, false, false, true, false, false] (Try.f53.body.getD .skip)) (L53_2i_1 n t r d b g (k : Int) row l.length (q : Int) m false (nms a (j + s))) (.exit 6)
      (L53_2i_1 n t r d b g (k : Int) row' (l.length + j) 3 m' false (nms (a + j) s)) ∧ TriAt m' row' (l ++ (List.range' q j).map fun (i : Nat) => (3, (k : Int), (i : Int))) ∧ Low a0 m m' ∧ a0 ≤ row' ∧ row' < a + j
  | 0, q, hq, m, row, a, l, s, hr, hl0, hl1, h1, h2 => by
    refine ⟨m, row, .last (by simp) ?_, by simpa using hr, fun _ _ _ => rfl, h1, h2⟩
    have e : (q : Int) = 3 := by omega
    rw [e, Nat.zero_add]; simp only [Nat.add_zero]
    have this : CodeOk Try.prog (codeAt [true, true, true, false, true, false, false, true, false, false, true, false, false] (Try.f53.body.getD .skip)) (L53_2i_1 n t r d b g (k : Int) row l.length 3 m false (nms a s)) (.exit 6) (L53_2i_1 n t r d b g (k : Int) row l.length 3 m false (nms a s)) := L53_2i_1_1 (decide_eq_false (by omega))
    exact @this
  | j + 1, q, hq, m, row, a, l, s, hr, hl0, hl1, h1, h2 => by
    have hc := h.cl; have ht := h.ht; have hrr := h.hr
    have hr' : TriAt (appMu m row (l.length * 3) a [.int .i64 3, .int .i64 (k : Int), .int .i64 (q : Int)]) a (l ++ [(3, (k : Int), (q : Int))]) := hr.append a [(3, (k : Int), (q : Int))]
    obtain ⟨m', row', lp, ri, lo, hrow, hrow2⟩ := in53_2 k y0 y1 y2 a0 j (q + 1) (by omega) _ a (a + 1) _ s hr' (by simp) (by simp; omega) (by omega) (by omega)
    refine ⟨m', row', ?_, ?_, Low.trans (low_app h1 (by omega)) lo, hrow, by omega⟩
    · rw [List.length_append, List.length_singleton, show l.length + 1 + j = l.length + (j + 1) by omega, show a + 1 + j = a + (j + 1) by omega] at lp
      have hw : IntKind.i64.wrap ((q : Int) + 1) = ((q + 1 : Nat) : Int) := by rw [wrap64 (by omega) (by omega)]; omega
      have this : CodeOk Try.prog (codeAt [true, true, true, false, true, false, false, true, false, false, true, false, false] (Try.f53.body.getD .skip)) (L53_2i_1 n t r d b g (k : Int) row l.length (q : Int) m false (nms a (j + s + 1))) .normal (L53_2i_1 n t r d b g (k : Int) a (l.length + 1) (IntKind.i64.wrap ((q : Int) + 1)) (appMu m row (l.length * 3) a [.int .i64 3, .int .i64 (k : Int), .int .i64 (q : Int)]) false (offUse [a] (nms a (j + s + 1)))) :=
        L53_2i_1_2 (decide_eq_true (by omega)) (decide_eq_true ⟨hl0, by omega, rfl⟩) hr.some (by rw [show [a] = nms a 1 from rfl]; exact all_nms (Nat.le_refl _) (by omega))
      rw [hw, off_one] at this
      rw [show j + 1 + s = j + s + 1 by omega]
      exact .step (P := Try.prog) @this lp
    · rw [List.append_assoc] at ri
      simpa [List.range'_succ] using ri
/-- The inner loop 3. -/
theorem in53_3 (k y0 y1 y2 a0 : Nat) : ∀ (j q : Nat), ((q + j : Nat) : Int) = r → ∀ (m : Mu) (row a : Nat) (l : List (Int × Int × Int)) (s : Nat), TriAt m row l → 0 < l.length → l.length + j < 1000000 → a0 ≤ row → row < a →
    ∃ m' row', LoopOk Try.prog (codeAt [true, true, true, true, false, true, false, false, true, false, false, true, true, false, false] (Try.f53.body.getD .skip)) (L53_3i_1 n t r d b g y0 y1 (k : Int) y2 row l.length (q : Int) m false (nms a (j + s))) (.exit 10)
      (L53_3i_1 n t r d b g y0 y1 (k : Int) y2 row' (l.length + j) r m' false (nms (a + j) s)) ∧ TriAt m' row' (l ++ (List.range' q j).map fun (i : Nat) => (5, (k : Int), (i : Int))) ∧ Low a0 m m' ∧ a0 ≤ row' ∧ row' < a + j
  | 0, q, hq, m, row, a, l, s, hr, hl0, hl1, h1, h2 => by
    refine ⟨m, row, .last (by simp) ?_, by simpa using hr, fun _ _ _ => rfl, h1, h2⟩
    have e : (q : Int) = r := by omega
    rw [e, Nat.zero_add]; simp only [Nat.add_zero]
    have this : CodeOk Try.prog (codeAt [true, true, true, true, false, true, false, false, true, false, false, true, true, false, false] (Try.f53.body.getD .skip)) (L53_3i_1 n t r d b g y0 y1 (k : Int) y2 row l.length r m false (nms a s)) (.exit 10) (L53_3i_1 n t r d b g y0 y1 (k : Int) y2 row l.length r m false (nms a s)) := L53_3i_1_1 (decide_eq_false (by omega))
    exact @this
  | j + 1, q, hq, m, row, a, l, s, hr, hl0, hl1, h1, h2 => by
    have hc := h.cl; have ht := h.ht; have hrr := h.hr
    have hr' : TriAt (appMu m row (l.length * 3) a [.int .i64 5, .int .i64 (k : Int), .int .i64 (q : Int)]) a (l ++ [(5, (k : Int), (q : Int))]) := hr.append a [(5, (k : Int), (q : Int))]
    obtain ⟨m', row', lp, ri, lo, hrow, hrow2⟩ := in53_3 k y0 y1 y2 a0 j (q + 1) (by omega) _ a (a + 1) _ s hr' (by simp) (by simp; omega) (by omega) (by omega)
    refine ⟨m', row', ?_, ?_, Low.trans (low_app h1 (by omega)) lo, hrow, by omega⟩
    · rw [List.length_append, List.length_singleton, show l.length + 1 + j = l.length + (j + 1) by omega, show a + 1 + j = a + (j + 1) by omega] at lp
      have hw : IntKind.i64.wrap ((q : Int) + 1) = ((q + 1 : Nat) : Int) := by rw [wrap64 (by omega) (by omega)]; omega
      have this : CodeOk Try.prog (codeAt [true, true, true, true, false, true, false, false, true, false, false, true, true, false, false] (Try.f53.body.getD .skip)) (L53_3i_1 n t r d b g y0 y1 (k : Int) y2 row l.length (q : Int) m false (nms a (j + s + 1))) .normal (L53_3i_1 n t r d b g y0 y1 (k : Int) y2 a (l.length + 1) (IntKind.i64.wrap ((q : Int) + 1)) (appMu m row (l.length * 3) a [.int .i64 5, .int .i64 (k : Int), .int .i64 (q : Int)]) false (offUse [a] (nms a (j + s + 1)))) :=
        L53_3i_1_2 (decide_eq_true (by omega)) (decide_eq_true ⟨hl0, by omega, rfl⟩) hr.some (by rw [show [a] = nms a 1 from rfl]; exact all_nms (Nat.le_refl _) (by omega))
      rw [hw, off_one] at this
      rw [show j + 1 + s = j + s + 1 by omega]
      exact .step (P := Try.prog) @this lp
    · rw [List.append_assoc] at ri
      simpa [List.range'_succ] using ri
/-- The inner loop 4. -/
theorem in53_4 (k y0 y1 y2 a0 : Nat) : ∀ (j q : Nat), ((q + j : Nat) : Int) = 3 → ∀ (m : Mu) (row a : Nat) (l : List (Int × Int × Int)) (s : Nat), TriAt m row l → 0 < l.length → l.length + j < 1000000 → a0 ≤ row → row < a →
    ∃ m' row', LoopOk Try.prog (codeAt [true, true, true, true, true, false, true, false, false, true, false, false, true, true, false, false] (Try.f53.body.getD .skip)) (L53_4i_1 n t r d b g y0 y1 (k : Int) y2 row l.length (q : Int) m false (nms a (j + s))) (.exit 14)
      (L53_4i_1 n t r d b g y0 y1 (k : Int) y2 row' (l.length + j) 3 m' false (nms (a + j) s)) ∧ TriAt m' row' (l ++ (List.range' q j).map fun (i : Nat) => (8, (k : Int), (i : Int))) ∧ Low a0 m m' ∧ a0 ≤ row' ∧ row' < a + j
  | 0, q, hq, m, row, a, l, s, hr, hl0, hl1, h1, h2 => by
    refine ⟨m, row, .last (by simp) ?_, by simpa using hr, fun _ _ _ => rfl, h1, h2⟩
    have e : (q : Int) = 3 := by omega
    rw [e, Nat.zero_add]; simp only [Nat.add_zero]
    have this : CodeOk Try.prog (codeAt [true, true, true, true, true, false, true, false, false, true, false, false, true, true, false, false] (Try.f53.body.getD .skip)) (L53_4i_1 n t r d b g y0 y1 (k : Int) y2 row l.length 3 m false (nms a s)) (.exit 14) (L53_4i_1 n t r d b g y0 y1 (k : Int) y2 row l.length 3 m false (nms a s)) := L53_4i_1_1 (decide_eq_false (by omega))
    exact @this
  | j + 1, q, hq, m, row, a, l, s, hr, hl0, hl1, h1, h2 => by
    have hc := h.cl; have ht := h.ht; have hrr := h.hr
    have hr' : TriAt (appMu m row (l.length * 3) a [.int .i64 8, .int .i64 (k : Int), .int .i64 (q : Int)]) a (l ++ [(8, (k : Int), (q : Int))]) := hr.append a [(8, (k : Int), (q : Int))]
    obtain ⟨m', row', lp, ri, lo, hrow, hrow2⟩ := in53_4 k y0 y1 y2 a0 j (q + 1) (by omega) _ a (a + 1) _ s hr' (by simp) (by simp; omega) (by omega) (by omega)
    refine ⟨m', row', ?_, ?_, Low.trans (low_app h1 (by omega)) lo, hrow, by omega⟩
    · rw [List.length_append, List.length_singleton, show l.length + 1 + j = l.length + (j + 1) by omega, show a + 1 + j = a + (j + 1) by omega] at lp
      have hw : IntKind.i64.wrap ((q : Int) + 1) = ((q + 1 : Nat) : Int) := by rw [wrap64 (by omega) (by omega)]; omega
      have this : CodeOk Try.prog (codeAt [true, true, true, true, true, false, true, false, false, true, false, false, true, true, false, false] (Try.f53.body.getD .skip)) (L53_4i_1 n t r d b g y0 y1 (k : Int) y2 row l.length (q : Int) m false (nms a (j + s + 1))) .normal (L53_4i_1 n t r d b g y0 y1 (k : Int) y2 a (l.length + 1) (IntKind.i64.wrap ((q : Int) + 1)) (appMu m row (l.length * 3) a [.int .i64 8, .int .i64 (k : Int), .int .i64 (q : Int)]) false (offUse [a] (nms a (j + s + 1)))) :=
        L53_4i_1_2 (decide_eq_true (by omega)) (decide_eq_true ⟨hl0, by omega, rfl⟩) hr.some (by rw [show [a] = nms a 1 from rfl]; exact all_nms (Nat.le_refl _) (by omega))
      rw [hw, off_one] at this
      rw [show j + 1 + s = j + s + 1 by omega]
      exact .step (P := Try.prog) @this lp
    · rw [List.append_assoc] at ri
      simpa [List.range'_succ] using ri
/-- The outer loop 1. -/
theorem out53_1 (a0 C : Nat) (hC : (C : Int) = (cl b)) : ∀ (j q : Nat), ((q + j : Nat) : Int) = d → ∀ (m : Mu) (row a : Nat) (l : List (Int × Int × Int)) (s : Nat), TriAt m row l → 0 < l.length → l.length + j * (1 + C) < 1000000 → a0 ≤ row → row < a →
    ∃ m' row', LoopOk Try.prog (codeAt [true, true, false, true, false, false] (Try.f53.body.getD .skip)) (L53_1 n t r d b g row l.length (q : Int) m false (nms a (j * (1 + C) + s))) (.exit 0)
      (L53_1 n t r d b g row' (l.length + j * (1 + C)) d m' false (nms (a + j * (1 + C)) s)) ∧ TriAt m' row' (l ++ blkS hd1 2 C q j) ∧ Low a0 m m' ∧ a0 ≤ row' ∧ row' < a + j * (1 + C)
  | 0, q, hq, m, row, a, l, s, hr, hl0, hl1, h1, h2 => by
    refine ⟨m, row, .last (by simp) ?_, by simpa [blkS] using hr, fun _ _ _ => rfl, h1, by omega⟩
    have e : (q : Int) = d := by omega
    rw [e]
    simp only [Nat.zero_mul, Nat.zero_add, Nat.add_zero]
    have this : CodeOk Try.prog (codeAt [true, true, false, true, false, false] (Try.f53.body.getD .skip)) (L53_1 n t r d b g row l.length d m false (nms a s)) (.exit 0) (L53_1 n t r d b g row l.length d m false (nms a s)) := L53_1_1 (decide_eq_false (by omega))
    exact @this
  | j + 1, q, hq, m, row, a, l, s, hr, hl0, hl1, h1, h2 => by
    have hn := h.hn; have ht := h.ht; have hrr := h.hr; have hd := h.hd; have hcc := h.cl
    have hlen : j * (1 + C) + (1 + C) = (j + 1) * (1 + C) := (Nat.succ_mul j (1 + C)).symm
    have hlen2 : j * (1 + C) + (1 + C) = (j + 1) * (1 + C) := (Nat.succ_mul j (1 + C)).symm
    have hr' : TriAt (appMu m row (l.length * 3) a [.int .i64 1, .int .i64 (q : Int), .int .i64 0]) a (l ++ hd1 q) := hr.append a (hd1 q)
    obtain ⟨m1, row1, lp1, ri1, lo1, hrow1, hrow1b⟩ := in53_1 h q row l.length a a0 C 0 (by omega) _ a (a + 1) _ (j * (1 + C) + s) hr' (by rw [List.length_append]; omega) (by simp [hd1]; omega) (by omega) (by omega)
    have ln : (l ++ hd1 q).length = l.length + 1 := by simp [hd1]
    rw [ln] at lp1
    obtain ⟨m2, row2, lp2, ri2, lo2, hrow2, hrow2b⟩ := out53_1 a0 C hC j (q + 1) (by omega) m1 row1 (a + 1 + C) _ s ri1 (by simp; omega) (by simp [hd1]; omega) hrow1 (by omega)
    refine ⟨m2, row2, ?_, by rw [blkS_succ]; simpa only [List.append_assoc] using ri2, (low_app h1 (by omega)).trans (lo1.trans lo2), hrow2, by omega⟩
    rw [List.length_append, ln, List.length_map, List.length_range'] at lp2
    have e1 : (j + 1) * (1 + C) + s = (C + (j * (1 + C) + s)) + 1 := by omega
    have lc : CodeOk Try.prog (codeAt [true, true, false, true, false, false, true, false, false, true, true, false] (Try.f53.body.getD .skip)) (L53_1i_1 n t r d b g row l.length (q : Int) a a (l.length + 1) 0 (appMu m row (l.length * 3) a [.int .i64 1, .int .i64 (q : Int), .int .i64 0]) false (offUse [a] (nms a ((C + (j * (1 + C) + s)) + 1)))) (.exit 2)
        (L53_1i_1 n t r d b g row l.length (q : Int) a row1 (l.length + 1 + C) (cl b) m1 false (nms (a + 1 + C) (j * (1 + C) + s))) := by
      rw [L53_1i_1_loop, off_one]
      exact lp1.code
    have st : CodeOk Try.prog (codeAt [true, true, false, true, false, false] (Try.f53.body.getD .skip)) (L53_1 n t r d b g row l.length (q : Int) m false (nms a ((C + (j * (1 + C) + s)) + 1))) .normal (L53_1 n t r d b g row1 (l.length + 1 + C) (IntKind.i64.wrap ((q : Int) + 1)) m1 false (nms (a + 1 + C) (j * (1 + C) + s))) :=
      L53_1_2 (decide_eq_true (by omega)) (decide_eq_true ⟨hl0, by omega, rfl⟩) hr.some (by rw [show [a] = nms a 1 from rfl]; exact all_nms (Nat.le_refl _) (by omega)) lc
    rw [show IntKind.i64.wrap ((q : Int) + 1) = ((q + 1 : Nat) : Int) by rw [wrap64 (by omega) (by omega)]; omega] at st
    rw [e1]
    rw [show l.length + 1 + C + j * (1 + C) = l.length + (j + 1) * (1 + C) by omega, show a + 1 + C + j * (1 + C) = a + (j + 1) * (1 + C) by omega] at lp2
    exact .step (P := Try.prog) @st lp2
/-- The outer loop 2. -/
theorem out53_2 (a0 C : Nat) (hC : (C : Int) = 3) : ∀ (j q : Nat), ((q + j : Nat) : Int) = t → ∀ (m : Mu) (row a : Nat) (l : List (Int × Int × Int)) (s : Nat), TriAt m row l → 0 < l.length → l.length + j * (0 + C) < 1000000 → a0 ≤ row → row < a →
    ∃ m' row', LoopOk Try.prog (codeAt [true, true, true, false, true, false, false] (Try.f53.body.getD .skip)) (L53_2 n t r d b g row l.length (q : Int) m false (nms a (j * (0 + C) + s))) (.exit 4)
      (L53_2 n t r d b g row' (l.length + j * (0 + C)) t m' false (nms (a + j * (0 + C)) s)) ∧ TriAt m' row' (l ++ blkS hd2 3 C q j) ∧ Low a0 m m' ∧ a0 ≤ row' ∧ row' < a + j * (0 + C)
  | 0, q, hq, m, row, a, l, s, hr, hl0, hl1, h1, h2 => by
    refine ⟨m, row, .last (by simp) ?_, by simpa [blkS] using hr, fun _ _ _ => rfl, h1, by omega⟩
    have e : (q : Int) = t := by omega
    rw [e]
    simp only [Nat.zero_mul, Nat.zero_add, Nat.add_zero]
    have this : CodeOk Try.prog (codeAt [true, true, true, false, true, false, false] (Try.f53.body.getD .skip)) (L53_2 n t r d b g row l.length t m false (nms a s)) (.exit 4) (L53_2 n t r d b g row l.length t m false (nms a s)) := L53_2_1 (decide_eq_false (by omega))
    exact @this
  | j + 1, q, hq, m, row, a, l, s, hr, hl0, hl1, h1, h2 => by
    have hn := h.hn; have ht := h.ht; have hrr := h.hr; have hd := h.hd; have hcc := h.cl
    have hlen : j * (0 + C) + (0 + C) = (j + 1) * (0 + C) := (Nat.succ_mul j (0 + C)).symm
    have hlen2 : j * (0 + C) + (0 + C) = (j + 1) * (0 + C) := (Nat.succ_mul j (0 + C)).symm
    obtain ⟨m1, row1, lp1, ri1, lo1, hrow1, hrow1b⟩ := in53_2 h q 0 0 0 a0 C 0 (by omega) m row a l (j * (0 + C) + s) hr hl0 (by omega) h1 h2
    obtain ⟨m2, row2, lp2, ri2, lo2, hrow2, hrow2b⟩ := out53_2 a0 C hC j (q + 1) (by omega) m1 row1 (a + C) _ s ri1 (by rw [List.length_append]; omega) (by rw [List.length_append, List.length_map, List.length_range']; omega) hrow1 hrow1b
    refine ⟨m2, row2, ?_, by rw [blkS_succ]; simpa only [hd2, List.nil_append, List.append_assoc] using ri2, lo1.trans lo2, hrow2, by omega⟩
    rw [List.length_append, List.length_map, List.length_range'] at lp2
    have e1 : (j + 1) * (0 + C) + s = C + (j * (0 + C) + s) := by omega
    have lc : CodeOk Try.prog (codeAt [true, true, true, false, true, false, false, true, false, false, true, false] (Try.f53.body.getD .skip)) (L53_2i_1 n t r d b g (q : Int) row l.length 0 m false (nms a (C + (j * (0 + C) + s)))) (.exit 6)
        (L53_2i_1 n t r d b g (q : Int) row1 (l.length + C) 3 m1 false (nms (a + C) (j * (0 + C) + s))) := by
      rw [L53_2i_1_loop]
      exact lp1.code
    have st : CodeOk Try.prog (codeAt [true, true, true, false, true, false, false] (Try.f53.body.getD .skip)) (L53_2 n t r d b g row l.length (q : Int) m false (nms a (C + (j * (0 + C) + s)))) .normal (L53_2 n t r d b g row1 (l.length + C) (IntKind.i64.wrap ((q : Int) + 1)) m1 false (nms (a + C) (j * (0 + C) + s))) :=
      L53_2_2 (decide_eq_true (by omega)) lc
    rw [show IntKind.i64.wrap ((q : Int) + 1) = ((q + 1 : Nat) : Int) by rw [wrap64 (by omega) (by omega)]; omega] at st
    rw [e1]
    rw [show l.length + C + j * (0 + C) = l.length + (j + 1) * (0 + C) by omega, show a + C + j * (0 + C) = a + (j + 1) * (0 + C) by omega] at lp2
    exact .step (P := Try.prog) @st lp2
/-- The outer loop 3. -/
theorem out53_3 (a0 C : Nat) (hC : (C : Int) = r) : ∀ (j q : Nat), ((q + j : Nat) : Int) = t → ∀ (m : Mu) (row a : Nat) (l : List (Int × Int × Int)) (s : Nat), TriAt m row l → 0 < l.length → l.length + j * (1 + C) < 1000000 → a0 ≤ row → row < a →
    ∃ m' row', LoopOk Try.prog (codeAt [true, true, true, true, false, true, false, false] (Try.f53.body.getD .skip)) (L53_3 n t r d b g row l.length (q : Int) m false (nms a (j * (1 + C) + s))) (.exit 8)
      (L53_3 n t r d b g row' (l.length + j * (1 + C)) t m' false (nms (a + j * (1 + C)) s)) ∧ TriAt m' row' (l ++ blkS hd3 5 C q j) ∧ Low a0 m m' ∧ a0 ≤ row' ∧ row' < a + j * (1 + C)
  | 0, q, hq, m, row, a, l, s, hr, hl0, hl1, h1, h2 => by
    refine ⟨m, row, .last (by simp) ?_, by simpa [blkS] using hr, fun _ _ _ => rfl, h1, by omega⟩
    have e : (q : Int) = t := by omega
    rw [e]
    simp only [Nat.zero_mul, Nat.zero_add, Nat.add_zero]
    have this : CodeOk Try.prog (codeAt [true, true, true, true, false, true, false, false] (Try.f53.body.getD .skip)) (L53_3 n t r d b g row l.length t m false (nms a s)) (.exit 8) (L53_3 n t r d b g row l.length t m false (nms a s)) := L53_3_1 (decide_eq_false (by omega))
    exact @this
  | j + 1, q, hq, m, row, a, l, s, hr, hl0, hl1, h1, h2 => by
    have hn := h.hn; have ht := h.ht; have hrr := h.hr; have hd := h.hd; have hcc := h.cl
    have hlen : j * (1 + C) + (1 + C) = (j + 1) * (1 + C) := (Nat.succ_mul j (1 + C)).symm
    have hlen2 : j * (1 + C) + (1 + C) = (j + 1) * (1 + C) := (Nat.succ_mul j (1 + C)).symm
    have hr' : TriAt (appMu m row (l.length * 3) a [.int .i64 4, .int .i64 (q : Int), .int .i64 0]) a (l ++ hd3 q) := hr.append a (hd3 q)
    obtain ⟨m1, row1, lp1, ri1, lo1, hrow1, hrow1b⟩ := in53_3 h q row l.length a a0 C 0 (by omega) _ a (a + 1) _ (j * (1 + C) + s) hr' (by rw [List.length_append]; omega) (by simp [hd3]; omega) (by omega) (by omega)
    have ln : (l ++ hd3 q).length = l.length + 1 := by simp [hd3]
    rw [ln] at lp1
    obtain ⟨m2, row2, lp2, ri2, lo2, hrow2, hrow2b⟩ := out53_3 a0 C hC j (q + 1) (by omega) m1 row1 (a + 1 + C) _ s ri1 (by simp; omega) (by simp [hd3]; omega) hrow1 (by omega)
    refine ⟨m2, row2, ?_, by rw [blkS_succ]; simpa only [List.append_assoc] using ri2, (low_app h1 (by omega)).trans (lo1.trans lo2), hrow2, by omega⟩
    rw [List.length_append, ln, List.length_map, List.length_range'] at lp2
    have e1 : (j + 1) * (1 + C) + s = (C + (j * (1 + C) + s)) + 1 := by omega
    have lc : CodeOk Try.prog (codeAt [true, true, true, true, false, true, false, false, true, false, false, true, true, false] (Try.f53.body.getD .skip)) (L53_3i_1 n t r d b g row l.length (q : Int) a a (l.length + 1) 0 (appMu m row (l.length * 3) a [.int .i64 4, .int .i64 (q : Int), .int .i64 0]) false (offUse [a] (nms a ((C + (j * (1 + C) + s)) + 1)))) (.exit 10)
        (L53_3i_1 n t r d b g row l.length (q : Int) a row1 (l.length + 1 + C) r m1 false (nms (a + 1 + C) (j * (1 + C) + s))) := by
      rw [L53_3i_1_loop, off_one]
      exact lp1.code
    have st : CodeOk Try.prog (codeAt [true, true, true, true, false, true, false, false] (Try.f53.body.getD .skip)) (L53_3 n t r d b g row l.length (q : Int) m false (nms a ((C + (j * (1 + C) + s)) + 1))) .normal (L53_3 n t r d b g row1 (l.length + 1 + C) (IntKind.i64.wrap ((q : Int) + 1)) m1 false (nms (a + 1 + C) (j * (1 + C) + s))) :=
      L53_3_2 (decide_eq_true (by omega)) (decide_eq_true ⟨hl0, by omega, rfl⟩) hr.some (by rw [show [a] = nms a 1 from rfl]; exact all_nms (Nat.le_refl _) (by omega)) lc
    rw [show IntKind.i64.wrap ((q : Int) + 1) = ((q + 1 : Nat) : Int) by rw [wrap64 (by omega) (by omega)]; omega] at st
    rw [e1]
    rw [show l.length + 1 + C + j * (1 + C) = l.length + (j + 1) * (1 + C) by omega, show a + 1 + C + j * (1 + C) = a + (j + 1) * (1 + C) by omega] at lp2
    exact .step (P := Try.prog) @st lp2
/-- The outer loop 4. -/
theorem out53_4 (a0 C : Nat) (hC : (C : Int) = 3) : ∀ (j q : Nat), ((q + j : Nat) : Int) = n → ∀ (m : Mu) (row a : Nat) (l : List (Int × Int × Int)) (s : Nat), TriAt m row l → 0 < l.length → l.length + j * (2 + C) < 1000000 → a0 ≤ row → row < a →
    ∃ m' row', LoopOk Try.prog (codeAt [true, true, true, true, true, false, true, false, false] (Try.f53.body.getD .skip)) (L53_4 n t r d b g row l.length (q : Int) m false (nms a (j * (1 + C) + s))) (.exit 12)
      (L53_4 n t r d b g row' (l.length + j * (2 + C)) n m' false (nms (a + j * (1 + C)) s)) ∧ TriAt m' row' (l ++ blkS hd4 8 C q j) ∧ Low a0 m m' ∧ a0 ≤ row' ∧ row' < a + j * (1 + C)
  | 0, q, hq, m, row, a, l, s, hr, hl0, hl1, h1, h2 => by
    refine ⟨m, row, .last (by simp) ?_, by simpa [blkS] using hr, fun _ _ _ => rfl, h1, by omega⟩
    have e : (q : Int) = n := by omega
    rw [e]
    simp only [Nat.zero_mul, Nat.zero_add, Nat.add_zero]
    have this : CodeOk Try.prog (codeAt [true, true, true, true, true, false, true, false, false] (Try.f53.body.getD .skip)) (L53_4 n t r d b g row l.length n m false (nms a s)) (.exit 12) (L53_4 n t r d b g row l.length n m false (nms a s)) := L53_4_1 (decide_eq_false (by omega))
    exact @this
  | j + 1, q, hq, m, row, a, l, s, hr, hl0, hl1, h1, h2 => by
    have hn := h.hn; have ht := h.ht; have hrr := h.hr; have hd := h.hd; have hcc := h.cl
    have hlen : j * (2 + C) + (2 + C) = (j + 1) * (2 + C) := (Nat.succ_mul j (2 + C)).symm
    have hlen2 : j * (1 + C) + (1 + C) = (j + 1) * (1 + C) := (Nat.succ_mul j (1 + C)).symm
    have hr' : TriAt (appMu m row (l.length * 3) a [.int .i64 6, .int .i64 (q : Int), .int .i64 0, .int .i64 7, .int .i64 (q : Int), .int .i64 0]) a (l ++ hd4 q) := hr.append a (hd4 q)
    obtain ⟨m1, row1, lp1, ri1, lo1, hrow1, hrow1b⟩ := in53_4 h q row l.length a a0 C 0 (by omega) _ a (a + 1) _ (j * (1 + C) + s) hr' (by rw [List.length_append]; omega) (by simp [hd4]; omega) (by omega) (by omega)
    have ln : (l ++ hd4 q).length = l.length + 2 := by simp [hd4]
    rw [ln] at lp1
    obtain ⟨m2, row2, lp2, ri2, lo2, hrow2, hrow2b⟩ := out53_4 a0 C hC j (q + 1) (by omega) m1 row1 (a + 1 + C) _ s ri1 (by simp; omega) (by simp [hd4]; omega) hrow1 (by omega)
    refine ⟨m2, row2, ?_, by rw [blkS_succ]; simpa only [List.append_assoc] using ri2, (low_app h1 (by omega)).trans (lo1.trans lo2), hrow2, by omega⟩
    rw [List.length_append, ln, List.length_map, List.length_range'] at lp2
    have e1 : (j + 1) * (1 + C) + s = (C + (j * (1 + C) + s)) + 1 := by omega
    have lc : CodeOk Try.prog (codeAt [true, true, true, true, true, false, true, false, false, true, false, false, true, true, false] (Try.f53.body.getD .skip)) (L53_4i_1 n t r d b g row l.length (q : Int) a a (l.length + 2) 0 (appMu m row (l.length * 3) a [.int .i64 6, .int .i64 (q : Int), .int .i64 0, .int .i64 7, .int .i64 (q : Int), .int .i64 0]) false (offUse [a] (nms a ((C + (j * (1 + C) + s)) + 1)))) (.exit 14)
        (L53_4i_1 n t r d b g row l.length (q : Int) a row1 (l.length + 2 + C) 3 m1 false (nms (a + 1 + C) (j * (1 + C) + s))) := by
      rw [L53_4i_1_loop, off_one]
      exact lp1.code
    have st : CodeOk Try.prog (codeAt [true, true, true, true, true, false, true, false, false] (Try.f53.body.getD .skip)) (L53_4 n t r d b g row l.length (q : Int) m false (nms a ((C + (j * (1 + C) + s)) + 1))) .normal (L53_4 n t r d b g row1 (l.length + 2 + C) (IntKind.i64.wrap ((q : Int) + 1)) m1 false (nms (a + 1 + C) (j * (1 + C) + s))) :=
      L53_4_2 (decide_eq_true (by omega)) (decide_eq_true ⟨hl0, by omega, rfl⟩) hr.some (by rw [show [a] = nms a 1 from rfl]; exact all_nms (Nat.le_refl _) (by omega)) lc
    rw [show IntKind.i64.wrap ((q : Int) + 1) = ((q + 1 : Nat) : Int) by rw [wrap64 (by omega) (by omega)]; omega] at st
    rw [e1]
    rw [show l.length + 2 + C + j * (2 + C) = l.length + (j + 1) * (2 + C) by omega, show a + 1 + C + j * (1 + C) = a + (j + 1) * (1 + C) by omega] at lp2
    exact .step (P := Try.prog) @st lp2
theorem words53 (m : Mu) (a : Nat) : ∃ m' row, CallOk Try.prog 53 [pl n t r d b g] m (.vec row 0 (sorts n t r d b).length 3) m' false (nms a (nSo n t r d b)) ∧ TriAt m' row (sorts n t r d b) ∧ Low a m m' ∧ a ≤ row ∧ row < a + nSo n t r d b := by
  have hn := h.hn; have ht := h.ht; have hd := h.hd; have hc := h.cl; have hr := h.hr
  unfold sorts nSo
  obtain ⟨N, hN⟩ : ∃ N : Nat, n.toNat = N := ⟨_, rfl⟩
  obtain ⟨D, hD⟩ : ∃ D : Nat, d.toNat = D := ⟨_, rfl⟩
  obtain ⟨T, hT⟩ : ∃ T : Nat, t.toNat = T := ⟨_, rfl⟩
  obtain ⟨R, hR⟩ : ∃ R : Nat, r.toNat = R := ⟨_, rfl⟩
  obtain ⟨C, hC⟩ : ∃ C : Nat, (cl b).toNat = C := ⟨_, rfl⟩
  rw [hN, hD, hT, hR, hC]
  have b1 : D * (1 + C) ≤ 66 := Nat.le_trans (Nat.mul_le_mul (show D ≤ 6 by omega) (show 1 + C ≤ 11 by omega)) (by omega)
  have b2 : T * (1 + R) ≤ 656 := Nat.le_trans (Nat.mul_le_mul (show T ≤ 16 by omega) (show 1 + R ≤ 41 by omega)) (by omega)
  have r0 : TriAt (updMu m a 0 [.int .i64 0, .int .i64 0, .int .i64 0]) a [(0, 0, 0)] := fun o v hv => by
    rw [updMu_get]
    have hlt := (List.getElem?_eq_some_iff.1 hv).1
    simp only [c3, List.length_cons, List.length_nil] at hlt
    rw [if_pos ⟨rfl, by omega, by simp; omega⟩]
    exact hv
  have low0 : Low a m (updMu m a 0 [.int .i64 0, .int .i64 0, .int .i64 0]) := fun c hc o => by rw [updMu_get, if_neg (by omega)]
  have n1 : ([(0, 0, 0)] ++ blkS hd1 2 C 0 D).length = 1 + D * (1 + C) := by rw [List.length_append, blkS_len hd1 1 (fun _ => rfl)]; rfl
  have n2 : ([(0, 0, 0)] ++ blkS hd1 2 C 0 D ++ blkS hd2 3 3 0 T).length = 1 + D * (1 + C) + T * (0 + 3) := by rw [List.length_append, n1, blkS_len hd2 0 (fun _ => rfl)]
  have n3 : ([(0, 0, 0)] ++ blkS hd1 2 C 0 D ++ blkS hd2 3 3 0 T ++ blkS hd3 5 R 0 T).length = 1 + D * (1 + C) + T * (0 + 3) + T * (1 + R) := by rw [List.length_append, n2, blkS_len hd3 1 (fun _ => rfl)]
  have n4 : ([(0, 0, 0)] ++ blkS hd1 2 C 0 D ++ blkS hd2 3 3 0 T ++ blkS hd3 5 R 0 T ++ blkS hd4 8 3 0 N).length = 1 + D * (1 + C) + T * (0 + 3) + T * (1 + R) + N * (2 + 3) := by rw [List.length_append, n3, blkS_len hd4 2 (fun _ => rfl)]
  obtain ⟨m1, row1, lp1, ri1, lo1, hr1, hr1b⟩ := out53_1 h a C (by omega) D 0 (by omega) _ a (a + 1) [(0, 0, 0)] (T * (0 + 3) + (T * (1 + R) + (N * (1 + 3) + 0))) r0 (by simp) (by simp; omega) (Nat.le_refl _) (by omega)
  obtain ⟨m2, row2, lp2, ri2, lo2, hr2, hr2b⟩ := out53_2 h a 3 (by omega) T 0 (by omega) m1 row1 (a + 1 + D * (1 + C)) _ (T * (1 + R) + (N * (1 + 3) + 0)) ri1 (by simp) (by rw [n1]; omega) hr1 (by omega)
  obtain ⟨m3, row3, lp3, ri3, lo3, hr3, hr3b⟩ := out53_3 h a R (by omega) T 0 (by omega) m2 row2 (a + 1 + D * (1 + C) + T * (0 + 3)) _ (N * (1 + 3) + 0) ri2 (by simp) (by rw [n2]; omega) hr2 (by omega)
  obtain ⟨m4, row4, lp4, ri4, lo4, hr4, hr4b⟩ := out53_4 h a 3 (by omega) N 0 (by omega) m3 row3 (a + 1 + D * (1 + C) + T * (0 + 3) + T * (1 + R)) _ 0 ri3 (by simp) (by rw [n3]; omega) hr3 (by omega)
  rw [n1] at lp2
  rw [n2] at lp3
  rw [n3] at lp4
  refine ⟨m4, row4, ?_, ri4, low0.trans (lo1.trans (lo2.trans (lo3.trans lo4))), hr4, by omega⟩
  rw [n4]
  have e2 : 1 + (D * (1 + C) + (T * (0 + 3) + (T * (1 + R) + N * (1 + 3)))) = (D * (1 + C) + (T * (0 + 3) + (T * (1 + R) + (N * (1 + 3) + 0)))) + 1 := by omega
  rw [e2]
  have q1 : CodeOk Try.prog (codeAt [true, true, false, true, false] (Try.f53.body.getD .skip)) (L53_1 n t r d b g a 1 0 (updMu m a 0 [.int .i64 0, .int .i64 0, .int .i64 0]) false (offUse [a] (nms a ((D * (1 + C) + (T * (0 + 3) + (T * (1 + R) + (N * (1 + 3) + 0)))) + 1)))) (.exit 0) (L53_1 n t r d b g row1 (1 + D * (1 + C)) d m1 false (nms (a + 1 + D * (1 + C)) (T * (0 + 3) + (T * (1 + R) + (N * (1 + 3) + 0))))) := by
    rw [L53_1_loop, off_one]; exact lp1.code
  have q2 : CodeOk Try.prog (codeAt [true, true, true, false, true, false] (Try.f53.body.getD .skip)) (L53_2 n t r d b g row1 (1 + D * (1 + C)) 0 m1 false (nms (a + 1 + D * (1 + C)) (T * (0 + 3) + (T * (1 + R) + (N * (1 + 3) + 0))))) (.exit 4) (L53_2 n t r d b g row2 (1 + D * (1 + C) + T * (0 + 3)) t m2 false (nms (a + 1 + D * (1 + C) + T * (0 + 3)) (T * (1 + R) + (N * (1 + 3) + 0)))) := by
    rw [L53_2_loop]; exact lp2.code
  have q3 : CodeOk Try.prog (codeAt [true, true, true, true, false, true, false] (Try.f53.body.getD .skip)) (L53_3 n t r d b g row2 (1 + D * (1 + C) + T * (0 + 3)) 0 m2 false (nms (a + 1 + D * (1 + C) + T * (0 + 3)) (T * (1 + R) + (N * (1 + 3) + 0)))) (.exit 8) (L53_3 n t r d b g row3 (1 + D * (1 + C) + T * (0 + 3) + T * (1 + R)) t m3 false (nms (a + 1 + D * (1 + C) + T * (0 + 3) + T * (1 + R)) (N * (1 + 3) + 0))) := by
    rw [L53_3_loop]; exact lp3.code
  have q4 : CodeOk Try.prog (codeAt [true, true, true, true, true, false, true, false] (Try.f53.body.getD .skip)) (L53_4 n t r d b g row3 (1 + D * (1 + C) + T * (0 + 3) + T * (1 + R)) 0 m3 false (nms (a + 1 + D * (1 + C) + T * (0 + 3) + T * (1 + R)) (N * (1 + 3) + 0))) (.exit 12) (L53_4 n t r d b g row4 (1 + D * (1 + C) + T * (0 + 3) + T * (1 + R) + N * (2 + 3)) n m4 false (nms (a + 1 + D * (1 + C) + T * (0 + 3) + T * (1 + R) + N * (1 + 3)) 0)) := by
    rw [L53_4_loop]; exact lp4.code
  exact f53_1 (F := nms a ((D * (1 + C) + (T * (0 + 3) + (T * (1 + R) + (N * (1 + 3) + 0)))) + 1)) (by rw [show [a] = nms a 1 from rfl]; exact all_nms (Nat.le_refl _) (by omega)) q1 q2 q3 q4
end
end Go.Proofs.Ytkhjkfbgcpjphaa.Fun
