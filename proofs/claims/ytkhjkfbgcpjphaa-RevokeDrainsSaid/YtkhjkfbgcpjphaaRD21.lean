/- A region's words as a row; the list of free nodes as a row; rows compared. -/
import Derived.Test.YtkhjkfbgcpjphaaRD20
namespace Go.Proofs.Ytkhjkfbgcpjphaa.Fun
open Go Go.Proofs.Ytkhjkfbgcpjphaa.Fun.B
set_option linter.unusedVariables false
theorem peek52 {m : Mu} {mb lb len i : Nat} {R : Reg} (h : HasReg m mb lb len i R) {a : Int} (h0 : 0 ≤ a) (h1 : a < R.n) : CallOk Try.prog 52 [.adr mb 0, .int .i64 i, .int .i64 a] m (.int .u64 (R.w a.toNat)) m false [] :=
  f52_1 (decide_eq_false (by omega)) (sizeOk h) (decide_eq_false (by omega)) h.l (decide_eq_true (by have := h.lt; omega)) (by simpa using h.at_) h.ws (decide_eq_true (by omega)) (by rw [Nat.zero_add, Nat.mul_one]; exact h.w _ (by omega))
/-- A region's words, whole. -/
theorem w22 {mb lb len : Nat} {R : Reg} (a : Nat) (l1 : mb < a) (l2 : lb < a) (l3 : R.rb < a) (l4 : R.wb < a) (hn : R.n < 1000000) : ∀ (j k : Nat), 1 ≤ k → k + j = R.n → ∀ mk : Mu, HasReg mk mb lb len 0 R → (∀ o, o < k → mk (a + k - 1) o = some (.int .u64 (R.w o))) →
    ∃ m', LoopOk Try.prog (codeAt [true, true, false, true, false, false] (Try.f22.body.getD .skip)) (L22_1 mb (.vec (a + k - 1) 0 k 1) (k : Int) mk false (nms (a + k) j)) (.exit 0) (L22_1 mb (.vec (a + R.n - 1) 0 R.n 1) (R.n : Int) m' false (nms (a + R.n) 0)) ∧
      (∀ o, o < R.n → m' (a + R.n - 1) o = some (.int .u64 (R.w o))) ∧ Low a mk m'
  | 0, k, hk, hkj, mk, hR, hrow => by
    obtain rfl : k = R.n := by omega
    refine ⟨mk, .last (by simp) (L22_1_1 (sizeOk hR) (decide_eq_false (by omega))), hrow, .refl a mk⟩
  | j + 1, k, hk, hkj, mk, hR, hrow => by
    have hw : IntKind.i64.wrap ((k : Int) + 1) = ((k + 1 : Nat) : Int) := by rw [wrap64 (by omega) (by omega)]; omega
    let m1 := appMu mk (a + k - 1) (k * 1) (a + k) [.int .u64 (R.w k)]
    have low : Low a mk m1 := fun c hc o => appMu_low (by omega) (by omega) o
    have row1 : ∀ o, o < k + 1 → m1 (a + k) o = some (.int .u64 (R.w o)) := fun o ho => by
      show appMu _ _ _ _ _ _ _ = _
      rw [appMu_at]
      by_cases hok : o < k
      · rw [if_pos (by omega)]; exact hrow o hok
      · obtain rfl : o = k := by omega
        rw [if_neg (by omega)]; simp
    obtain ⟨m', hl, hr, lw⟩ := w22 a l1 l2 l3 l4 hn j (k + 1) (by omega) (by omega) m1 (hR.low low l1 l2 l3 l4) (by rw [show a + (k + 1) - 1 = a + k by omega]; exact row1)
    refine ⟨m', .step (s1 := L22_1 mb (.vec (a + (k + 1) - 1) 0 (k + 1) 1) ((k + 1 : Nat) : Int) m1 false (nms (a + (k + 1)) j)) ?_ hl, hr, low.trans lw⟩
    have hp := peek52 hR (a := (k : Int)) (by omega) (by omega)
    rw [Int.toNat_natCast] at hp
    have this : CodeOk Try.prog (codeAt [true, true, false, true, false, false] (Try.f22.body.getD .skip)) (L22_1 mb (.vec (a + k - 1) 0 k 1) (k : Int) mk false (nms (a + k) (j + 1))) .normal (L22_1 mb (.vec (a + k) 0 (k + 1) 1) (IntKind.i64.wrap ((k : Int) + 1)) m1 false (offUse [a + k] (nms (a + k) (j + 1)))) :=
      L22_1_2 (sizeOk hR) (decide_eq_true (by omega)) hp (decide_eq_true ⟨by omega, by omega, rfl⟩) (List.all_eq_true.2 fun o ho => by rw [hrow o (by simpa using ho)]; rfl)
        (by rw [show [a + k] = nms (a + k) 1 from rfl]; exact all_nms (Nat.le_refl _) (by omega))
    rw [hw, off_one] at this
    rw [show a + (k + 1) - 1 = a + k by omega, show a + (k + 1) = a + k + 1 by omega]
    exact @this
theorem words22 {m : Mu} {mb lb len : Nat} {R : Reg} (hR : HasReg m mb lb len 0 R) (a : Nat) (l1 : mb < a) (l2 : lb < a) (l3 : R.rb < a) (l4 : R.wb < a) (h1 : 1 ≤ R.n) (hn : R.n < 1000000) :
    ∃ m' row, CallOk Try.prog 22 [.adr mb 0] m (.vec row 0 R.n 1) m' false (nms a R.n) ∧ (∀ o, o < R.n → m' row o = some (.int .u64 (R.w o))) ∧ Low a m m' ∧ a ≤ row ∧ row < a + R.n := by
  obtain ⟨j, hj⟩ : ∃ j, R.n = j + 1 := ⟨R.n - 1, by omega⟩
  let m1 := appMu m a 0 a [.int .u64 (R.w 0)]
  have low : Low a m m1 := fun c hc o => appMu_low (by omega) (by omega) o
  obtain ⟨m', hl, hr, lw⟩ := w22 a l1 l2 l3 l4 hn j 1 (Nat.le_refl _) (by omega) m1 (hR.low low l1 l2 l3 l4) (fun o ho => by
    obtain rfl : o = 0 := by omega
    show appMu _ _ _ _ _ _ _ = _
    rw [show a + 1 - 1 = a from rfl, appMu_at, if_neg (by omega)]; rfl)
  have hp := peek52 hR (a := 0) (by omega) (by omega)
  have s1 : CodeOk Try.prog (codeAt [true, true, false, true, false, false] (Try.f22.body.getD .skip)) (L22_1 mb .nils 0 m false (nms a (j + 1))) .normal (L22_1 mb (.vec a 0 1 1) (IntKind.i64.wrap (0 + 1)) m1 false (offUse [a] (nms a (j + 1)))) :=
    L22_1_4 (sizeOk hR) (decide_eq_true (by omega)) hp (by rw [show [a] = nms a 1 from rfl]; exact all_nms (Nat.le_refl _) (by omega))
  rw [off_one] at s1
  have lp : CodeOk Try.prog (codeAt [true, true, false, true, false] (Try.f22.body.getD .skip)) (L22_1 mb .nils 0 m false (nms a (j + 1))) (.exit 0) (L22_1 mb (.vec (a + R.n - 1) 0 R.n 1) (R.n : Int) m' false (nms (a + R.n) 0)) := by
    rw [L22_1_loop]
    exact (LoopOk.step (P := Try.prog) @s1 hl).code
  rw [← hj] at lp
  exact ⟨m', a + R.n - 1, f22_1 lp, hr, low.trans lw, by omega, by omega⟩
/-- Two rows of words that are one. -/
theorem same24 {m : Mu} {x y n : Nat} (v : Nat → Int) (hn : n < 1000000) (hx : ∀ o, o < n → m x o = some (.int .u64 (v o))) (hy : ∀ o, o < n → m y o = some (.int .u64 (v o))) : CallOk Try.prog 24 [.vec x 0 n 1, .vec y 0 n 1] m (.bool true) m false [] := by
  have go : ∀ (j k : Nat), k + j = n → LoopOk Try.prog (codeAt [true, true, false, true, false, false] (Try.f24.body.getD .skip)) (L24_1 x 0 n y 0 n false (k : Int) m false) (.exit 0) (L24_1 x 0 n y 0 n false (n : Int) m false) := by
    intro j
    induction j with
    | zero =>
      intro k hk
      obtain rfl : k = n := by omega
      exact .last (by simp) (L24_1_1 (decide_eq_false (by omega)))
    | succ j ih =>
      intro k hk
      have hw : IntKind.i64.wrap ((k : Int) + 1) = ((k + 1 : Nat) : Int) := by rw [wrap64 (by omega) (by omega)]; omega
      refine .step (s1 := L24_1 x 0 n y 0 n false ((k + 1 : Nat) : Int) m false) ?_ (ih (k + 1) (by omega))
      have this : CodeOk Try.prog (codeAt [true, true, false, true, false, false] (Try.f24.body.getD .skip)) (L24_1 x 0 n y 0 n false (k : Int) m false) .normal (L24_1 x 0 n y 0 n false (IntKind.i64.wrap ((k : Int) + 1)) m false) :=
        L24_1_2 (v0 := v k) (v1 := v k) (decide_eq_true (by omega)) (decide_eq_true (by omega)) (by rw [Nat.zero_add, Nat.mul_one, Int.toNat_natCast]; exact hx k (by omega)) (decide_eq_true (by omega)) (by rw [Nat.zero_add, Nat.mul_one, Int.toNat_natCast]; exact hy k (by omega)) (by simp)
      rw [hw] at this
      exact @this
  have lp := go n 0 (by omega)
  refine f24_1 (z1_t4 := false) (z1_t5 := (n : Int)) (by simp) ?_
  rw [L24_1_loop]
  exact lp.code
/-- A row of whole numbers, or nil where there are none. -/
def IntsAt (m : Mu) (a : Nat) (l : List Int) (dv : DV) : Prop := (l = [] ∧ dv = .nils) ∨ (l ≠ [] ∧ ∃ row, dv = .vec row 0 l.length 1 ∧ a ≤ row ∧ row < a + l.length ∧ ∀ (j : Nat) (x : Int), l[j]? = some x → m row j = some (.int .i64 x))
theorem IntsAt.keep {m m' : Mu} {a : Nat} {l : List Int} {dv : DV} (h : IntsAt m a l dv) (hk : ∀ c, a ≤ c → c < a + l.length → ∀ o, m' c o = m c o) : IntsAt m' a l dv := by
  rcases h with h | ⟨h1, row, h2, h3, h4, h5⟩
  · exact .inl h
  · exact .inr ⟨h1, row, h2, h3, h4, fun j x hj => by rw [hk row h3 h4]; exact h5 j x hj⟩
theorem same26 {m : Mu} {a b : Nat} {l : List Int} {d e : DV} (hn : l.length < 1000000) (hd : IntsAt m a l d) (he : IntsAt m b l e) : CallOk Try.prog 26 [d, e] m (.bool true) m false [] := by
  rcases hd with ⟨rfl, rfl⟩ | ⟨hne, x, rfl, _, _, hx⟩
  · rcases he with ⟨_, rfl⟩ | ⟨hne, _⟩
    · refine f26_7 (z1_t4 := false) (z1_t5 := 0) ?_
      rw [L26n0n1_1_loop]
      exact (LoopOk.last (P := Try.prog) (by simp) (L26n0n1_1_1 rfl)).code
    · exact absurd rfl hne
  · rcases he with ⟨h0, _⟩ | ⟨_, y, rfl, _, _, hy⟩
    · exact absurd h0 hne
    · obtain ⟨n, hln⟩ : ∃ n, l.length = n := ⟨_, rfl⟩
      have hx : ∀ o, o < n → ∃ v, m x o = some (.int .i64 v) ∧ m y o = some (.int .i64 v) := fun o ho => ⟨l[o], hx o _ (List.getElem?_eq_getElem (by omega)), hy o _ (List.getElem?_eq_getElem (by omega))⟩
      rw [hln]
      have go : ∀ (j k : Nat), k + j = n → LoopOk Try.prog (codeAt [true, true, false, true, false, false] (Try.f26.body.getD .skip)) (L26_1 x 0 n y 0 n false (k : Int) m false) (.exit 0) (L26_1 x 0 n y 0 n false (n : Int) m false) := by
        intro j
        induction j with
        | zero =>
          intro k hk
          obtain rfl : k = n := by omega
          exact .last (by simp) (L26_1_1 (decide_eq_false (by omega)))
        | succ j ih =>
          intro k hk
          have hw : IntKind.i64.wrap ((k : Int) + 1) = ((k + 1 : Nat) : Int) := by rw [wrap64 (by omega) (by omega)]; omega
          obtain ⟨v, h1, h2⟩ := hx k (by omega)
          refine .step (s1 := L26_1 x 0 n y 0 n false ((k + 1 : Nat) : Int) m false) ?_ (ih (k + 1) (by omega))
          have this : CodeOk Try.prog (codeAt [true, true, false, true, false, false] (Try.f26.body.getD .skip)) (L26_1 x 0 n y 0 n false (k : Int) m false) .normal (L26_1 x 0 n y 0 n false (IntKind.i64.wrap ((k : Int) + 1)) m false) :=
            L26_1_2 (v0 := v) (v1 := v) (decide_eq_true (by omega)) (decide_eq_true (by omega)) (by rw [Nat.zero_add, Nat.mul_one, Int.toNat_natCast]; exact h1) (decide_eq_true (by omega)) (by rw [Nat.zero_add, Nat.mul_one, Int.toNat_natCast]; exact h2) (by simp)
          rw [hw] at this
          exact @this
      have lp := go n 0 (by omega)
      refine f26_1 (z1_t4 := false) (z1_t5 := (n : Int)) (by simp) ?_
      rw [L26_1_loop]
      exact lp.code
/-- The list of free nodes, from a link's word on. -/
def listW (n nd : Int) (w : Nat → Int) : Nat → Int → List Int
  | 0, _ => []
  | f + 1, x => if 0 < x ∧ x ≤ n then (x - 1) :: listW n nd w f (w (nd + (x - 1) * 5 + 1).toNat) else []
theorem listW_len (n nd : Int) (w : Nat → Int) : ∀ (f : Nat) (x : Int), (listW n nd w f x).length ≤ f
  | 0, _ => by simp [listW]
  | f + 1, x => by
    simp only [listW]
    split
    · have := listW_len n nd w f (w (nd + (x - 1) * 5 + 1).toNat); simp; omega
    · simp
theorem node59 (w : Int) (m : Mu) : CallOk Try.prog 59 [.agg [.int .i64 0, .int .i64 21], .int .u64 w] m (.int .u64 (IntKind.u64.wrap (BitVec.ofInt IntKind.u64.bits (Int.fdiv w (2 ^ (min (0 : Int).toNat IntKind.u64.bits))) &&& BitVec.ofInt IntKind.u64.bits 2097151).toNat)) m false [] :=
  callOk_sdeep (deep_ok Auto.tabOk mixed Auto.fnsOk 1000 30) (sc := []) (obs := []) (by kernel_rfl) obs_nil rfl rfl m
section
variable {n t r d b g : Int} (h : PF n t r d b g)
include h
theorem l25 {mb lb len : Nat} {R : Reg} (a : Nat) (l1 : mb < a) (l2 : lb < a) (l3 : R.rb < a) (l4 : R.wb < a) (hsz : (R.n : Int) = szP n t r d b) : ∀ (f k : Nat), 1 ≤ k → ((k + f : Nat) : Int) = n → ∀ (x : Int) (mk : Mu) (pre : List Int), pre.length = k → HasReg mk mb lb len 0 R → (∀ (j : Nat) (v : Int), pre[j]? = some v → mk (a + k - 1) j = some (.int .i64 v)) →
    ∃ m' x' fr, LoopOk Try.prog (codeAt [true, true, true, false, false, false] (Try.f25.body.getD .skip)) (L25_1 n t r d b g mb 0 (.vec (a + k - 1) 0 k 1) x mk false (nms (a + k) f)) (.exit 0) (L25_1 n t r d b g mb 0 (.vec (a + (k + (listW n (ndP t r d b) R.w f x).length) - 1) 0 (k + (listW n (ndP t r d b) R.w f x).length) 1) x' m' false fr) ∧
      (∀ (j : Nat) (v : Int), (pre ++ listW n (ndP t r d b) R.w f x)[j]? = some v → m' (a + (k + (listW n (ndP t r d b) R.w f x).length) - 1) j = some (.int .i64 v)) ∧ Low a mk m'
  | 0, k, hk, hkf, x, mk, pre, hpre, hR, hrow => by
    refine ⟨mk, x, nms (a + k) 0, .last (by simp) (L25_1_1 (decide_eq_false (by omega))), ?_, .refl a mk⟩
    simp only [listW, List.length_nil, Nat.add_zero, List.append_nil]
    exact hrow
  | f + 1, k, hk, hkf, x, mk, pre, hpre, hR, hrow => by
    have hn := h.hn; have hnd := h.nd; have hct := h.ct; have hhz := h.hz
    have hun : IntKind.u64.wrap n = n := wrapu_of ⟨by omega, by omega⟩
    by_cases h0 : 0 < x
    rotate_left
    · have e : listW n (ndP t r d b) R.w (f + 1) x = [] := by simp only [listW]; rw [if_neg (by omega)]
      rw [e]
      refine ⟨mk, x, nms (a + k) (f + 1), .last (by simp) (L25_1_2 (decide_eq_true (by omega)) (decide_eq_false h0)), ?_, .refl a mk⟩
      simp only [List.length_nil, Nat.add_zero, List.append_nil]
      exact hrow
    by_cases h1 : x ≤ n
    rotate_left
    · have e : listW n (ndP t r d b) R.w (f + 1) x = [] := by simp only [listW]; rw [if_neg (by omega)]
      rw [e]
      refine ⟨mk, x, nms (a + k) (f + 1), .last (by simp) (L25_1_3 (decide_eq_true (by omega)) (decide_eq_true h0) (by rw [hun]; exact decide_eq_false h1)), ?_, .refl a mk⟩
      simp only [List.length_nil, Nat.add_zero, List.append_nil]
      exact hrow
    have e : listW n (ndP t r d b) R.w (f + 1) x = (x - 1) :: listW n (ndP t r d b) R.w f (R.w (ndP t r d b + (x - 1) * 5 + 1).toNat) := by simp only [listW]; rw [if_pos ⟨h0, h1⟩]
    rw [e]
    have hx : IntKind.i64.wrap (IntKind.i64.wrap x - 1) = x - 1 := by rw [wrap64 (x := x) (by omega) (by omega), wrap64 (by omega) (by omega)]
    let m1 := appMu mk (a + k - 1) (k * 1) (a + k) [.int .i64 (x - 1)]
    have low : Low a mk m1 := fun c hc o => appMu_low (by omega) (by omega) o
    have hR1 := hR.low low l1 l2 l3 l4
    have row1 : ∀ (j : Nat) (v : Int), (pre ++ [x - 1])[j]? = some v → m1 (a + (k + 1) - 1) j = some (.int .i64 v) := fun j v hj => by
      show appMu _ _ _ _ _ _ _ = _
      rw [show a + (k + 1) - 1 = a + k by omega, appMu_at]
      by_cases hjk : j < k
      · rw [if_pos (by omega)]
        rw [List.getElem?_append_left (by omega)] at hj
        exact hrow j v hj
      · rw [if_neg (by omega)]
        rw [List.getElem?_append_right (by omega), hpre] at hj
        have : j = k := by
          have := (List.getElem?_eq_some_iff.1 hj).1
          simp at this; omega
        subst this
        simp at hj
        subst hj
        simp
    obtain ⟨m', x', fr, hl, hr, lw⟩ := l25 a l1 l2 l3 l4 hsz f (k + 1) (by omega) (by omega) (R.w (ndP t r d b + (x - 1) * 5 + 1).toNat) m1 (pre ++ [x - 1]) (by simp [hpre]) hR1 row1
    refine ⟨m', x', fr, .step (s1 := L25_1 n t r d b g mb 0 (.vec (a + (k + 1) - 1) 0 (k + 1) 1) (R.w (ndP t r d b + (x - 1) * 5 + 1).toNat) m1 false (nms (a + (k + 1)) f)) ?_ ?_, ?_, low.trans lw⟩
    · have hp := peek52 hR1 (a := ndP t r d b + (x - 1) * 5 + 1) (by omega) (by unfold szP at hsz; omega)
      have hnx := next61 h (k := x - 1) (by omega) (by omega) m1
      have this : CodeOk Try.prog (codeAt [true, true, true, false, false, false] (Try.f25.body.getD .skip)) (L25_1 n t r d b g mb 0 (.vec (a + k - 1) 0 k 1) x mk false (nms (a + k) (f + 1))) .normal (L25_1 n t r d b g mb 0 (.vec (a + k) 0 (k + 1) 1) (R.w (ndP t r d b + (x - 1) * 5 + 1).toNat) (appMu mk (a + k - 1) (k * 1) (a + k) [.int .i64 (IntKind.i64.wrap (IntKind.i64.wrap x - 1))]) false (offUse [a + k] (nms (a + k) (f + 1)))) :=
        L25_1_4 (r0 := ndP t r d b + (x - 1) * 5 + 1) (decide_eq_true (by omega)) (decide_eq_true h0) (by rw [hun]; exact decide_eq_true h1) (decide_eq_true ⟨by omega, by omega, rfl⟩) (List.all_eq_true.2 fun o ho => by
          have ho : o < k := by simpa using ho
          rw [hrow o (pre[o]'(by omega)) (List.getElem?_eq_getElem (by omega))]; rfl) (by rw [show [a + k] = nms (a + k) 1 from rfl]; exact all_nms (Nat.le_refl _) (by omega)) (by rw [hx]; exact hnx) (by rw [hx]; exact hp)
      rw [hx] at this
      rw [off_one] at this
      rw [show a + (k + 1) - 1 = a + k by omega, show a + (k + 1) = a + k + 1 by omega]
      exact @this
    · rw [List.length_cons, show k + ((listW n (ndP t r d b) R.w f (R.w (ndP t r d b + (x - 1) * 5 + 1).toNat)).length + 1) = k + 1 + (listW n (ndP t r d b) R.w f (R.w (ndP t r d b + (x - 1) * 5 + 1).toNat)).length by omega]
      exact hl
    · intro j v hj
      rw [List.length_cons, show k + ((listW n (ndP t r d b) R.w f (R.w (ndP t r d b + (x - 1) * 5 + 1).toNat)).length + 1) = k + 1 + (listW n (ndP t r d b) R.w f (R.w (ndP t r d b + (x - 1) * 5 + 1).toNat)).length by omega]
      exact hr j v (by simpa using hj)
/-- free.List. -/
theorem list25 {m : Mu} {mb lb len : Nat} {R : Reg} (hR : HasReg m mb lb len 0 R) (a : Nat) (l1 : mb < a) (l2 : lb < a) (l3 : R.rb < a) (l4 : R.wb < a) (hsz : (R.n : Int) = szP n t r d b) (hw0 : Wd (R.w 0)) :
    ∃ m' dv, CallOk Try.prog 25 [pl n t r d b g, .adr mb 0, .int .i64 0] m dv m' false (nms a n.toNat) ∧ IntsAt m' a (listW n (ndP t r d b) R.w n.toNat (R.w 0 % 2097152)) dv ∧ Low a m m' := by
  have hn := h.hn; have hnd := h.nd; have hct := h.ct; have hhz := h.hz
  have hun : IntKind.u64.wrap n = n := wrapu_of ⟨by omega, by omega⟩
  have hp := peek52 hR (a := 0) (by omega) (by unfold szP at hsz; omega)
  have hnode := node59 (R.w 0) m
  rw [show Int.fdiv (R.w 0) (2 ^ (min (0 : Int).toNat IntKind.u64.bits)) = R.w 0 by have := shr_min (R.w 0) 0 (by omega); simp at this ⊢, and_low hw0 21 (by omega) _ (by decide)] at hnode
  obtain ⟨x, hx⟩ : ∃ x, R.w 0 % 2097152 = x := ⟨_, rfl⟩
  rw [show R.w 0 % 2 ^ 21 = x from hx] at hnode
  rw [hx]
  obtain ⟨f, hf⟩ : ∃ f, n.toNat = f + 1 := ⟨n.toNat - 1, by omega⟩
  rw [hf]
  by_cases h0 : 0 < x
  rotate_left
  · refine ⟨m, .nils, f25_2 (z1_t8 := x) (z1_m := m) (z1_d := false) (z1_fr := nms a (f + 1)) (d58_1 m) (head60 h m) hp hnode ?_, .inl ⟨by simp only [listW]; rw [if_neg (by omega)], rfl⟩, .refl a m⟩
    rw [L25_1_loop]
    exact (LoopOk.last (P := Try.prog) (by simp) (L25_1_6 (decide_eq_true (by omega)) (decide_eq_false h0))).code
  by_cases h1 : x ≤ n
  rotate_left
  · refine ⟨m, .nils, f25_2 (z1_t8 := x) (z1_m := m) (z1_d := false) (z1_fr := nms a (f + 1)) (d58_1 m) (head60 h m) hp hnode ?_, .inl ⟨by simp only [listW]; rw [if_neg (by omega)], rfl⟩, .refl a m⟩
    rw [L25_1_loop]
    exact (LoopOk.last (P := Try.prog) (by simp) (L25_1_7 (decide_eq_true (by omega)) (decide_eq_true h0) (by rw [hun]; exact decide_eq_false h1))).code
  have e : listW n (ndP t r d b) R.w (f + 1) x = (x - 1) :: listW n (ndP t r d b) R.w f (R.w (ndP t r d b + (x - 1) * 5 + 1).toNat) := by simp only [listW]; rw [if_pos ⟨h0, h1⟩]
  rw [e]
  have hx' : IntKind.i64.wrap (IntKind.i64.wrap x - 1) = x - 1 := by rw [wrap64 (x := x) (by omega) (by omega), wrap64 (by omega) (by omega)]
  let m1 := appMu m a 0 a [.int .i64 (x - 1)]
  have low : Low a m m1 := fun c hc o => appMu_low (by omega) (by omega) o
  have hR1 := hR.low low l1 l2 l3 l4
  obtain ⟨m', x', fr, hl, hr, lw⟩ := l25 h a l1 l2 l3 l4 hsz f 1 (Nat.le_refl _) (by omega) (R.w (ndP t r d b + (x - 1) * 5 + 1).toNat) m1 [x - 1] rfl hR1 (fun j v hj => by
    have : j = 0 := by
      have := (List.getElem?_eq_some_iff.1 hj).1
      simp at this; omega
    subst this
    simp at hj
    subst hj
    show appMu _ _ _ _ _ _ _ = _
    rw [show a + 1 - 1 = a from rfl, appMu_at, if_neg (by omega)]; rfl)
  have s1 : CodeOk Try.prog (codeAt [true, true, true, false, false, false] (Try.f25.body.getD .skip)) (L25_1 n t r d b g mb 0 .nils x m false (nms a (f + 1))) .normal (L25_1 n t r d b g mb 0 (.vec a 0 1 1) (R.w (ndP t r d b + (x - 1) * 5 + 1).toNat) m1 false (offUse [a] (nms a (f + 1)))) := by
    have hp1 := peek52 hR1 (a := ndP t r d b + (x - 1) * 5 + 1) (by omega) (by unfold szP at hsz; omega)
    have hnx := next61 h (k := x - 1) (by omega) (by omega) m1
    have this : CodeOk Try.prog (codeAt [true, true, true, false, false, false] (Try.f25.body.getD .skip)) (L25_1 n t r d b g mb 0 .nils x m false (nms a (f + 1))) .normal (L25_1 n t r d b g mb 0 (.vec a 0 1 1) (R.w (ndP t r d b + (x - 1) * 5 + 1).toNat) (appMu m a 0 a [.int .i64 (IntKind.i64.wrap (IntKind.i64.wrap x - 1))]) false (offUse [a] (nms a (f + 1)))) :=
      L25_1_8 (r0 := ndP t r d b + (x - 1) * 5 + 1) (decide_eq_true (by omega)) (decide_eq_true h0) (by rw [hun]; exact decide_eq_true h1) (by rw [show [a] = nms a 1 from rfl]; exact all_nms (Nat.le_refl _) (by omega)) (by rw [hx']; exact hnx) (by rw [hx']; exact hp1)
    rw [hx'] at this
    exact @this
  rw [off_one] at s1
  have lp : CodeOk Try.prog (codeAt [true, true, true, false, false] (Try.f25.body.getD .skip)) (L25_1 n t r d b g mb 0 .nils x m false (nms a (f + 1))) (.exit 0) (L25_1 n t r d b g mb 0 (.vec (a + (1 + (listW n (ndP t r d b) R.w f (R.w (ndP t r d b + (x - 1) * 5 + 1).toNat)).length) - 1) 0 (1 + (listW n (ndP t r d b) R.w f (R.w (ndP t r d b + (x - 1) * 5 + 1).toNat)).length) 1) x' m' false fr) := by
    rw [L25_1_loop]
    exact (LoopOk.step (P := Try.prog) @s1 hl).code
  refine ⟨m', _, f25_1 (d58_1 m) (head60 h m) hp hnode lp, .inr ⟨by simp, a + (1 + (listW n (ndP t r d b) R.w f (R.w (ndP t r d b + (x - 1) * 5 + 1).toNat)).length) - 1, by rw [List.length_cons]; congr 1; omega, by omega, by rw [List.length_cons]; omega, hr⟩, low.trans lw⟩
end
end Go.Proofs.Ytkhjkfbgcpjphaa.Fun
