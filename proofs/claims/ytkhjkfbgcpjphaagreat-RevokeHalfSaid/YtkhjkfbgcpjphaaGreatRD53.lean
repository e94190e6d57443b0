/- Run, of a good program, on a region: what it leaves hangs on the words alone. -/
import Derived.Test.YtkhjkfbgcpjphaaGreatRD51
namespace Go.Proofs.YtkhjkfbgcpjphaaGreat.Fun
open Go Go.Proofs.YtkhjkfbgcpjphaaGreat.Fun.B
set_option linter.unusedVariables false
theorem regCount {m : Mu} {mb lb len i : Nat} {R : Reg} (h : HasReg m mb lb len i R) (c : Int) : HasReg (updMu m mb 1 [.int .i64 c]) mb lb len i R ∧ Far mb R.wb m (updMu m mb 1 [.int .i64 c]) := by
  have far : ∀ b, b ≠ mb → ∀ o, (updMu m mb 1 [.int .i64 c]) b o = m b o := fun b h2 o => by
    rw [updMu_get, if_neg (fun q => h2 q.1)]
  refine ⟨⟨?_, ⟨c, ?_⟩, h.lt, ?_, ?_, ?_, fun o ho => ?_, h.d1, h.d2, h.d3, h.d4, h.d5⟩, fun b _ h2 o => far b h2 o⟩
  · rw [updMu_get, if_neg (by simp)]; exact h.l
  · rw [updMu_get, if_pos (by simp)]; rfl
  · rw [far _ (Ne.symm h.d4)]; exact h.at_
  · rw [far _ (Ne.symm h.d5)]; exact h.ws
  · rw [far _ (Ne.symm h.d5)]; exact h.ep
  · rw [far _ h.d1]; exact h.w o ho
theorem regWrite {m : Mu} {mb lb len i : Nat} {R : Reg} (h : HasReg m mb lb len i R) {a : Int} (h0 : 0 ≤ a) (h1 : a < R.n) (x : Int) : HasReg (updMu m R.wb (0 + a.toNat * 1) [.int .u64 x]) mb lb len i { R with w := upd R.w a.toNat x } ∧ Far mb R.wb m (updMu m R.wb (0 + a.toNat * 1) [.int .u64 x]) := by
  have d1 := h.d1
  have far : ∀ b, b ≠ R.wb → ∀ o, (updMu m R.wb (0 + a.toNat * 1) [.int .u64 x]) b o = m b o := fun b h1 o => by
    rw [updMu_get, if_neg (fun q => h1 q.1)]
  obtain ⟨c, hc⟩ := h.c
  refine ⟨⟨?_, ⟨c, ?_⟩, h.lt, ?_, ?_, ?_, fun o ho => ?_, h.d1, h.d2, h.d3, h.d4, h.d5⟩, fun b h1 _ o => far b h1 o⟩
  · rw [far _ (Ne.symm d1)]; exact h.l
  · rw [far _ (Ne.symm d1)]; exact hc
  · rw [far _ (Ne.symm h.d2)]; exact h.at_
  · rw [far _ (Ne.symm h.d3)]; exact h.ws
  · rw [far _ (Ne.symm h.d3)]; exact h.ep
  · rw [updMu_get]
    simp only [upd, Nat.zero_add, Nat.mul_one, List.length_singleton, true_and]
    by_cases he : o = a.toNat
    · subst he; rw [if_pos ⟨Nat.le_refl _, by omega⟩, if_pos rfl]; simp
    · rw [if_neg (by omega), if_neg he]; exact h.w o ho
/-- What an access does. -/
def acc (rn : Nat) (w : Nat → Int) (op a x y : Int) : Option (Int × (Nat → Int)) :=
  if a < 0 ∨ a ≥ rn ∨ op < 0 ∨ op > 3 then none
  else some (w a.toNat, if op = 1 then upd w a.toNat x else if op = 2 then (if w a.toNat = x then upd w a.toNat y else w) else if op = 3 then upd w a.toNat (IntKind.u64.wrap (w a.toNat + x)) else w)
theorem acc_wd {rn : Nat} {w : Nat → Int} {op a x y : Int} (hw : ∀ o, Wd (w o)) (hx : Wd x) (hy : Wd y) {v : Int} {w' : Nat → Int} (h : acc rn w op a x y = some (v, w')) : Wd v ∧ ∀ o, Wd (w' o) := by
  unfold acc at h
  split at h
  · cases h
  · simp only [Option.some.injEq, Prod.mk.injEq] at h
    obtain ⟨rfl, rfl⟩ := h
    refine ⟨hw _, fun o => ?_⟩
    split
    · exact upd_wd hw hx o
    · split
      · split
        · exact upd_wd hw hy o
        · exact hw o
      · split
        · exact upd_wd hw (wd_u64 _) o
        · exact hw o
theorem doNone {m : Mu} {mb lb len i : Nat} {R : Reg} (h : HasReg m mb lb len i R) {op a x y : Int} (ha : acc R.n R.w op a x y = none) : CallOk Tryz.prog 41 [.adr mb 0, .agg [.int .i64 i, .int .u64 R.e], .agg [.int .i64 op, .int .i64 a, .int .u64 x, .int .u64 y]] m (.tup [.int .u64 0, .bool false]) m false [] := by
  unfold acc at ha
  split at ha
  case isFalse => cases ha
  rename_i hc
  by_cases h1 : a < 0
  · exact f41_10 (goodOk h R.e) (by simp) (decide_eq_true h1)
  by_cases h2 : a ≥ R.n
  · exact f41_9 (goodOk h R.e) (by simp) (decide_eq_false h1) (sizeOk h) (decide_eq_true h2)
  by_cases h3 : op < 0
  · exact f41_8 (goodOk h R.e) (by simp) (decide_eq_false h1) (sizeOk h) (decide_eq_false h2) (decide_eq_true h3)
  · exact f41_7 (goodOk h R.e) (by simp) (decide_eq_false h1) (sizeOk h) (decide_eq_false h2) (decide_eq_false h3) (decide_eq_true (by omega))
theorem doSome {m : Mu} {mb lb len i : Nat} {R : Reg} (h : HasReg m mb lb len i R) {op a x y v : Int} {w' : Nat → Int} (ha : acc R.n R.w op a x y = some (v, w')) :
    ∃ m', CallOk Tryz.prog 41 [.adr mb 0, .agg [.int .i64 i, .int .u64 R.e], .agg [.int .i64 op, .int .i64 a, .int .u64 x, .int .u64 y]] m (.tup [.int .u64 v, .bool true]) m' false [] ∧ HasReg m' mb lb len i { R with w := w' } ∧ Far mb R.wb m m' := by
  unfold acc at ha
  split at ha
  · cases ha
  rename_i hn
  simp only [Option.some.injEq, Prod.mk.injEq] at ha
  obtain ⟨rfl, rfl⟩ := ha
  have h0 : 0 ≤ a := by omega
  have h1 : a < R.n := by omega
  obtain ⟨c, hc⟩ := h.c
  have hw : m R.wb (0 + a.toNat * 1) = some (.int .u64 (R.w a.toNat)) := by rw [Nat.zero_add, Nat.mul_one]; exact h.w _ (by omega)
  have d1 := h.d1
  have hcx : ∀ x : Int, (updMu m R.wb (0 + a.toNat * 1) [.int .u64 x]) mb 1 = some (.int .i64 c) := fun x => by rw [updMu_get, if_neg (fun q => d1 q.1.symm)]; exact hc
  have wr : ∀ x : Int, HasReg (updMu (updMu m R.wb (0 + a.toNat * 1) [.int .u64 x]) mb 1 [.int .i64 (IntKind.i64.wrap (c + 1))]) mb lb len i { R with w := upd R.w a.toNat x } ∧ Far mb R.wb m (updMu (updMu m R.wb (0 + a.toNat * 1) [.int .u64 x]) mb 1 [.int .i64 (IntKind.i64.wrap (c + 1))]) := fun x => by
    obtain ⟨q1, q2⟩ := regWrite h h0 h1 x
    obtain ⟨q3, q4⟩ := regCount q1 (IntKind.i64.wrap (c + 1))
    exact ⟨q3, q2.trans q4⟩
  have p1 : (decide ((a : Int) < 0)) = false := decide_eq_false (by omega)
  have p2 : (decide ((a : Int) ≥ (R.n : Int))) = false := decide_eq_false (by omega)
  have p3 : (decide ((op : Int) < 0)) = false := decide_eq_false (by omega)
  have p4 : (decide ((op : Int) > 3)) = false := decide_eq_false (by omega)
  have p5 := decide_eq_true (show (0 : Int) ≤ (i : Int) ∧ (i : Int) < ((len : Nat) : Int) by have := h.lt; omega)
  have p6 : decide ((0 : Int) ≤ a ∧ a < ((R.n : Nat) : Int)) = true := decide_eq_true (by omega)
  by_cases e1 : op = 1
  · rw [if_pos e1]
    obtain ⟨q1, q2⟩ := wr x
    exact ⟨_, f41_6 (goodOk h R.e) (by simp) p1 (sizeOk h) p2 p3 p4 h.l p5 (by simpa using h.at_) h.ws p6 hw (by simp [e1]) (by rw [hw]; rfl) (hcx x) (by rw [hcx x]; rfl), q1, q2⟩
  rw [if_neg e1]
  have n1 : (op == (1 : Int)) = false := beq_eq_false_iff_ne.2 e1
  by_cases e2 : op = 2
  · rw [if_pos e2]
    have n2 : (op == (2 : Int)) = true := by simp [e2]
    have n3 : (op == (3 : Int)) = false := by simp [e2]
    by_cases e3 : R.w a.toNat = x
    · rw [if_pos e3]
      obtain ⟨q1, q2⟩ := wr y
      exact ⟨_, f41_5 (goodOk h R.e) (by simp) p1 (sizeOk h) p2 p3 p4 h.l p5 (by simpa using h.at_) h.ws p6 hw n1 n2 (by simp [e3]) (by rw [hw]; rfl) (hcx y) (by rw [hcx y]; rfl), q1, q2⟩
    · rw [if_neg e3]
      obtain ⟨q1, q2⟩ := regCount h (IntKind.i64.wrap (c + 1))
      exact ⟨_, f41_3 (goodOk h R.e) (by simp) p1 (sizeOk h) p2 p3 p4 h.l p5 (by simpa using h.at_) h.ws p6 hw n1 n2 (beq_eq_false_iff_ne.2 e3) n3 hc (by rw [hc]; rfl), q1, q2⟩
  rw [if_neg e2]
  have n2 : (op == (2 : Int)) = false := beq_eq_false_iff_ne.2 e2
  by_cases e4 : op = 3
  · rw [if_pos e4]
    obtain ⟨q1, q2⟩ := wr (IntKind.u64.wrap (R.w a.toNat + x))
    exact ⟨_, f41_2 (goodOk h R.e) (by simp) p1 (sizeOk h) p2 p3 p4 h.l p5 (by simpa using h.at_) h.ws p6 hw n1 n2 (by simp [e4]) hw (by rw [hw]; rfl) (hcx _) (by rw [hcx _]; rfl), q1, q2⟩
  · rw [if_neg e4]
    obtain ⟨q1, q2⟩ := regCount h (IntKind.i64.wrap (c + 1))
    exact ⟨_, f41_1 (goodOk h R.e) (by simp) p1 (sizeOk h) p2 p3 p4 h.l p5 (by simpa using h.at_) h.ws p6 hw n1 n2 (beq_eq_false_iff_ne.2 e4) hc (by rw [hc]; rfl), q1, q2⟩
/-- The loop of Run. -/
theorem loop7 (rn : Nat) : ∀ (k : Nat) (pv : DV), Good kR k pv → ∀ (c : Nat) (most : Int), most ≤ 1000000 → most ≤ c + k → (c : Int) ≤ most → ∀ w : Nat → Int, (∀ o, Wd (w o)) →
    ∃ (pv' : DV) (c' : Int) (w' : Nat → Int), kR.Is pv' ∧ (∀ o, Wd (w' o)) ∧ ∀ (m : Mu) (mb lb len i rb wb : Nat) (e : Int), HasReg m mb lb len i ⟨rb, wb, rn, e, w⟩ →
      ∃ m', LoopOk Tryz.prog (codeAt [true, true, false, false, false] (Tryz.f7.body.getD .skip)) (C.L7_1 mb i e most c (csOf pv) m false) (.exit 0) (C.L7_1 mb i e most c' (csOf pv') m' false) ∧ HasReg m' mb lb len i ⟨rb, wb, rn, e, w'⟩ ∧ Far mb wb m m' := by
  intro k
  induction k with
  | zero =>
    intro pv hg c most hm h1 h2 w hw
    refine ⟨pv, c, w, hg.is, hw, fun m mb lb len i rb wb e hR => ⟨m, .last (by simp) ?_, hR, .refl m⟩⟩
    rcases hg.is with ⟨e_, v_, rfl⟩ | ⟨op, a, x, y, g, cs, rfl⟩
    · exact C.L7_1_1 (decide_eq_false (by omega))
    · exact C.L7_1_3 (decide_eq_false (by omega))
  | succ k ih =>
    intro pv hg c most hm h1 h2 w hw
    rcases hg with ⟨e_, v_, rfl⟩ | ⟨op, a, x, y, g, cs, rfl, hx, hy, hn⟩
    · refine ⟨_, c, w, .inl ⟨e_, v_, rfl⟩, hw, fun m mb lb len i rb wb e hR => ⟨m, .last (by simp) ?_, hR, .refl m⟩⟩
      by_cases hlt : (c : Int) < most
      · exact C.L7_1_2 (decide_eq_true hlt)
      · exact C.L7_1_1 (decide_eq_false hlt)
    by_cases hlt : (c : Int) < most
    case neg =>
      exact ⟨_, c, w, .inr ⟨op, a, x, y, g, cs, rfl⟩, hw, fun m mb lb len i rb wb e hR => ⟨m, .last (by simp) (C.L7_1_3 (decide_eq_false hlt)), hR, .refl m⟩⟩
    cases ha : acc rn w op a x y with
    | none =>
      refine ⟨_, c, w, .inr ⟨op, a, x, y, g, cs, rfl⟩, hw, fun m mb lb len i rb wb e hR => ⟨m, .last (by simp) ?_, hR, .refl m⟩⟩
      exact C.L7_1_5_s (decide_eq_true hlt) (C.f21_3 (doNone hR ha) rfl) rfl
    | some vw =>
      obtain ⟨v, w1⟩ := vw
      obtain ⟨hv, hw1⟩ := acc_wd hw hx hy ha
      obtain ⟨q, hq1, hq2⟩ := hn v hv
      obtain ⟨pv', c', w', i1, i2, i3⟩ := ih q hq2 (c + 1) most hm (by omega) (by omega) w1 hw1
      refine ⟨pv', c', w', i1, i2, fun m mb lb len i rb wb e hR => ?_⟩
      obtain ⟨m1, c41, hR1, far1⟩ := doSome hR ha
      obtain ⟨m', lp, hR', far'⟩ := i3 m1 mb lb len i rb wb e hR1
      refine ⟨m', ?_, hR', far1.trans far'⟩
      have ew : IntKind.i64.wrap ((c : Int) + 1) = ((c + 1 : Nat) : Int) := by rw [wrap64 (by omega) (by omega)]; omega
      refine .step (s1 := C.L7_1 mb i e most ((c + 1 : Nat) : Int) (csOf q) m1 false) ?_ lp
      rw [← ew]
      rcases hq2.is with ⟨e_, v_, rfl⟩ | ⟨op2, a2, x2, y2, g2, cs2, rfl⟩
      · exact C.L7_1_4_o (decide_eq_true hlt) (C.f21_2_o c41 rfl (hq1 m1)) rfl
      · exact C.L7_1_4_s (decide_eq_true hlt) (C.f21_2_s c41 rfl (hq1 m1)) rfl
/-- Run of a good program. -/
theorem run7 (rn : Nat) {k : Nat} {pv : DV} (hg : Good kR k pv) {most : Int} (h0 : 0 ≤ most) (h1 : most ≤ k) (h2 : most ≤ 1000000) (w : Nat → Int) (hw : ∀ o, Wd (w o)) :
    ∃ (x y c : Int) (ov : Bool) (w' : Nat → Int), (∀ o, Wd (w' o)) ∧ ∀ (m : Mu) (mb lb len i rb wb : Nat) (e : Int), HasReg m mb lb len i ⟨rb, wb, rn, e, w⟩ →
      ∃ m', CallOk Tryz.prog 7 [pv, .adr mb 0, .agg [.int .i64 i, .int .u64 e], .int .i64 most] m (.tup [.agg [.int .i64 x, .int .u64 y], .int .i64 c, .bool ov]) m' false [] ∧ HasReg m' mb lb len i ⟨rb, wb, rn, e, w'⟩ ∧ Far mb wb m m' := by
  obtain ⟨pv', c', w', i1, i2, i3⟩ := loop7 rn k pv hg 0 most h2 (by omega) (by omega) w hw
  have code : ∀ (m : Mu) (mb lb len i rb wb : Nat) (e : Int), HasReg m mb lb len i ⟨rb, wb, rn, e, w⟩ → ∃ m', CodeOk Tryz.prog (codeAt [true, true, false, false] (Tryz.f7.body.getD .skip)) (C.L7_1 mb i e most 0 (csOf pv) m false) (.exit 0) (C.L7_1 mb i e most c' (csOf pv') m' false) ∧ HasReg m' mb lb len i ⟨rb, wb, rn, e, w'⟩ ∧ Far mb wb m m' := fun m mb lb len i rb wb e hR => by
    obtain ⟨m', lp, q1, q2⟩ := i3 m mb lb len i rb wb e hR
    refine ⟨m', ?_, q1, q2⟩
    rw [C.L7_1_loop]
    exact lp.code
  rcases hg.is with ⟨e_, v_, rfl⟩ | ⟨op, a, x, y, g, cs, rfl⟩
  · rcases i1 with ⟨e2, v2, rfl⟩ | ⟨op2, a2, x2, y2, g2, cs2, rfl⟩
    · refine ⟨e2, v2, c', true, w', i2, fun m mb lb len i rb wb e hR => ?_⟩
      obtain ⟨m', q1, q2, q3⟩ := code m mb lb len i rb wb e hR
      exact ⟨m', C.f7_1 q1, q2, q3⟩
    · refine ⟨0, 0, c', false, w', i2, fun m mb lb len i rb wb e hR => ?_⟩
      obtain ⟨m', q1, q2, q3⟩ := code m mb lb len i rb wb e hR
      exact ⟨m', C.f7_2 q1, q2, q3⟩
  · rcases i1 with ⟨e2, v2, rfl⟩ | ⟨op2, a2, x2, y2, g2, cs2, rfl⟩
    · refine ⟨e2, v2, c', true, w', i2, fun m mb lb len i rb wb e hR => ?_⟩
      obtain ⟨m', q1, q2, q3⟩ := code m mb lb len i rb wb e hR
      exact ⟨m', C.f7_3 q1, q2, q3⟩
    · refine ⟨0, 0, c', false, w', i2, fun m mb lb len i rb wb e hR => ?_⟩
      obtain ⟨m', q1, q2, q3⟩ := code m mb lb len i rb wb e hR
      exact ⟨m', C.f7_4 q1, q2, q3⟩
end Go.Proofs.YtkhjkfbgcpjphaaGreat.Fun
