/- RevokeHalf: a drain that stopped, and one from the beginning behind it, leave what one leaves that was never stopped. -/
import Derived.Test.YtkhjkfbgcpjphaaGreatRD52
import Derived.Test.YtkhjkfbgcpjphaaGreatRD53
import Derived.Test.YtkhjkfbgcpjphaaGreatRD24
import Derived.Test.YtkhjkfbgcpjphaaGreatFunLaw
namespace Go.Proofs.YtkhjkfbgcpjphaaGreatW.PrintWords
end Go.Proofs.YtkhjkfbgcpjphaaGreatW.PrintWords
namespace Go.Proofs.YtkhjkfbgcpjphaaGreat.Pure
open Go Go.RowKit Go.Proofs.YtkhjkfbgcpjphaaGreat.Fun Go.Proofs.YtkhjkfbgcpjphaaGreat.Fun.B
set_option linter.unusedVariables false
theorem keepR {m m' : Mu} {mb lb len i : Nat} {R : Reg} (h : HasReg m mb lb len i R) (hk : ∀ c, (c = mb ∨ c = lb ∨ c = R.rb ∨ c = R.wb) → ∀ o, m' c o = m c o) : HasReg m' mb lb len i R := by
  obtain ⟨c, hc⟩ := h.c
  exact ⟨by rw [hk _ (.inl rfl)]; exact h.l, ⟨c, by rw [hk _ (.inl rfl)]; exact hc⟩, h.lt, by rw [hk _ (.inr (.inl rfl))]; exact h.at_, by rw [hk _ (.inr (.inr (.inl rfl)))]; exact h.ws, by rw [hk _ (.inr (.inr (.inl rfl)))]; exact h.ep, fun o ho => by rw [hk _ (.inr (.inr (.inr rfl)))]; exact h.w o ho, h.d1, h.d2, h.d3, h.d4, h.d5⟩
section
variable {n t r d b g : Int} (h : PF n t r d b g)
include h
/-- Grants, of both regions. -/
theorem grants {x y : Int} (sz : Nat) : ∀ (j k : Nat), ((k + j : Nat) : Int) = IntKind.i64.wrap (Int.tmod x 20) → k + j < 1000 → ∀ (m : Mu) (w : Nat → Int), (∀ o, Wd (w o)) → HasReg m 0 3 1 0 ⟨2, 1, sz, 1, w⟩ → HasReg m 4 7 1 0 ⟨6, 5, sz, 1, w⟩ →
    ∃ m' w', (∀ fL, LoopOk Tryz.prog (codeAt [true, true, true, true, true, true, false, true, false, false] (Tryz.f3.body.getD .skip)) (C.L3_1 n t r d b g x y 0 4 (k : Int) m false fL) (.exit 0) (C.L3_1 n t r d b g x y 0 4 ((k + j : Nat) : Int) m' false fL)) ∧ (∀ o, Wd (w' o)) ∧ HasReg m' 0 3 1 0 ⟨2, 1, sz, 1, w'⟩ ∧ HasReg m' 4 7 1 0 ⟨6, 5, sz, 1, w'⟩
  | 0, k, hk, hb, m, w, hw, h1, h2 => by
    refine ⟨m, w, fun fL => .last (by simp) ?_, hw, h1, h2⟩
    exact C.L3_1_1 (decide_eq_false (by omega))
  | j + 1, k, hk, hb, m, w, hw, h1, h2 => by
    obtain ⟨pv, c8, good⟩ := gNew h 99
    obtain ⟨e, v, c, ov, w1, hw1, run⟩ := run7 sz good (most := 99) (by omega) (by omega) (by omega) w hw
    obtain ⟨m1, r1, q1, far1⟩ := run m 0 3 1 0 2 1 1 h1
    have h2' : HasReg m1 4 7 1 0 ⟨6, 5, sz, 1, w⟩ := keepR h2 fun c hc o => far1 c (by simp only at hc; omega) (by simp only at hc; omega) o
    obtain ⟨m2, r2, q2, far2⟩ := run m1 4 7 1 0 6 5 1 h2'
    have q1' : HasReg m2 0 3 1 0 ⟨2, 1, sz, 1, w1⟩ := keepR q1 fun c hc o => far2 c (by simp only at hc; omega) (by simp only at hc; omega) o
    obtain ⟨m', w', lp, i1, i2, i3⟩ := grants (x := x) (y := y) sz j (k + 1) (by omega) (by omega) m2 w1 hw1 q1' q2
    refine ⟨m', w', fun fL => ?_, i1, i2, i3⟩
    have ew : IntKind.i64.wrap ((k : Int) + 1) = ((k + 1 : Nat) : Int) := by rw [wrap64 (by omega) (by omega)]; omega
    have lpf := lp fL
    rw [show k + 1 + j = k + (j + 1) by omega] at lpf
    refine .step (s1 := C.L3_1 n t r d b g x y 0 4 ((k + 1 : Nat) : Int) m2 false fL) ?_ lpf
    rw [← ew]
    have lt : decide ((k : Int) < (IntKind.i64.wrap (Int.tmod x 20))) = true := decide_eq_true (by omega)
    rcases good.is with ⟨e_, v_, rfl⟩ | ⟨op, a, x2, y2, g2, cs, rfl⟩
    · have this : CodeOk Tryz.prog (codeAt [true, true, true, true, true, true, false, true, false, false] (Tryz.f3.body.getD .skip)) (C.L3_1 n t r d b g x y 0 4 (k : Int) m false fL) .normal (C.L3_1 n t r d b g x y 0 4 (IntKind.i64.wrap ((k : Int) + 1)) m2 false fL) := C.L3_1_2_oo lt (c8 m) (capOk h1) r1 (c8 m1) (capOk h2') r2
      exact @this
    · have this : CodeOk Tryz.prog (codeAt [true, true, true, true, true, true, false, true, false, false] (Tryz.f3.body.getD .skip)) (C.L3_1 n t r d b g x y 0 4 (k : Int) m false fL) .normal (C.L3_1 n t r d b g x y 0 4 (IntKind.i64.wrap ((k : Int) + 1)) m2 false fL) := C.L3_1_2_ss lt (c8 m) (capOk h1) r1 (c8 m1) (capOk h2') r2
      exact @this
end
theorem ok (n t r d b g x y : Int) (hx : 0 ≤ x ∧ x ≤ 255) (hy : 0 ≤ y ∧ y ≤ 255) : ∃ m F, CallOk Tryz.prog 3 [pl n t r d b g, .int .u8 x, .int .u8 y] noMu (.bool true) m false F := by
  obtain ⟨v, hv, hpf⟩ := few14 n t r d b g noMu
  cases v with
  | false => exact ⟨_, [], C.f3_7 (awake13 noMu) rfl hv rfl (awake13 noMu)⟩
  | true =>
    have h := hpf rfl
    have hn := h.hn; have hd := h.hd; have ht := h.ht; have hc := h.cl; have hnd := h.nd; have hct := h.ct; have hhz := h.hz
    have hsz : (((szP n t r d b).toNat : Nat) : Int) = szP n t r d b := by unfold szP; omega
    obtain ⟨m1, w0, c15, hR1, hf1, low1⟩ := laid15A h noMu 0
    obtain ⟨m2, w0', d15, hR2, hf2, low2⟩ := laid15A h m1 4
    obtain rfl := hf1.eq hf2
    obtain ⟨sz, hse⟩ : ∃ sz, (szP n t r d b).toNat = sz := ⟨_, rfl⟩
    rw [hse] at hsz hR1 hR2
    have hszb : 1 ≤ sz ∧ sz < 1000000 := by unfold szP at hsz; omega
    obtain ⟨P, hP⟩ : ∃ P, nPl t d b = P := ⟨_, rfl⟩
    have hR1' : HasReg m2 0 3 1 0 ⟨2, 1, sz, 1, w0⟩ := keepR hR1 fun c hc o => low2 c (by simp only at hc; omega) o
    have hN : 0 ≤ IntKind.i64.wrap (Int.tmod x 20) ∧ IntKind.i64.wrap (Int.tmod x 20) < 20 := by
      rw [Int.tmod_eq_emod_of_nonneg hx.1, wrap64 (by omega) (by omega)]; omega
    obtain ⟨m3, w3, lp, hw3, hA, hB⟩ := grants h (x := x) (y := y) sz (IntKind.i64.wrap (Int.tmod x 20)).toNat 0 (by omega) (by omega) m2 w0 (hf1.wd h) hR1' hR2
    have code : ∀ fL, CodeOk Tryz.prog (codeAt [true, true, true, true, true, true, false, true, false] (Tryz.f3.body.getD .skip)) (C.L3_1 n t r d b g x y 0 4 0 m2 false fL) (.exit 0) (C.L3_1 n t r d b g x y 0 4 ((0 + (IntKind.i64.wrap (Int.tmod x 20)).toNat : Nat) : Int) m3 false fL) := fun fL => by
      rw [C.L3_1_loop]; exact (lp fL).code
    have ey : IntKind.i64.wrap y = y := wrap64 (by omega) (by omega)
    obtain ⟨at1, cp1, m4, m5, x1, r1, k1, o1, c18, hA4, low4, c17, ⟨w5, hA5, hD5⟩, far5⟩ := drainT h (D := DD n t r d b g w3) m3 2 1 sz 1 w3 8 hA hsz hw3 (dc_drn h hw3) (dz_drn h) ⟨rfl, hw3⟩ (by omega) (by omega) (by omega) (by omega) (IntKind.i64.wrap y) (by omega) (by omega)
    rw [hP] at c18 c17
    have hB5 : HasReg m5 4 7 1 0 ⟨6, 5, sz, 1, w3⟩ := keepR hB fun c hc o => far5 c (by simp only at hc; omega) (by simp only at hc; omega) (by simp only at hc; omega) o
    obtain ⟨at2, cp2, m6, m7, x2, d18, hA6, low6, d17, hA7, far7⟩ := drainS h m5 2 1 sz 1 w5 (8 + P + x1) hA5 hsz hD5.2 (by omega) (by omega) (by omega) (by omega)
    rw [hP] at d18 d17
    rw [hD5.1] at d17 hA7
    have hB7 : HasReg m7 4 7 1 0 ⟨6, 5, sz, 1, w3⟩ := keepR hB5 fun c hc o => far7 c (by simp only at hc; omega) (by simp only at hc; omega) (by simp only at hc; omega) o
    obtain ⟨at3, cp3, m8, m9, x3, e18, hB8, low8, e17, hB9, far9⟩ := drainS h m7 6 5 sz 1 w3 (8 + P + x1 + P + x2) hB7 hsz hw3 (by omega) (by omega) (by omega) (by omega)
    rw [hP] at e18 e17
    have hA9 : HasReg m9 0 3 1 0 ⟨2, 1, sz, 1, (drnW n t r d b g w3).1⟩ := keepR hA7 fun c hc o => far9 c (by simp only at hc; omega) (by simp only at hc; omega) (by simp only at hc; omega) o
    obtain ⟨m10, row1, c22, hrow1, low10, q11, q12⟩ := words22 hA9 (8 + P + x1 + P + x2 + P + x3) (by omega) (by omega) (by simp only; omega) (by simp only; omega) hszb.1 hszb.2
    simp only at q12 c22 hrow1
    have hB10 := hB9.low low10 (by omega) (by omega) (by simp only; omega) (by simp only; omega)
    obtain ⟨m11, row2, d22, hrow2, low11, q21, q22⟩ := words22 hB10 (8 + P + x1 + P + x2 + P + x3 + sz) (by omega) (by omega) (by simp only; omega) (by simp only; omega) hszb.1 hszb.2
    simp only at q22 d22 hrow2
    have s24 := same24 (m := m11) (x := row1) (y := row2) (n := sz) (drnW n t r d b g w3).1 hszb.2 (fun o ho => by rw [low11 row1 (by omega)]; exact hrow1 o ho) hrow2
    obtain ⟨F, hF⟩ : ∃ F, F = nms 0 (4 + (4 + (P + (x1 + (P + (x2 + (P + (x3 + (sz + (sz + 0)))))))))) := ⟨_, rfl⟩
    obtain ⟨g1, o1'⟩ := namesStep hF
    obtain ⟨g2, o2⟩ := namesStep o1'
    obtain ⟨g3, o3⟩ := namesStep o2
    obtain ⟨g4, o4⟩ := namesStep o3
    obtain ⟨g5, o5⟩ := namesStep o4
    obtain ⟨g6, o6⟩ := namesStep o5
    obtain ⟨g7, o7⟩ := namesStep o6
    obtain ⟨g8, o8⟩ := namesStep o7
    obtain ⟨g9, o9⟩ := namesStep o8
    obtain ⟨g10, o10⟩ := namesStep o9
    simp only [Nat.zero_add] at g2 g3 g4 g5 g6 g7 g8 g9 g10
    exact ⟨_, F, C.f3_3_sss (awake13 noMu) rfl hv rfl c15 g1 d15 g2 (code _) c18 g3 (capOk hA4) c17 g4 d18 g5 (capOk hA6) d17 g6 e18 g7 (capOk hB8) e17 g8 rfl (by simp) c22 g9 d22 g10 s24⟩
theorem RevokeHalf (n t r d b g x y : Int) (hn : (Lit.int .i64 n).wf = true) (ht : (Lit.int .i64 t).wf = true) (hr : (Lit.int .i64 r).wf = true) (hd : (Lit.int .i64 d).wf = true) (hb : (Lit.int .i64 b).wf = true) (hg : (Lit.int .i64 g).wf = true) (hx : (Lit.int .u8 x).wf = true) (hy : (Lit.int .u8 y).wf = true) (w : World) :
    Calls Tryz.prog 3 #[.agg #[.int .i64 n, .int .i64 t, .int .i64 r, .int .i64 d, .int .i64 b, .int .i64 g], .int .u8 x, .int .u8 y] w fun e w' => e = .returned (.bool true) ∧ Below w.heap.size w w' := by
  obtain ⟨m, F, hm⟩ := ok n t r d b g x y (by simp [Lit.wf, IntKind.min, IntKind.max, IntKind.signed, IntKind.bits] at hx; omega) (by simp [Lit.wf, IntKind.min, IntKind.max, IntKind.signed, IntKind.bits] at hy; omega)
  refine calls_of_ok hm (vs := [.agg #[.int .i64 n, .int .i64 t, .int .i64 r, .int .i64 d, .int .i64 b, .int .i64 g], .int .u8 x, .int .u8 y]) (.cons ?_ (.cons (by simp only [Abs]) (.cons (by simp only [Abs]) .nil)))
  simp only [pl, Abs]
  exact ⟨[.int .i64 n, .int .i64 t, .int .i64 r, .int .i64 d, .int .i64 b, .int .i64 g], rfl, by simp [AbsL, Abs]⟩
end Go.Proofs.YtkhjkfbgcpjphaaGreat.Pure
