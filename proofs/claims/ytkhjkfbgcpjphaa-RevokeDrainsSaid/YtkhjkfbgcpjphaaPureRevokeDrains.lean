/- RevokeDrains: a drain leaves the words, and tells the number, that the reference says. -/
import Derived.Test.YtkhjkfbgcpjphaaRD43
import Derived.Test.YtkhjkfbgcpjphaaFunLaw
namespace Go.Proofs.YtkhjkfbgcpjphaaW.PrintWords
end Go.Proofs.YtkhjkfbgcpjphaaW.PrintWords
namespace Go.Proofs.Ytkhjkfbgcpjphaa.Pure
open Go Go.RowKit Go.Proofs.Ytkhjkfbgcpjphaa.Fun Go.Proofs.Ytkhjkfbgcpjphaa.Fun.B Go.Proofs.Ytkhjkfbgcpjphaa.Fun.E
set_option linter.unusedVariables false
theorem ok (n t r d b g : Int) (l : List (Int × Int)) (hl : ∀ p ∈ l, Wd p.2) : ∃ m F, CallOk Try.prog 5 [pl n t r d b g, .slice (l.flatMap pr) l.length] noMu (.bool true) m false F := by
  obtain ⟨v, hv, hpf⟩ := few14 n t r d b g noMu
  cases v with
  | false => exact ⟨_, [], f5_7 (awake13 noMu) rfl hv rfl (awake13 noMu)⟩
  | true =>
    by_cases h60 : l.length ≤ 60
    case neg =>
      exact ⟨_, [], f5_6 (awake13 noMu) rfl hv rfl (decide_eq_true (by omega)) (awake13 noMu)⟩
    have h := hpf rfl
    have hn := h.hn; have hd := h.hd; have ht := h.ht; have hc := h.cl; have hnd := h.nd; have hct := h.ct; have hhz := h.hz
    have hsz : (((szP n t r d b).toNat : Nat) : Int) = szP n t r d b := by unfold szP; omega
    obtain ⟨sz, hse⟩ : ∃ sz, (szP n t r d b).toNat = sz := ⟨_, rfl⟩
    rw [hse] at hsz
    have hszb : 1 ≤ sz ∧ sz < 1000000 := by unfold szP at hsz; omega
    have hLen : (sorts n t r d b).length = sz := by have := sorts_len h; omega
    obtain ⟨N, hN⟩ : ∃ N, n.toNat = N := ⟨_, rfl⟩
    obtain ⟨P, hP⟩ : ∃ P, nPl t d b = P := ⟨_, rfl⟩
    obtain ⟨S, hS⟩ : ∃ S, nSo n t r d b + 2 = S := ⟨_, rfl⟩
    obtain ⟨m1, w0, h15, hR, hf, _⟩ := laid15 h noMu 0
    rw [hse] at hR
    have hw0 : ∀ o, Wd (w0 o) := fun o => by
      rcases hf.2 o with e | e
      · rw [e]; exact ⟨by simp, by simp⟩
      · exact e
    obtain ⟨m2, w1, hR2, hw1, lp⟩ : ∃ m2 w1, HasReg m2 0 (0 + 3) 1 0 ⟨0 + 2, 0 + 1, sz, 1, w1⟩ ∧ (∀ o, Wd (w1 o)) ∧ ∀ fr, CodeOk Try.prog (codeAt [true, true, true, true, false, true, false] (Try.f5.body.getD .skip)) (L5_1 n t r d b g (l.flatMap pr) l.length 0 0 m1 false fr) (.exit 0) (L5_1 n t r d b g (l.flatMap pr) l.length 0 (l.length : Int) m2 false fr) := by
      obtain ⟨m2, w1, lp, hR2, hw1⟩ := putsAll5 (n := n) (t := t) (r := r) (d := d) (b := b) (g := g) (0 + 2) (0 + 1) sz 1 l hl h60 l.length 0 (by omega) m1 w0 hR hw0
      refine ⟨m2, w1, hR2, hw1, fun fr => ?_⟩
      rw [L5_1_loop]
      exact (lp fr).code
    obtain ⟨m3, row6, c22, hrow6, low3, r61, r62⟩ := words22 hR2 4 (by omega) (by omega) (by simp only; omega) (by simp only; omega) hszb.1 hszb.2
    simp only at r62 c22 hrow6
    have hR3 := hR2.low low3 (by omega) (by omega) (by simp only; omega) (by simp only; omega)
    obtain ⟨at1, cp1, m4, m5, x1, c18, hR4, low4, c17, hR5, far5⟩ := drainS h m3 (0 + 2) (0 + 1) sz 1 w1 (4 + sz) hR3 hsz hw1 (by omega) (by omega) (by omega) (by omega)
    rw [hP] at c18 c17
    rw [hN] at c17
    obtain ⟨m6, c23, hout, low6⟩ := drain23 h m5 (4 + sz + P + x1) row6 w1 hw1 (by omega) (fun o ho => by
      rw [far5 row6 (by omega) (by omega) (by omega)]
      exact hrow6 o (by omega))
    rw [hLen, hS] at c23
    rw [hLen] at hout
    have hR6 := hR5.low low6 (by omega) (by omega) (by simp only; omega) (by simp only; omega)
    obtain ⟨m7, c20, low7⟩ := steps20 h m6 (4 + sz + P + x1 + S)
    rw [hP] at c20
    have hR7 := hR6.low low7 (by omega) (by omega) (by simp only; omega) (by simp only; omega)
    obtain ⟨m8, row9, d22, hrow9, low8, r91, r92⟩ := words22 hR7 (4 + sz + P + x1 + S + P) (by omega) (by omega) (by simp only; omega) (by simp only; omega) hszb.1 hszb.2
    simp only at r92 d22 hrow9
    have s24 := same24 (m := m8) (x := row9) (y := 4 + sz + P + x1 + nSo n t r d b) (n := sz) (drnW n t r d b g w1).1 hszb.2 hrow9 (fun o ho => by
      rw [low8 _ (by omega), low7 _ (by omega)]
      exact hout o ho)
    have e1 : ((((N * 5 + N + 1 + P : Nat) : Int)) == ((P : Nat) + n * 6 + 1)) = true := by simp only [beq_iff_eq]; omega
    obtain ⟨F, hF⟩ : ∃ F, F = nms 0 (4 + (sz + (P + (x1 + (S + (P + (sz + 0))))))) := ⟨_, rfl⟩
    obtain ⟨g1, o1⟩ := namesStep hF
    obtain ⟨g2, o2⟩ := namesStep o1
    obtain ⟨g3, o3⟩ := namesStep o2
    obtain ⟨g4, o4⟩ := namesStep o3
    obtain ⟨g5, o5⟩ := namesStep o4
    obtain ⟨g6, o6⟩ := namesStep o5
    obtain ⟨g7, o7⟩ := namesStep o6
    simp only [Nat.zero_add] at c22 c18 c17 g2 g3 g4 g5 g6 g7
    exact ⟨_, F, f5_4 (awake13 noMu) rfl hv rfl (decide_eq_false (by omega)) h15 g1 (lp _) c22 g2 c18 g3 (capOk hR4) c17 g4 c23 g5 rfl (by simp) c20 g6 e1 d22 g7 s24⟩
theorem RevokeDrains (w : World) (n t r d b g : Int) (A : Option Addr) (cap : Nat) (l : List (Int × Int)) (hn : (Lit.int .i64 n).wf = true) (ht : (Lit.int .i64 t).wf = true) (hr : (Lit.int .i64 r).wf = true) (hd : (Lit.int .i64 d).wf = true) (hb : (Lit.int .i64 b).wf = true) (hg : (Lit.int .i64 g).wf = true)
    (hA : Abs (fun _ => none) (fun b => b < w.heap.size) w (.slice (l.flatMap pr) l.length) (.slice A l.length cap)) (hm : l.length ≤ maxLen) (hQ : ∀ a ∈ l, (Lit.int .i64 a.1).wf = true ∧ (Lit.int .u64 a.2).wf = true) :
    Calls Try.prog 5 #[.agg #[.int .i64 n, .int .i64 t, .int .i64 r, .int .i64 d, .int .i64 b, .int .i64 g], .slice A l.length cap] w fun e w' => e = .returned (.bool true) ∧ Below w.heap.size w w' := by
  obtain ⟨m, F, hm⟩ := ok n t r d b g l (fun p hp => by
    have := (hQ p hp).2
    simp [Lit.wf, IntKind.min, IntKind.max, IntKind.signed, IntKind.bits] at this
    exact ⟨by omega, by omega⟩)
  refine calls_of_ok hm (vs := [.agg #[.int .i64 n, .int .i64 t, .int .i64 r, .int .i64 d, .int .i64 b, .int .i64 g], .slice A l.length cap]) (.cons ?_ (.cons hA .nil))
  simp only [pl, Abs]
  exact ⟨[.int .i64 n, .int .i64 t, .int .i64 r, .int .i64 d, .int .i64 b, .int .i64 g], rfl, by simp [AbsL, Abs]⟩
end Go.Proofs.Ytkhjkfbgcpjphaa.Pure
