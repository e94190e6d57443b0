/- RevokeAgain: a drain of a drained region changes no word, whatever stood there first. -/
import Derived.Test.YtkhjkfbgcpjphaaRD22
import Derived.Test.YtkhjkfbgcpjphaaFunLaw
namespace Go.Proofs.YtkhjkfbgcpjphaaW.PrintWords
end Go.Proofs.YtkhjkfbgcpjphaaW.PrintWords
namespace Go.Proofs.Ytkhjkfbgcpjphaa.Pure
open Go Go.RowKit Go.Proofs.Ytkhjkfbgcpjphaa.Fun Go.Proofs.Ytkhjkfbgcpjphaa.Fun.B
set_option linter.unusedVariables false
theorem ok (n t r d b g : Int) (l : List (Int × Int)) (hl : ∀ p ∈ l, Wd p.2) : ∃ m F, CallOk Try.prog 6 [pl n t r d b g, .slice (l.flatMap pr) l.length] noMu (.bool true) m false F := by
  obtain ⟨v, hv, hpf⟩ := few14 n t r d b g noMu
  cases v with
  | false => exact ⟨_, [], f6_13 (awake13 noMu) rfl hv rfl (awake13 noMu)⟩
  | true =>
    by_cases h60 : l.length ≤ 60
    case neg =>
      exact ⟨_, [], f6_12 (awake13 noMu) rfl hv rfl (decide_eq_true (by omega)) (awake13 noMu)⟩
    have h := hpf rfl
    have hn := h.hn; have hd := h.hd; have ht := h.ht; have hc := h.cl; have hnd := h.nd; have hct := h.ct; have hhz := h.hz
    have hsz : (((szP n t r d b).toNat : Nat) : Int) = szP n t r d b := by unfold szP; omega
    obtain ⟨sz, hse⟩ : ∃ sz, (szP n t r d b).toNat = sz := ⟨_, rfl⟩
    rw [hse] at hsz
    have hszb : 1 ≤ sz ∧ sz < 1000000 := by unfold szP at hsz; omega
    obtain ⟨N, hN⟩ : ∃ N, n.toNat = N := ⟨_, rfl⟩
    obtain ⟨P, hP⟩ : ∃ P, nPl t d b = P := ⟨_, rfl⟩
    obtain ⟨m1, w0, h15, hR, hf, _⟩ := laid15 h noMu 0
    rw [hse] at hR
    have hw0 : ∀ o, Wd (w0 o) := fun o => by
      rcases hf.2 o with e | e
      · rw [e]; exact ⟨by simp, by simp⟩
      · exact e
    -- the words that were put do not hang on the names
    obtain ⟨m2, w1, hR2, hw1, lp⟩ : ∃ m2 w1, HasReg m2 0 (0 + 3) 1 0 ⟨0 + 2, 0 + 1, sz, 1, w1⟩ ∧ (∀ o, Wd (w1 o)) ∧ ∀ fr, CodeOk Try.prog (codeAt [true, true, true, true, false, true, false] (Try.f6.body.getD .skip)) (L6_1 n t r d b g (l.flatMap pr) l.length 0 0 m1 false fr) (.exit 0) (L6_1 n t r d b g (l.flatMap pr) l.length 0 (l.length : Int) m2 false fr) := by
      obtain ⟨m2, w1, lp, hR2, hw1⟩ := putsAll (n := n) (t := t) (r := r) (d := d) (b := b) (g := g) (0 + 2) (0 + 1) sz 1 l hl h60 l.length 0 (by omega) m1 w0 hR hw0
      refine ⟨m2, w1, hR2, hw1, fun fr => ?_⟩
      rw [L6_1_loop]
      exact (lp fr).code
    obtain ⟨at1, cp1, m3, m4, x1, c18, hR3, low3, c17, hR4, far4⟩ := drainS h m2 (0 + 2) (0 + 1) sz 1 w1 4 hR2 hsz hw1 (by omega) (by omega) (by omega) (by omega)
    rw [hP] at c18 c17
    rw [hN] at c17
    obtain ⟨w2, hw2⟩ : ∃ w2, (drnW n t r d b g w1).1 = w2 := ⟨_, rfl⟩
    have hwd2 : ∀ o, Wd (w2 o) := fun o => by rw [← hw2]; exact drn_wd h w1 hw1 o
    rw [hw2] at hR4
    obtain ⟨m5, row6, c22, hrow6, low5, r61, r62⟩ := words22 hR4 (4 + P + x1) (by omega) (by omega) (by simp only; omega) (by simp only; omega) hszb.1 hszb.2
    have hR5 := hR4.low low5 (by omega) (by omega) (by simp only; omega) (by simp only; omega)
    obtain ⟨m6, dv7, c25, ints7, low6⟩ := list25 h hR5 (4 + P + x1 + sz) (by omega) (by omega) (by simp only; omega) (by simp only; omega) hsz (hwd2 0)
    rw [hN] at c25 ints7
    have hR6 := hR5.low low6 (by omega) (by omega) (by simp only; omega) (by simp only; omega)
    obtain ⟨at2, cp2, m7, m8, x2, d18, hR7, low7, d17, hR8, far8⟩ := drainS h m6 (0 + 2) (0 + 1) sz 1 w2 (4 + P + x1 + sz + N) hR6 hsz hwd2 (by omega) (by omega) (by omega) (by omega)
    rw [hP] at d18 d17
    rw [hN] at d17
    have again : drnW n t r d b g w2 = drnW n t r d b g w1 := by rw [← hw2]; exact drn_again h w1
    rw [again, hw2] at hR8
    rw [again] at d17
    obtain ⟨m9, row11, d22, hrow11, low9, r111, r112⟩ := words22 hR8 (4 + P + x1 + sz + N + P + x2) (by omega) (by omega) (by simp only; omega) (by simp only; omega) hszb.1 hszb.2
    have hR9 := hR8.low low9 (by omega) (by omega) (by simp only; omega) (by simp only; omega)
    obtain ⟨m10, dv13, d25, ints13, low10⟩ := list25 h hR9 (4 + P + x1 + sz + N + P + x2 + sz) (by omega) (by omega) (by simp only; omega) (by simp only; omega) hsz (hwd2 0)
    rw [hN] at d25 ints13
    have hll := listW_len n (ndP t r d b) w2 N (w2 0 % 2097152)
    have s24 := same24 (m := m9) (x := row11) (y := row6) (n := sz) w2 hszb.2 hrow11 (fun o ho => by
      rw [low9 row6 (by simp only at r62; omega), far8 row6 (by simp only at r62; omega) (by omega) (by omega), low6 row6 (by simp only at r62; omega)]
      exact hrow6 o ho)
    have ints7' : IntsAt m10 (4 + P + x1 + sz) (listW n (ndP t r d b) w2 N (w2 0 % 2097152)) dv7 := ints7.keep fun c hc1 hc2 o => by
      simp only at hc2
      rw [low10 c (by omega), low9 c (by omega), far8 c (by omega) (by omega) (by omega)]
    have s26 := same26 (m := m10) (l := listW n (ndP t r d b) w2 N (w2 0 % 2097152)) (a := 4 + P + x1 + sz + N + P + x2 + sz) (b := 4 + P + x1 + sz) (by omega) ints13 ints7'
    -- the names
    obtain ⟨F, hF⟩ : ∃ F, F = nms 0 (4 + (P + (x1 + (sz + (N + (P + (x2 + (sz + (N + 0))))))))) := ⟨_, rfl⟩
    obtain ⟨g1, o1⟩ := namesStep hF
    obtain ⟨g2, o2⟩ := namesStep o1
    obtain ⟨g3, o3⟩ := namesStep o2
    obtain ⟨g4, o4⟩ := namesStep o3
    obtain ⟨g5, o5⟩ := namesStep o4
    obtain ⟨g6, o6⟩ := namesStep o5
    obtain ⟨g7, o7⟩ := namesStep o6
    obtain ⟨g8, o8⟩ := namesStep o7
    obtain ⟨g9, o9⟩ := namesStep o8
    simp only [Nat.zero_add] at c18 c17 g2 g3 g4 g5 g6 g7 g8 g9
    rcases ints7 with ⟨e7, rfl⟩ | ⟨e7, row7, rfl, _⟩
    · rcases ints13 with ⟨_, rfl⟩ | ⟨e13, _⟩
      · exact ⟨_, F, f6_10 (awake13 noMu) rfl hv rfl (decide_eq_false (by omega)) h15 g1 (lp _) c18 g2 (capOk hR3) c17 g3 c22 g4 c25 g5 d18 g6 (capOk hR7) d17 g7 rfl (by simp) d22 g8 s24 rfl d25 g9 s26⟩
      · exact absurd e7 e13
    · rcases ints13 with ⟨e13, _⟩ | ⟨_, row13, rfl, _⟩
      · exact absurd e13 e7
      · exact ⟨_, F, f6_4 (awake13 noMu) rfl hv rfl (decide_eq_false (by omega)) h15 g1 (lp _) c18 g2 (capOk hR3) c17 g3 c22 g4 c25 g5 d18 g6 (capOk hR7) d17 g7 rfl (by simp) d22 g8 s24 rfl d25 g9 s26⟩
theorem RevokeAgain (w : World) (n t r d b g : Int) (A : Option Addr) (cap : Nat) (l : List (Int × Int)) (hn : (Lit.int .i64 n).wf = true) (ht : (Lit.int .i64 t).wf = true) (hr : (Lit.int .i64 r).wf = true) (hd : (Lit.int .i64 d).wf = true) (hb : (Lit.int .i64 b).wf = true) (hg : (Lit.int .i64 g).wf = true)
    (hA : Abs (fun _ => none) (fun b => b < w.heap.size) w (.slice (l.flatMap pr) l.length) (.slice A l.length cap)) (hm : l.length ≤ maxLen) (hQ : ∀ a ∈ l, (Lit.int .i64 a.1).wf = true ∧ (Lit.int .u64 a.2).wf = true) :
    Calls Try.prog 6 #[.agg #[.int .i64 n, .int .i64 t, .int .i64 r, .int .i64 d, .int .i64 b, .int .i64 g], .slice A l.length cap] w fun e w' => e = .returned (.bool true) ∧ Below w.heap.size w w' := by
  obtain ⟨m, F, hm⟩ := ok n t r d b g l (fun p hp => by
    have := (hQ p hp).2
    simp [Lit.wf, IntKind.min, IntKind.max, IntKind.signed, IntKind.bits] at this
    exact ⟨by omega, by omega⟩)
  refine calls_of_ok hm (vs := [.agg #[.int .i64 n, .int .i64 t, .int .i64 r, .int .i64 d, .int .i64 b, .int .i64 g], .slice A l.length cap]) (.cons ?_ (.cons hA .nil))
  simp only [pl, Abs]
  exact ⟨[.int .i64 n, .int .i64 t, .int .i64 r, .int .i64 d, .int .i64 b, .int .i64 g], rfl, by simp [AbsL, Abs]⟩
end Go.Proofs.Ytkhjkfbgcpjphaa.Pure
