/- RevokeSteps: of all formed plans a drain of a fresh region takes as many steps as the chapter says. -/
import Derived.Test.YtkhjkfbgcpjphaaRD18
import Derived.Test.YtkhjkfbgcpjphaaFunLaw
namespace Go.Proofs.YtkhjkfbgcpjphaaW.PrintWords
end Go.Proofs.YtkhjkfbgcpjphaaW.PrintWords
namespace Go.Proofs.Ytkhjkfbgcpjphaa.Pure
open Go Go.RowKit Go.Proofs.Ytkhjkfbgcpjphaa.Fun
set_option linter.unusedVariables false
theorem ok (n t r d b g : Int) : ∃ m l, CallOk Try.prog 4 [pl n t r d b g] noMu (.bool true) m false (nms 0 l) := by
  obtain ⟨v, hv, hpf⟩ := few14 n t r d b g noMu
  cases v with
  | false => exact ⟨_, 0, f4_5 (awake13 noMu) rfl hv rfl (awake13 noMu)⟩
  | true =>
    have h := hpf rfl
    have hn := h.hn; have hd := h.hd; have ht := h.ht; have hc := h.cl; have hnd := h.nd; have hct := h.ct; have hhz := h.hz
    obtain ⟨m1, w', h15, hR, hf, _⟩ := laid15 h noMu 0
    have hsz : (((szP n t r d b).toNat : Nat) : Int) = szP n t r d b := by unfold szP; omega
    obtain ⟨p, m2, m3, a', h18, low, runs, hR3, ha'⟩ := drainP h (mb := 0) (lb := 0 + 3) (len := 1) (i := 0) (Q := fun m' a' => (∃ w, HasReg m' 0 (0 + 3) 1 0 ⟨2, 1, (szP n t r d b).toNat, 1, w⟩) ∧ 4 ≤ a') (fun _ => false) (fun _ => 0) (fun _ => 0) (fun _ => 0) (fun _ => 0) m1 ⟨0 + 2, 0 + 1, (szP n t r d b).toNat, 1, w'⟩ 4 hR hsz (by omega) (by omega) (by simp only; omega) (by simp only; omega)
      (fun q hq => by
        refine ⟨?_, rfl⟩
        simp only
        rw [hf.1 q]
        exact stOk0 g) (fun m' a' q1 _ q2 => ⟨⟨_, q1⟩, q2⟩)
    have hR2 := hR.low (a := 4) low (by omega) (by omega) (by simp only; omega) (by simp only; omega)
    have hle := runs.le
    have hb : nPl t d b ≤ 200 := by
      have : d.toNat * (1 + (cl b).toNat) ≤ 6 * 11 := Nat.mul_le_mul (by omega) (by omega)
      unfold nPl; omega
    have run := runOk (most := 100000) (by omega) runs (by omega) (a' - (4 + nPl t d b)) (by omega)
    obtain ⟨m4, h20, _⟩ := steps20 h m3 a'
    obtain ⟨x, rfl⟩ : ∃ x, a' = 4 + nPl t d b + x := ⟨a' - (4 + nPl t d b), by omega⟩
    rw [show 4 + nPl t d b + x - (4 + nPl t d b) = x by omega] at run
    have all1 : ((nms 0 4).all fun q => (nms 0 (4 + (nPl t d b + (x + nPl t d b)))).contains q) = true := all_nms (Nat.le_refl _) (by omega)
    have o1 : offUse (nms 0 4) (nms 0 (4 + (nPl t d b + (x + nPl t d b)))) = nms 4 (nPl t d b + (x + nPl t d b)) := off_nms 0 4 _
    have o2 : offUse (nms 4 (nPl t d b)) (nms 4 (nPl t d b + (x + nPl t d b))) = nms (4 + nPl t d b) (x + nPl t d b) := off_nms 4 _ _
    have o3 : offUse (nms (4 + nPl t d b) x) (nms (4 + nPl t d b) (x + nPl t d b)) = nms (4 + nPl t d b + x) (nPl t d b) := off_nms _ _ _
    have all2 : ((nms 4 (nPl t d b)).all fun q => (offUse (nms 0 4) (nms 0 (4 + (nPl t d b + (x + nPl t d b))))).contains q) = true := by rw [o1]; exact all_nms (Nat.le_refl _) (by omega)
    have all3 : ((nms (4 + nPl t d b) x).all fun q => (offUse (nms 4 (nPl t d b)) (offUse (nms 0 4) (nms 0 (4 + (nPl t d b + (x + nPl t d b)))))).contains q) = true := by rw [o1, o2]; exact all_nms (Nat.le_refl _) (by omega)
    have all4 : ((nms (4 + nPl t d b + x) (nPl t d b)).all fun q => (offUse (nms (4 + nPl t d b) x) (offUse (nms 4 (nPl t d b)) (offUse (nms 0 4) (nms 0 (4 + (nPl t d b + (x + nPl t d b))))))).contains q) = true := by rw [o1, o2, o3]; exact all_nms (Nat.le_refl _) (by omega)
    have hm := h.mul1 hd.1 hd.2
    have hnp : ((nPl t d b : Nat) : Int) = 1 + d * (1 + cl b) + t * 3 + t := by
      have e1 : ((d.toNat * (1 + (cl b).toNat) : Nat) : Int) = d * (1 + cl b) := by
        rw [Int.natCast_mul, Int.natCast_add, Int.toNat_of_nonneg hd.1, Int.toNat_of_nonneg (show 0 ≤ cl b by omega)]; rfl
      unfold nPl
      omega
    have want : IntKind.i64.wrap (IntKind.i64.wrap (IntKind.i64.wrap (2 + IntKind.i64.wrap (d * IntKind.i64.wrap (1 + cl b))) + IntKind.i64.wrap (4 * t)) + IntKind.i64.wrap (6 * n)) = ((nPl t d b : Nat) : Int) + n * 6 + 1 := by
      rw [w1 h, w2 h hd.1 hd.2, wrap64 (x := 2 + d * (1 + cl b)) (by omega) (by omega), wrap64 (x := 4 * t) (by omega) (by omega), wrap64 (x := 6 * n) (by omega) (by omega), wrap64 (x := 2 + d * (1 + cl b) + 4 * t) (by omega) (by omega), wrap64 (by omega) (by omega)]
      omega
    have e1 : ((((nPl t d b : Nat) : Int) + n * 6 + 1 : Int) == IntKind.i64.wrap (IntKind.i64.wrap (IntKind.i64.wrap (2 + IntKind.i64.wrap (d * IntKind.i64.wrap (1 + cl b))) + IntKind.i64.wrap (4 * t)) + IntKind.i64.wrap (6 * n))) = true := by rw [want, beq_iff_eq]
    have e2 : (((n.toNat * 5 + (0 + n.toNat) + 1 + nPl t d b : Nat) : Int) == IntKind.i64.wrap (IntKind.i64.wrap (IntKind.i64.wrap (2 + IntKind.i64.wrap (d * IntKind.i64.wrap (1 + cl b))) + IntKind.i64.wrap (4 * t)) + IntKind.i64.wrap (6 * n))) = true := by rw [want, beq_iff_eq]; omega
    refine ⟨m4, 4 + (nPl t d b + (x + nPl t d b)), ?_⟩
    cases p with
    | over =>
      have := f4_3_o (awake13 noMu) rfl hv rfl h15 all1 (cells16 h m1) h18 all2 (capOk hR2) run all3 rfl h20 all4 e1
      rw [e2] at this
      exact this
    | step =>
      have := f4_3_s (awake13 noMu) rfl hv rfl h15 all1 (cells16 h m1) h18 all2 (capOk hR2) run all3 rfl h20 all4 e1
      rw [e2] at this
      exact this
theorem RevokeSteps (n t r d b g : Int) (hn : (Lit.int .i64 n).wf = true) (ht : (Lit.int .i64 t).wf = true) (hr : (Lit.int .i64 r).wf = true) (hd : (Lit.int .i64 d).wf = true) (hb : (Lit.int .i64 b).wf = true) (hg : (Lit.int .i64 g).wf = true) (w : World) :
    Calls Try.prog 4 #[.agg #[.int .i64 n, .int .i64 t, .int .i64 r, .int .i64 d, .int .i64 b, .int .i64 g]] w fun e w' => e = .returned (.bool true) ∧ Below w.heap.size w w' := by
  obtain ⟨m, l, hm⟩ := ok n t r d b g
  refine calls_of_ok hm (vs := [.agg #[.int .i64 n, .int .i64 t, .int .i64 r, .int .i64 d, .int .i64 b, .int .i64 g]]) (.cons ?_ .nil)
  simp only [pl, Abs]
  exact ⟨[.int .i64 n, .int .i64 t, .int .i64 r, .int .i64 d, .int .i64 b, .int .i64 g], rfl, by simp [AbsL, Abs]⟩
end Go.Proofs.Ytkhjkfbgcpjphaa.Pure
