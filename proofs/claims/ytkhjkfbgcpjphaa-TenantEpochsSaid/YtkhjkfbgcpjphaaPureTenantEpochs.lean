/- TenantEpochs: a live tenant's epoch is one more than it was revoked. -/
import Derived.Test.YtkhjkfbgcpjphaaTE3
import Derived.Test.YtkhjkfbgcpjphaaTE4
import Derived.Test.YtkhjkfbgcpjphaaFunLaw
namespace Go.Proofs.YtkhjkfbgcpjphaaW.PrintWords
end Go.Proofs.YtkhjkfbgcpjphaaW.PrintWords
namespace Go.Proofs.Ytkhjkfbgcpjphaa.Pure
open Go Go.RowKit Go.Proofs.Ytkhjkfbgcpjphaa.Fun Go.Proofs.Ytkhjkfbgcpjphaa.Fun.Auto
set_option linter.unusedVariables false
theorem wrapi : ∀ k : Nat, k < 21 → IntKind.i64.wrap ((k : Int) + 1) = (k : Int) + 1 := by decide
theorem wrapu : ∀ k : Nat, k < 21 → IntKind.u64.wrap ((k : Int) + 1) = (k : Int) + 1 := by decide
theorem wrapt : ∀ k : Nat, k < 21 → IntKind.i64.wrap (k : Int) = (k : Int) := by decide
/-- The loop, from its round k on. -/
theorem turns (a0 : Int) (n : Nat) (hn : Int.tmod a0 20 = (n : Int)) (h20 : n < 20) (yt2 yd : Bool) : ∀ (d k : Nat), k + d = n →
    LoopOk Try.prog (codeAt [true, true, true, true, false, true, false, false] (Try.f8.body.getD .skip)) (L8_1 a0 0 yt2 (k : Int) (rowsMu (He ((k : Int) + 1) true)) yd []) (.exit 0) (L8_1 a0 0 yt2 (n : Int) (rowsMu (He ((n : Int) + 1) true)) yd [])
  | 0, k, h => by
    obtain rfl : k = n := by omega
    exact .last (by simp) (L8_1_1 (by rw [hn, wrapt _ (by omega)]; simp))
  | d + 1, k, h => by
    have hk := turns a0 n hn h20 yt2 yd d (k + 1) (by omega)
    have w1 := wrapi k (by omega)
    have w2 := wrapu k (by omega)
    have w3 := wrapu (k + 1) (by omega)
    have hr := cRevoke ((k : Int) + 1)
    rw [show ((k : Int) + 1 + 1) = ((k + 1 : Nat) : Int) + 1 by omega, w3] at hr
    refine .step (s1 := L8_1 a0 0 yt2 ((k + 1 : Nat) : Int) (rowsMu (He (((k + 1 : Nat) : Int) + 1) true)) yd []) ?_ hk
    have this : CodeOk Try.prog (codeAt [true, true, true, true, false, true, false, false] (Try.f8.body.getD .skip)) (L8_1 a0 0 yt2 (k : Int) (rowsMu (He ((k : Int) + 1) true)) yd []) .normal (L8_1 a0 0 yt2 (IntKind.i64.wrap ((k : Int) + 1)) (rowsMu (He (((k + 1 : Nat) : Int) + 1) true)) yd []) := L8_1_2 (yt2 := yt2) (yd := yd) (a0 := a0) (yt5 := (k : Int)) (by rw [hn, wrapt _ (by omega)]; exact decide_eq_true (by omega)) (cCap ((k : Int) + 1)) (by rw [w1, w2]; simp) hr (cCapNo _) (by simp) (cCreate _) (by simp)
    rw [w1] at this
    exact @this
theorem ok (a0 : Int) (h0 : 0 ≤ a0) : ∃ m, CallOk Try.prog 8 [.int .u8 a0] noMu (.bool true) m false [0, 1, 2, 3, 4, 5, 6] := by
  obtain ⟨n, hn⟩ : ∃ n : Nat, Int.tmod a0 20 = (n : Int) := ⟨(Int.tmod a0 20).toNat, by rw [Int.toNat_of_nonneg (Int.tmod_nonneg _ h0)]⟩
  have h20 : n < 20 := by
    have := Int.tmod_lt_of_pos a0 (b := 20) (by omega)
    omega
  have loop : CodeOk Try.prog (codeAt [true, true, true, true, false, true, false] (Try.f8.body.getD .skip)) (L8_1 a0 0 false 0 (rowsMu (He 1 true)) false []) (.exit 0) (L8_1 a0 0 false (n : Int) (rowsMu (He ((n : Int) + 1) true)) false []) := by
    rw [L8_1_loop]
    exact (turns a0 n hn h20 false false n 0 (by omega)).code
  have := f8_2 (a0 := a0) (k9 noMu) rfl (c33 noMu) cNew (by rfl) (by simp) loop (cLive _) rfl (cMemory _) (cCap _) (cGood _)
  rw [show (((n : Int) + 1) == ((n : Int) + 1)) = true by simp] at this
  exact ⟨_, this⟩
theorem TenantEpochs (a0 : Int) (h : (Lit.int .u8 a0).wf = true) (w : World) :
    Calls Try.prog 8 #[.int .u8 a0] w fun e w' => e = .returned (.bool true) ∧ Below w.heap.size w w' := by
  obtain ⟨m, hm⟩ := ok a0 (by simp [Lit.wf, IntKind.min, IntKind.max, IntKind.signed, IntKind.bits] at h; omega)
  exact calls_of_ok hm (vs := [.int .u8 a0]) (.cons (by simp only [Abs]) .nil)
end Go.Proofs.Ytkhjkfbgcpjphaa.Pure
