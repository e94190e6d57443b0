/- Accesses of a region, told by what is known of its cells; programs that run to their end. -/
import Derived.Test.YtkhjkfbgcpjphaaGreatFunWays
namespace Go.Proofs.YtkhjkfbgcpjphaaGreat.Fun
open Go
set_option linter.unusedVariables false
/-- A region: the names of its block and of its words, how many these are, its epoch, its words. -/
structure Reg where
  rb : Nat
  wb : Nat
  n : Nat
  e : Int
  w : Nat → Int
/-- The memory mb has, in its row lb of len regions, the region R at i. -/
structure HasReg (m : Mu) (mb lb len i : Nat) (R : Reg) : Prop where
  l : m mb 0 = some (.vec lb 0 len 1)
  c : ∃ c, m mb 1 = some (.int .i64 c)
  lt : i < len
  at_ : m lb i = some (.adr R.rb 0)
  ws : m R.rb 0 = some (.vec R.wb 0 R.n 1)
  ep : m R.rb 1 = some (.int .u64 R.e)
  w : ∀ o, o < R.n → m R.wb o = some (.int .u64 (R.w o))
  d1 : R.wb ≠ mb
  d2 : R.wb ≠ lb
  d3 : R.wb ≠ R.rb
  d4 : mb ≠ lb
  d5 : mb ≠ R.rb
def upd (w : Nat → Int) (k : Nat) (x : Int) : Nat → Int := fun o => if o = k then x else w o
theorem regionOk {m : Mu} {mb lb len i : Nat} {R : Reg} (h : HasReg m mb lb len i R) : CallOk Tryz.prog 29 [.adr mb 0, .int .i64 i] m (.adr R.rb 0) m false [] :=
  f29_1 (decide_eq_false (by omega)) h.l (decide_eq_false (by have := h.lt; omega)) h.l (decide_eq_true (by have := h.lt; omega)) (by simpa using h.at_)
theorem goodOk {m : Mu} {mb lb len i : Nat} {R : Reg} (h : HasReg m mb lb len i R) (e : Int) : CallOk Tryz.prog 81 [.adr mb 0, .agg [.int .i64 i, .int .u64 e]] m (.bool (R.e == e)) m false [] :=
  f81_1 (regionOk h) h.ep
theorem sizeOk {m : Mu} {mb lb len i : Nat} {R : Reg} (h : HasReg m mb lb len i R) : CallOk Tryz.prog 35 [.adr mb 0, .int .i64 i] m (.int .i64 (R.n : Int)) m false [] :=
  f35_1 (regionOk h) h.ws
theorem capOk {m : Mu} {mb lb len i : Nat} {R : Reg} (h : HasReg m mb lb len i R) : CallOk Tryz.prog 9 [.adr mb 0, .int .i64 i] m (.agg [.int .i64 i, .int .u64 R.e]) m false [] :=
  f9_1 (regionOk h) h.ep
/-- A store. -/
theorem doStore {m : Mu} {mb lb len i : Nat} {R : Reg} (h : HasReg m mb lb len i R) {a : Int} (h0 : 0 ≤ a) (h1 : a < R.n) (x k : Int) :
    ∃ m', CallOk Tryz.prog 41 [.adr mb 0, .agg [.int .i64 i, .int .u64 R.e], .agg [.int .i64 1, .int .i64 a, .int .u64 x, .int .u64 k]] m (.tup [.int .u64 (R.w a.toNat), .bool true]) m' false [] ∧
      HasReg m' mb lb len i { R with w := upd R.w a.toNat x } ∧ ∀ b, b ≠ R.wb → b ≠ mb → ∀ o, m' b o = m b o := by
  obtain ⟨c, hc⟩ := h.c
  have hw : m R.wb (0 + a.toNat * 1) = some (.int .u64 (R.w a.toNat)) := by rw [Nat.zero_add, Nat.mul_one]; exact h.w _ (by omega)
  have d1 := h.d1
  have hc' : (updMu m R.wb (0 + a.toNat * 1) [.int .u64 x]) mb 1 = some (.int .i64 c) := by rw [updMu_get, if_neg (fun q => d1 q.1.symm)]; exact hc
  refine ⟨_, f41_6 (goodOk h R.e) (by simp) (decide_eq_false (by omega)) (sizeOk h) (decide_eq_false (by omega)) (by decide) (by decide) h.l (decide_eq_true (by have := h.lt; omega)) (by simpa using h.at_) h.ws (decide_eq_true (by omega)) hw (by decide) (by rw [hw]; rfl) hc' (by rw [hc']; rfl), ?_, ?_⟩
  · have far : ∀ b, b ≠ R.wb → b ≠ mb → ∀ o, (updMu (updMu m R.wb (0 + a.toNat * 1) [.int .u64 x]) mb 1 [.int .i64 (IntKind.i64.wrap (c + 1))]) b o = m b o := fun b h1 h2 o => by
      rw [updMu_get, if_neg (fun q => h2 q.1), updMu_get, if_neg (fun q => h1 q.1)]
    refine ⟨?_, ⟨IntKind.i64.wrap (c + 1), ?_⟩, h.lt, ?_, ?_, ?_, fun o ho => ?_, h.d1, h.d2, h.d3, h.d4, h.d5⟩
    · rw [updMu_get, if_neg (by simp), updMu_get, if_neg (fun q => d1 q.1.symm)]; exact h.l
    · rw [updMu_get, if_pos (by simp)]; rfl
    · rw [far _ (Ne.symm h.d2) (Ne.symm h.d4)]; exact h.at_
    · rw [far _ (Ne.symm h.d3) (Ne.symm h.d5)]; exact h.ws
    · rw [far _ (Ne.symm h.d3) (Ne.symm h.d5)]; exact h.ep
    · rw [updMu_get, if_neg (fun q => d1 q.1), updMu_get]
      simp only [upd, Nat.zero_add, Nat.mul_one, List.length_singleton, true_and]
      by_cases he : o = a.toNat
      · subst he; rw [if_pos ⟨Nat.le_refl _, by omega⟩, if_pos rfl]; simp
      · rw [if_neg (by omega), if_neg he]; exact h.w o ho
  · intro b h1 h2 o
    rw [updMu_get, if_neg (fun q => h2 q.1), updMu_get, if_neg (fun q => h1 q.1)]
/-- A load. -/
theorem doLoad {m : Mu} {mb lb len i : Nat} {R : Reg} (h : HasReg m mb lb len i R) {a : Int} (h0 : 0 ≤ a) (h1 : a < R.n) (x k : Int) :
    ∃ m', CallOk Tryz.prog 41 [.adr mb 0, .agg [.int .i64 i, .int .u64 R.e], .agg [.int .i64 0, .int .i64 a, .int .u64 x, .int .u64 k]] m (.tup [.int .u64 (R.w a.toNat), .bool true]) m' false [] ∧
      HasReg m' mb lb len i R ∧ ∀ b, b ≠ mb → ∀ o, m' b o = m b o := by
  obtain ⟨c, hc⟩ := h.c
  have hw : m R.wb (0 + a.toNat * 1) = some (.int .u64 (R.w a.toNat)) := by rw [Nat.zero_add, Nat.mul_one]; exact h.w _ (by omega)
  have far : ∀ b, b ≠ mb → ∀ o, (updMu m mb 1 [.int .i64 (IntKind.i64.wrap (c + 1))]) b o = m b o := fun b h2 o => by
    rw [updMu_get, if_neg (fun q => h2 q.1)]
  refine ⟨_, f41_1 (goodOk h R.e) (by simp) (decide_eq_false (by omega)) (sizeOk h) (decide_eq_false (by omega)) (by decide) (by decide) h.l (decide_eq_true (by have := h.lt; omega)) (by simpa using h.at_) h.ws (decide_eq_true (by omega)) hw (by decide) (by decide) (by decide) hc (by rw [hc]; rfl), ?_, far⟩
  refine ⟨?_, ⟨IntKind.i64.wrap (c + 1), ?_⟩, h.lt, ?_, ?_, ?_, fun o ho => ?_, h.d1, h.d2, h.d3, h.d4, h.d5⟩
  · rw [updMu_get, if_neg (by simp)]; exact h.l
  · rw [updMu_get, if_pos (by simp)]; rfl
  · rw [far _ (Ne.symm h.d4)]; exact h.at_
  · rw [far _ (Ne.symm h.d5)]; exact h.ws
  · rw [far _ (Ne.symm h.d5)]; exact h.ep
  · rw [far _ h.d1]; exact h.w o ho
end Go.Proofs.YtkhjkfbgcpjphaaGreat.Fun
