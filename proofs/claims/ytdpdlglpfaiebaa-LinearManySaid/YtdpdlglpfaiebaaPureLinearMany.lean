/- LinearMany: plans, counts, orders, as said (printed by wip/lmany.py). -/
import Derived.Test.YtdpdlglpfaiebaaLM0
import Derived.Test.YtdpdlglpfaiebaaLM1
import Derived.Test.YtdpdlglpfaiebaaLM2
import Derived.Test.YtdpdlglpfaiebaaLM3
import Derived.Test.YtdpdlglpfaiebaaLM4
import Derived.Test.YtdpdlglpfaiebaaLM5
import Derived.Test.YtdpdlglpfaiebaaLM6
import Derived.Test.YtdpdlglpfaiebaaLM7
import Derived.Test.YtdpdlglpfaiebaaLM8
import Derived.Test.YtdpdlglpfaiebaaLM9
import Derived.Test.YtdpdlglpfaiebaaLM10
import Derived.Test.YtdpdlglpfaiebaaLM11
import Derived.Test.YtdpdlglpfaiebaaLM12
import Derived.Test.YtdpdlglpfaiebaaLM13
namespace Go.Proofs.Ytdpdlglpfaiebaa.Pure
open Go Go.Proofs.Ytdpdlglpfaiebaa.Fun Go.RowKit
set_option linter.unusedVariables false
theorem ok (n how : Int) (h1 : 0 ≤ n ∧ n ≤ 255) (h2 : 0 ≤ how ∧ how ≤ 255) : CallOk Try.prog 7 [.int .u8 n, .int .u8 how] noMu (.bool true) noMu false [] := by
  have e1 : n.tmod 30 = n % 30 := Int.tmod_eq_emod_of_nonneg h1.1
  have e2 : how.tmod 4 = how % 4 := Int.tmod_eq_emod_of_nonneg h2.1
  have w1 : IntKind.i64.wrap (n.tmod 30) = n % 30 := by
    rw [e1]
    unfold IntKind.wrap
    simp only [IntKind.signed, IntKind.bits]
    simp
    omega
  have hh : how.tmod 4 = 0 ∨ how.tmod 4 = 1 ∨ how.tmod 4 = 2 ∨ how.tmod 4 = 3 := by rw [e2]; omega
  have hn : IntKind.i64.wrap (n.tmod 30) = 0 ∨ IntKind.i64.wrap (n.tmod 30) = 1 ∨ IntKind.i64.wrap (n.tmod 30) = 2 ∨ IntKind.i64.wrap (n.tmod 30) = 3 ∨ IntKind.i64.wrap (n.tmod 30) = 4 ∨ IntKind.i64.wrap (n.tmod 30) = 5 ∨ IntKind.i64.wrap (n.tmod 30) = 6 ∨ IntKind.i64.wrap (n.tmod 30) = 7 ∨ IntKind.i64.wrap (n.tmod 30) = 8 ∨ IntKind.i64.wrap (n.tmod 30) = 9 ∨ IntKind.i64.wrap (n.tmod 30) = 10 ∨ IntKind.i64.wrap (n.tmod 30) = 11 ∨ IntKind.i64.wrap (n.tmod 30) = 12 ∨ IntKind.i64.wrap (n.tmod 30) = 13 ∨ IntKind.i64.wrap (n.tmod 30) = 14 ∨ IntKind.i64.wrap (n.tmod 30) = 15 ∨ IntKind.i64.wrap (n.tmod 30) = 16 ∨ IntKind.i64.wrap (n.tmod 30) = 17 ∨ IntKind.i64.wrap (n.tmod 30) = 18 ∨ IntKind.i64.wrap (n.tmod 30) = 19 ∨ IntKind.i64.wrap (n.tmod 30) = 20 ∨ IntKind.i64.wrap (n.tmod 30) = 21 ∨ IntKind.i64.wrap (n.tmod 30) = 22 ∨ IntKind.i64.wrap (n.tmod 30) = 23 ∨ IntKind.i64.wrap (n.tmod 30) = 24 ∨ IntKind.i64.wrap (n.tmod 30) = 25 ∨ IntKind.i64.wrap (n.tmod 30) = 26 ∨ IntKind.i64.wrap (n.tmod 30) = 27 ∨ IntKind.i64.wrap (n.tmod 30) = 28 ∨ IntKind.i64.wrap (n.tmod 30) = 29 := by rw [w1]; omega
  rcases hn with hn | hn | hn | hn | hn | hn | hn | hn | hn | hn | hn | hn | hn | hn | hn | hn | hn | hn | hn | hn | hn | hn | hn | hn | hn | hn | hn | hn | hn | hn
  · rcases hh with hh | hh | hh | hh
    · exact lm_0_0 hn hh
    · exact lm_0_1 hn hh
    · exact lm_0_2 hn hh
    · exact lm_0_3 hn hh
  · rcases hh with hh | hh | hh | hh
    · exact lm_1_0 hn hh
    · exact lm_1_1 hn hh
    · exact lm_1_2 hn hh
    · exact lm_1_3 hn hh
  · rcases hh with hh | hh | hh | hh
    · exact lm_2_0 hn hh
    · exact lm_2_1 hn hh
    · exact lm_2_2 hn hh
    · exact lm_2_3 hn hh
  · rcases hh with hh | hh | hh | hh
    · exact lm_3_0 hn hh
    · exact lm_3_1 hn hh
    · exact lm_3_2 hn hh
    · exact lm_3_3 hn hh
  · rcases hh with hh | hh | hh | hh
    · exact lm_4_0 hn hh
    · exact lm_4_1 hn hh
    · exact lm_4_2 hn hh
    · exact lm_4_3 hn hh
  · rcases hh with hh | hh | hh | hh
    · exact lm_5_0 hn hh
    · exact lm_5_1 hn hh
    · exact lm_5_2 hn hh
    · exact lm_5_3 hn hh
  · rcases hh with hh | hh | hh | hh
    · exact lm_6_0 hn hh
    · exact lm_6_1 hn hh
    · exact lm_6_2 hn hh
    · exact lm_6_3 hn hh
  · rcases hh with hh | hh | hh | hh
    · exact lm_7_0 hn hh
    · exact lm_7_1 hn hh
    · exact lm_7_2 hn hh
    · exact lm_7_3 hn hh
  · rcases hh with hh | hh | hh | hh
    · exact lm_8_0 hn hh
    · exact lm_8_1 hn hh
    · exact lm_8_2 hn hh
    · exact lm_8_3 hn hh
  · rcases hh with hh | hh | hh | hh
    · exact lm_9_0 hn hh
    · exact lm_9_1 hn hh
    · exact lm_9_2 hn hh
    · exact lm_9_3 hn hh
  · rcases hh with hh | hh | hh | hh
    · exact lm_10_0 hn hh
    · exact lm_10_1 hn hh
    · exact lm_10_2 hn hh
    · exact lm_10_3 hn hh
  · rcases hh with hh | hh | hh | hh
    · exact lm_11_0 hn hh
    · exact lm_11_1 hn hh
    · exact lm_11_2 hn hh
    · exact lm_11_3 hn hh
  · rcases hh with hh | hh | hh | hh
    · exact lm_12_0 hn hh
    · exact lm_12_1 hn hh
    · exact lm_12_2 hn hh
    · exact lm_12_3 hn hh
  · rcases hh with hh | hh | hh | hh
    · exact lm_13_0 hn hh
    · exact lm_13_1 hn hh
    · exact lm_13_2 hn hh
    · exact lm_13_3 hn hh
  · rcases hh with hh | hh | hh | hh
    · exact lm_14_0 hn hh
    · exact lm_14_1 hn hh
    · exact lm_14_2 hn hh
    · exact lm_14_3 hn hh
  · rcases hh with hh | hh | hh | hh
    · exact lm_15_0 hn hh
    · exact lm_15_1 hn hh
    · exact lm_15_2 hn hh
    · exact lm_15_3 hn hh
  · rcases hh with hh | hh | hh | hh
    · exact lm_16_0 hn hh
    · exact lm_16_1 hn hh
    · exact lm_16_2 hn hh
    · exact lm_16_3 hn hh
  · rcases hh with hh | hh | hh | hh
    · exact lm_17_0 hn hh
    · exact lm_17_1 hn hh
    · exact lm_17_2 hn hh
    · exact lm_17_3 hn hh
  · rcases hh with hh | hh | hh | hh
    · exact lm_18_0 hn hh
    · exact lm_18_1 hn hh
    · exact lm_18_2 hn hh
    · exact lm_18_3 hn hh
  · rcases hh with hh | hh | hh | hh
    · exact lm_19_0 hn hh
    · exact lm_19_1 hn hh
    · exact lm_19_2 hn hh
    · exact lm_19_3 hn hh
  · rcases hh with hh | hh | hh | hh
    · exact lm_20_0 hn hh
    · exact lm_20_1 hn hh
    · exact lm_20_2 hn hh
    · exact lm_20_3 hn hh
  · rcases hh with hh | hh | hh | hh
    · exact lm_21_0 hn hh
    · exact lm_21_1 hn hh
    · exact lm_21_2 hn hh
    · exact lm_21_3 hn hh
  · rcases hh with hh | hh | hh | hh
    · exact lm_22_0 hn hh
    · exact lm_22_1 hn hh
    · exact lm_22_2 hn hh
    · exact lm_22_3 hn hh
  · rcases hh with hh | hh | hh | hh
    · exact lm_23_0 hn hh
    · exact lm_23_1 hn hh
    · exact lm_23_2 hn hh
    · exact lm_23_3 hn hh
  · rcases hh with hh | hh | hh | hh
    · exact lm_24_0 hn hh
    · exact lm_24_1 hn hh
    · exact lm_24_2 hn hh
    · exact lm_24_3 hn hh
  · rcases hh with hh | hh | hh | hh
    · exact lm_25_0 hn hh
    · exact lm_25_1 hn hh
    · exact lm_25_2 hn hh
    · exact lm_25_3 hn hh
  · rcases hh with hh | hh | hh | hh
    · exact lm_26_0 hn hh
    · exact lm_26_1 hn hh
    · exact lm_26_2 hn hh
    · exact lm_26_3 hn hh
  · rcases hh with hh | hh | hh | hh
    · exact lm_27_0 hn hh
    · exact lm_27_1 hn hh
    · exact lm_27_2 hn hh
    · exact lm_27_3 hn hh
  · rcases hh with hh | hh | hh | hh
    · exact lm_28_0 hn hh
    · exact lm_28_1 hn hh
    · exact lm_28_2 hn hh
    · exact lm_28_3 hn hh
  · rcases hh with hh | hh | hh | hh
    · exact lm_29_0 hn hh
    · exact lm_29_1 hn hh
    · exact lm_29_2 hn hh
    · exact lm_29_3 hn hh
theorem LinearMany (n how : Int) (hn : (Lit.int .u8 n).wf = true) (hh : (Lit.int .u8 how).wf = true) (w : World) : Calls Try.prog 7 #[.int .u8 n, .int .u8 how] w fun e w' => e = .returned (.bool true) ∧ Below w.heap.size w w' := by
  simp [Lit.wf, IntKind.min, IntKind.max, IntKind.signed, IntKind.bits] at hn hh
  exact calls_of_ok (ok n how (by omega) (by omega)) (vs := [.int .u8 n, .int .u8 how]) (.cons (by simp only [Abs]) (.cons (by simp only [Abs]) .nil))
end Go.Proofs.Ytdpdlglpfaiebaa.Pure
