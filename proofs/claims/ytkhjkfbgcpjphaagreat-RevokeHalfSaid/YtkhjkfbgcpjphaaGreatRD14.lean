/- A state's word 0: free, and stays so. -/
import Derived.Test.YtkhjkfbgcpjphaaGreatRD13
namespace Go.Proofs.YtkhjkfbgcpjphaaGreat.Fun
open Go
set_option linter.unusedVariables false
theorem of0 (m : Mu) : CallOk Tryz.prog 70 [.int .u64 0] m (.tup [.agg [.int .i64 0, .int .i64 0, .int .i64 0], .bool true]) m false [] :=
  callOk_deep_hide (deep_ok Auto.tabOk mixed Auto.fnsOk 1000 30) (by kernel_rfl) rfl rfl m
theorem word0 (m : Mu) : CallOk Tryz.prog 72 [.agg [.int .i64 0, .int .i64 0, .int .i64 0]] m (.int .u64 0) m false [] :=
  callOk_deep_hide (deep_ok Auto.tabOk mixed Auto.fnsOk 1000 30) (by kernel_rfl) rfl rfl m
theorem stOk0 (g : Int) : StOk g 0 0 0 0 0 := by
  intro n t r d b h k h0 h1 dv hdv m
  rcases hdv with rfl | ⟨row, len, rfl⟩
  · exact f69_7_s (of0 m) rfl (by decide) (by decide) (by decide) (state79 h h0 h1 m) (word0 m) (store69 _ _ _ _ m)
  · exact f69_2_s (of0 m) rfl (by decide) (by decide) (by decide) (state79 h h0 h1 m) (word0 m) (store69 _ _ _ _ m)
end Go.Proofs.YtkhjkfbgcpjphaaGreat.Fun
