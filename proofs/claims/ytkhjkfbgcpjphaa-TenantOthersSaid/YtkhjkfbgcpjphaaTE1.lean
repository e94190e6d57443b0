import Derived.Test.YtkhjkfbgcpjphaaFunTabs
import Derived.Test.YtkhjkfbgcpjphaaFunHide
namespace Go.Proofs.Ytkhjkfbgcpjphaa.Fun.Auto
open Go
set_option linter.unusedVariables false
def sm : DV := .agg [.int .i64 2, .int .i64 1, .int .i64 4, .int .i64 0, .int .i64 1, .int .i64 1]
theorem k37 (m : Mu) : CallOk Try.prog 37 [sm] m (.bool true) m false [] :=
  callOk_deep_hide (deepK_ok tabOk mixed fnsOk [] 1000 9) (by kernel_rfl) rfl rfl m
noncomputable def t1 : List (Known Try.prog) := [⟨37, [sm], .bool true, k37⟩]
theorem k38 (m : Mu) : CallOk Try.prog 38 [sm] m (.int .i64 19) m false [] :=
  callOk_deep_hide (deepK_ok tabOk mixed fnsOk t1 1000 9) (by kernel_rfl) rfl rfl m
theorem k18 (m : Mu) : CallOk Try.prog 18 [sm] m (.agg [.bool false, .int .i64 0, .int .i64 1, .int .i64 0, .int .u64 0, .int .u64 0, .func 97 [.any]]) m false [] :=
  callOk_deep_hide (deepK_ok tabOk mixed fnsOk t1 1000 9) (by kernel_rfl) rfl rfl m
end Go.Proofs.Ytkhjkfbgcpjphaa.Fun.Auto
