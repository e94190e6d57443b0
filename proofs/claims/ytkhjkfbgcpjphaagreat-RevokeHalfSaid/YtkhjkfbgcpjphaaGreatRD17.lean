/- awake of layer 20. -/
import Derived.Test.YtkhjkfbgcpjphaaGreatRD16
namespace Go.Proofs.YtkhjkfbgcpjphaaGreat.Fun
open Go
set_option linter.unusedVariables false
theorem pfs : PF 2 1 4 0 1 1 := by constructor <;> omega
def sm20 : DV := .agg [.int .i64 2, .int .i64 1, .int .i64 4, .int .i64 0, .int .i64 1, .int .i64 1]
noncomputable def t20 : List (Known Tryz.prog) := [⟨37, [sm20], .bool true, formed37 pfs⟩,
  ⟨70, [.int .u64 0], .tup [.agg [.int .i64 0, .int .i64 0, .int .i64 0], .bool true], of0⟩, ⟨72, [.agg [.int .i64 0, .int .i64 0, .int .i64 0]], .int .u64 0, word0⟩]
theorem awake13 (m : Mu) : CallOk Tryz.prog 4 [] m (.bool true) m false [] :=
  callOk_deep_hide (deepK_ok Auto.tabOk mixed Auto.fnsOk t20 1000 30) (by kernel_rfl) rfl rfl m
end Go.Proofs.YtkhjkfbgcpjphaaGreat.Fun
