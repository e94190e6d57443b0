import Derived.Test.YtkhjkfbgcpjphaaTE1
namespace Go.Proofs.Ytkhjkfbgcpjphaa.Fun.Auto
open Go
set_option linter.unusedVariables false
noncomputable def t2 : List (Known Try.prog) := [⟨37, [sm], .bool true, k37⟩, ⟨38, [sm], .int .i64 19, k38⟩, ⟨18, [sm], _, k18⟩]
theorem k9 (m : Mu) : CallOk Try.prog 9 [] m (.bool true) m false [] :=
  callOk_deep_hide (deepK_ok tabOk mixed fnsOk t2 1000 20) (by kernel_rfl) rfl rfl m
end Go.Proofs.Ytkhjkfbgcpjphaa.Fun.Auto
