/- RevokeSteps: whatever comes in, the law's call returns true and leaves what came in as it was. -/
import Derived.Test.YtkhjkfbgcpjphaaRows
import Derived.Test.YtkhjkfbgcpjphaaLawWords
import Derived.Test.YtkhjkfbgcpjphaaPureRevokeSteps
import Derived.WalkKit
import Derived.ProofKit
import Derived.OpenShut
import Derived.ShutString
import Derived.ChangeOld
import Derived.Below
import Derived.SizedLaws
import Derived.Lib.SmallJoins
import Derived.Test.YtkhjkfbgcpjphaaLawSix
namespace Go.Proofs.Ytkhjkfbgcpjphaa.revokeSteps
open Go.ChangeShapes Go.WideShapes Go.ChangeAt Go.RowKit Go.Joins Go.Proofs.Ytkhjkfbgcpjphaa.LawWords Go.Proofs.YtkhjkfbgcpjphaaW.PrintWords Go.Proofs.Ytkhjkfbgcpjphaa.LawSix
open Go.ChangeMaps (open_string shut_string)
set_option linter.unusedVariables false
theorem own : ownKnob Try.prog.godebug = none := by kernel_rfl
theorem laid : laidOutB Try.prog = true := by kernel_rfl
theorem cells30 : Try.prog.cellsOf 30 = 6 := by kernel_rfl
set_option maxRecDepth 100000 in
theorem lifted (os : Os) (started : os.Started) (H : Type) (enc : TypeId × Value → H) :
    ReturnsInHanded {} Try.checked os 4 .any (Rows.revokeStepsSpec.pre6 enc Try.prog Try.f4 Rows.revokeStepsRow.domain false) (Rows.revokeStepsSpec.post enc Try.prog Try.f4 false true false false) := by
  refine returnsInHanded_of_change_sized (C := Try.checked) own started (by kernel_rfl) Try.func4
    (ChangeSpec.witness6 (enc := enc) (C := Try.checked) false ⟨#[], #[.agg #[.int .i64 0, .int .i64 0, .int .i64 0, .int .i64 0, .int .i64 0, .int .i64 0]], []⟩ 8 (by kernel_rfl) (by kernel_rfl) (by kernel_rfl) (by kernel_rfl)) ?_
  intro W base args ds gs before hval0 hW hcnd hsz0 _
  have hval : ∀ (j : Nat) t v, Try.f4.params[j]? = some t → args[j]? = some v → Value.okWide Try.prog W .any base t v := hval0
  have hW' := hW
  obtain ⟨p, q, hA0, hV, rfl, hfz, hnd⟩ := hW
  have hA : DataW.TrodAll enc Try.prog W 0 (fun _ => true) true Try.f4.params.toList args.toList ds p := hA0
  have hlt : ∀ x ∈ p, x.block < W.heap.size := fun x hx => by have h := hW'.lt x (List.mem_append_left _ hx); simpa using h
  rw [Try.params4] at hA hval
  have hA' := hA
  obtain ⟨v0, vs0, d0, ds0, p0, q0, hargs, rfl, rfl, h0, r0⟩ := trodAll_cons hA
  obtain ⟨rfl, rfl, rfl⟩ := trodAll_nil r0
  obtain rfl : args = #[v0] := by cases args; simp_all
  obtain ⟨rfl, rfl⟩ := trodVars_none hV
  obtain ⟨c00, c01, c02, c03, c04, c05, y00, y01, y02, y03, y04, y05, n0, rfl, rfl, rfl, hy00, hy01, hy02, hy03, hy04, hy05⟩ := open_six Try.underlying30 (by kernel_rfl) cells30 (hval 0 30 v0 rfl rfl) h0
  obtain ⟨a0_0, e00, rfl, w0_0⟩ := DataW.trod_int Try.underlying3 hy00
  obtain ⟨a0_1, e01, rfl, w0_1⟩ := DataW.trod_int Try.underlying3 hy01
  obtain ⟨a0_2, e02, rfl, w0_2⟩ := DataW.trod_int Try.underlying3 hy02
  obtain ⟨a0_3, e03, rfl, w0_3⟩ := DataW.trod_int Try.underlying3 hy03
  obtain ⟨a0_4, e04, rfl, w0_4⟩ := DataW.trod_int Try.underlying3 hy04
  obtain ⟨a0_5, e05, rfl, w0_5⟩ := DataW.trod_int Try.underlying3 hy05
  simp at e00 e01 e02 e03 e04 e05
  subst e00
  subst e01
  subst e02
  subst e03
  subst e04
  subst e05
  refine (Pure.RevokeSteps a0_0 a0_1 a0_2 a0_3 a0_4 a0_5 w0_0 w0_1 w0_2 w0_3 w0_4 w0_5 W).mono fun e W' ⟨he, bel⟩ => ?_
  subst he
  exact ⟨_, rfl, _, _, _, [], _, [], hW', trodAll_mk1 (shut_bool Try.underlying4 _), trodAll_below laid bel _ _ _ _ (by kernel_rfl) hlt hA', rfl, bel.frame _, fun h => by cases h⟩
theorem over : Rows.revokeStepsRow.holds Try.pinned (OpenSpec.ofChange Rows.revokeStepsSpec) :=
  OpenClaim.holds_of_wide 4 Try.f4 rfl rfl rfl rfl rfl rfl rfl ⟨rfl, rfl, rfl, rfl, rfl⟩ rfl rfl rfl rfl rfl (by kernel_rfl) Try.func4 (by kernel_rfl)
    (of_decide_eq_true (by kernel_rfl)) (by unfold Func.isWrapper; first | (rw [if_pos (by decide +kernel)]; kernel_rfl) | (rw [if_neg (by decide +kernel)]; exact ⟨rfl, rfl⟩))
    (fun os started H enc _ => lifted os started H enc)
end Go.Proofs.Ytkhjkfbgcpjphaa.revokeSteps
namespace Go.Proofs.Ytkhjkfbgcpjphaa
/-- The given statement. -/
theorem revokeSteps_holds : Rows.RevokeStepsSaid := revokeSteps.over
#print axioms revokeSteps_holds
end Go.Proofs.Ytkhjkfbgcpjphaa
