/- HandleApart: whatever comes in, the law's call returns true and leaves what came in as it was. -/
import Derived.Test.YtdmenimdhcicjaaRows
import Derived.Test.YtdmenimdhcicjaaLawWords
import Derived.Test.YtdmenimdhcicjaaPureHandleApart
import Derived.WalkKit
import Derived.ProofKit
import Derived.OpenShut
import Derived.ShutString
import Derived.ChangeOld
import Derived.Below
import Derived.SizedLaws
import Derived.Lib.SmallJoins
import Derived.Test.YtdmenimdhcicjaaLawArr
namespace Go.Proofs.Ytdmenimdhcicjaa.handleApart
open Go.ChangeShapes Go.WideShapes Go.ChangeAt Go.RowKit Go.Joins Go.Proofs.Ytdmenimdhcicjaa.LawWords Go.Proofs.YtdmenimdhcicjaaW.PrintWords
open Go.ChangeMaps (open_string shut_string)
set_option linter.unusedVariables false
theorem own : ownKnob Try.prog.godebug = none := by kernel_rfl
theorem laid : laidOutB Try.prog = true := by kernel_rfl
theorem cells3 : Try.prog.cellsOf 3 = 1 := by kernel_rfl
theorem cells33 : Try.prog.cellsOf 33 = 3 := by kernel_rfl
theorem cells34 : Try.prog.cellsOf 34 = 2 := by kernel_rfl
set_option maxRecDepth 100000 in
theorem lifted (os : Os) (started : os.Started) (H : Type) (enc : TypeId × Value → H) :
    ReturnsInHanded {} Try.checked os 4 .any (Rows.handleApartSpec.pre6 enc Try.prog Try.f4 Rows.handleApartRow.domain false) (Rows.handleApartSpec.post enc Try.prog Try.f4 false true false false) := by
  refine returnsInHanded_of_change_sized (C := Try.checked) own started (by kernel_rfl) Try.func4
    (ChangeSpec.witness6 (enc := enc) (C := Try.checked) false ⟨#[], #[.agg #[.int .i64 0, .int .i64 0, .int .i64 0], .agg #[.int .i64 0, .int .i64 0, .int .i64 0], .agg #[.int .i64 0, .int .i64 0]], []⟩ 8 (by kernel_rfl) (by kernel_rfl) (by kernel_rfl) (by kernel_rfl)) ?_
  intro W base args ds gs before hval0 hW hcnd hsz0 _
  have hval : ∀ (j : Nat) t v, Try.f4.params[j]? = some t → args[j]? = some v → Value.okWide Try.prog W .any base t v := hval0
  have hW' := hW
  obtain ⟨p, q, hA0, hV, rfl, hfz, hnd⟩ := hW
  have hA : DataW.TrodAll enc Try.prog W 0 (fun _ => true) true Try.f4.params.toList args.toList ds p := hA0
  have hlt : ∀ x ∈ p, x.block < W.heap.size := fun x hx => by have h := hW'.lt x (List.mem_append_left _ hx); simpa using h
  rw [Try.params4] at hA hval
  have hA' := hA
  obtain ⟨v0, vs0, d0, ds0, p0, q0, hargs, rfl, rfl, h0, r0⟩ := trodAll_cons hA
  obtain ⟨v1, vs1, d1, ds1, p1, q1, rfl, rfl, rfl, h1, r1⟩ := trodAll_cons r0
  obtain ⟨v2, vs2, d2, ds2, p2, q2, rfl, rfl, rfl, h2, r2⟩ := trodAll_cons r1
  obtain ⟨rfl, rfl, rfl⟩ := trodAll_nil r2
  obtain rfl : args = #[v0, v1, v2] := by cases args; simp_all
  obtain ⟨rfl, rfl⟩ := trodVars_none hV
  obtain ⟨c00, c01, c02, y00, y01, y02, n0, rfl, rfl, rfl, hy00, hy01, hy02⟩ := open_agg3 Try.underlying33 (by kernel_rfl) cells33 (hval 0 33 v0 rfl rfl) h0
  obtain ⟨a0_0, e00, rfl, w0_0⟩ := DataW.trod_int Try.underlying3 hy00
  obtain ⟨a0_1, e01, rfl, w0_1⟩ := DataW.trod_int Try.underlying3 hy01
  obtain ⟨a0_2, e02, rfl, w0_2⟩ := DataW.trod_int Try.underlying3 hy02
  simp at e00 e01 e02
  subst e00
  subst e01
  subst e02
  obtain ⟨c10, c11, c12, y10, y11, y12, n1, rfl, rfl, rfl, hy10, hy11, hy12⟩ := open_agg3 Try.underlying33 (by kernel_rfl) cells33 (hval 1 33 v1 rfl rfl) h1
  obtain ⟨a1_0, e10, rfl, w1_0⟩ := DataW.trod_int Try.underlying3 hy10
  obtain ⟨a1_1, e11, rfl, w1_1⟩ := DataW.trod_int Try.underlying3 hy11
  obtain ⟨a1_2, e12, rfl, w1_2⟩ := DataW.trod_int Try.underlying3 hy12
  simp at e10 e11 e12
  subst e10
  subst e11
  subst e12
  obtain ⟨zs2, rfl, hl2, hz2⟩ := LawArr.open_arr Try.underlying34 Try.underlying3 cells3 cells34 (hval 2 34 v2 rfl rfl) h2
  refine (Pure.HandleApart a0_0 a0_1 a0_2 a1_0 a1_1 a1_2 zs2 w0_0 w0_1 w0_2 w1_0 w1_1 w1_2 hl2 hz2 W).mono fun e W' ⟨he, bel⟩ => ?_
  subst he
  exact ⟨_, rfl, _, _, _, [], _, [], hW', trodAll_mk1 (shut_bool Try.underlying4 _), trodAll_below laid bel _ _ _ _ (by kernel_rfl) hlt hA', rfl, bel.frame _, fun h => by cases h⟩
theorem over : Rows.handleApartRow.holds Try.pinned (OpenSpec.ofChange Rows.handleApartSpec) :=
  OpenClaim.holds_of_wide 4 Try.f4 rfl rfl rfl rfl rfl rfl rfl ⟨rfl, rfl, rfl, rfl, rfl⟩ rfl rfl rfl rfl rfl (by kernel_rfl) Try.func4 (by kernel_rfl)
    (of_decide_eq_true (by kernel_rfl)) (by unfold Func.isWrapper; first | (rw [if_pos (by decide +kernel)]; kernel_rfl) | (rw [if_neg (by decide +kernel)]; exact ⟨rfl, rfl⟩))
    (fun os started H enc _ => lifted os started H enc)
end Go.Proofs.Ytdmenimdhcicjaa.handleApart
namespace Go.Proofs.Ytdmenimdhcicjaa
/-- The given statement. -/
theorem handleApart_holds : Rows.HandleApartSaid := handleApart.over
#print axioms handleApart_holds
end Go.Proofs.Ytdmenimdhcicjaa
