/- DecodeApart: whatever comes in, the law's call returns true and leaves what came in as it was. -/
import Derived.Test.YtbmecfpdemoooaaRows
import Derived.Test.YtbmecfpdemoooaaLawWords
import Derived.Test.YtbmecfpdemoooaaPureDecodeApart
import Derived.WalkKit
import Derived.ProofKit
import Derived.OpenShut
import Derived.ShutString
import Derived.ChangeOld
import Derived.Below
import Derived.SizedLaws
import Derived.Lib.SmallJoins
import Derived.Test.YtbmecfpdemoooaaLawSix
namespace Go.Proofs.Ytbmecfpdemoooaa.decodeApart
open Go.ChangeShapes Go.WideShapes Go.ChangeAt Go.RowKit Go.Joins Go.Proofs.Ytbmecfpdemoooaa.LawWords Go.Proofs.YtbmecfpdemoooaaW.PrintWords Go.Proofs.Ytbmecfpdemoooaa.LawSix
open Go.ChangeMaps (open_string shut_string)
set_option linter.unusedVariables false
theorem own : ownKnob Try.prog.godebug = none := by kernel_rfl
theorem laid : laidOutB Try.prog = true := by kernel_rfl
theorem cells39 : Try.prog.cellsOf 39 = 6 := by kernel_rfl
set_option maxRecDepth 100000 in
theorem lifted (os : Os) (started : os.Started) (H : Type) (enc : TypeId × Value → H) :
    ReturnsInHanded {} Try.checked os 7 .any (Rows.decodeApartSpec.pre6 enc Try.prog Try.f7 Rows.decodeApartRow.domain false) (Rows.decodeApartSpec.post enc Try.prog Try.f7 false true false false) := by
  refine returnsInHanded_of_change_sized (C := Try.checked) own started (by kernel_rfl) Try.func7
    (ChangeSpec.witness6 (enc := enc) (C := Try.checked) false ⟨#[], #[.agg #[.int .i64 0, .int .i64 0, .int .i64 0, .int .u64 0, .int .u64 0, .int .u64 0], .agg #[.int .i64 0, .int .i64 0, .int .i64 0, .int .u64 0, .int .u64 0, .int .u64 0]], []⟩ 8 (by kernel_rfl) (by kernel_rfl) (by kernel_rfl) (by kernel_rfl)) ?_
  intro W base args ds gs before hval0 hW hcnd hsz0 _
  have hval : ∀ (j : Nat) t v, Try.f7.params[j]? = some t → args[j]? = some v → Value.okWide Try.prog W .any base t v := hval0
  have hW' := hW
  obtain ⟨p, q, hA0, hV, rfl, hfz, hnd⟩ := hW
  have hA : DataW.TrodAll enc Try.prog W 0 (fun _ => true) true Try.f7.params.toList args.toList ds p := hA0
  have hlt : ∀ x ∈ p, x.block < W.heap.size := fun x hx => by have h := hW'.lt x (List.mem_append_left _ hx); simpa using h
  rw [Try.params7] at hA hval
  have hA' := hA
  obtain ⟨v0, vs0, d0, ds0, p0, q0, hargs, rfl, rfl, h0, r0⟩ := trodAll_cons hA
  obtain ⟨v1, vs1, d1, ds1, p1, q1, rfl, rfl, rfl, h1, r1⟩ := trodAll_cons r0
  obtain ⟨rfl, rfl, rfl⟩ := trodAll_nil r1
  obtain rfl : args = #[v0, v1] := by cases args; simp_all
  obtain ⟨rfl, rfl⟩ := trodVars_none hV
  obtain ⟨c00, c01, c02, c03, c04, c05, y00, y01, y02, y03, y04, y05, n0, rfl, rfl, rfl, hy00, hy01, hy02, hy03, hy04, hy05⟩ := open_six Try.underlying39 (by kernel_rfl) cells39 (hval 0 39 v0 rfl rfl) h0
  obtain ⟨a0_0, e00, rfl, w0_0⟩ := DataW.trod_int Try.underlying3 hy00
  obtain ⟨a0_1, e01, rfl, w0_1⟩ := DataW.trod_int Try.underlying3 hy01
  obtain ⟨a0_2, e02, rfl, w0_2⟩ := DataW.trod_int Try.underlying3 hy02
  obtain ⟨a0_3, e03, rfl, w0_3⟩ := DataW.trod_int Try.underlying24 hy03
  obtain ⟨a0_4, e04, rfl, w0_4⟩ := DataW.trod_int Try.underlying24 hy04
  obtain ⟨a0_5, e05, rfl, w0_5⟩ := DataW.trod_int Try.underlying24 hy05
  simp at e00 e01 e02 e03 e04 e05
  subst e00
  subst e01
  subst e02
  subst e03
  subst e04
  subst e05
  obtain ⟨c10, c11, c12, c13, c14, c15, y10, y11, y12, y13, y14, y15, n1, rfl, rfl, rfl, hy10, hy11, hy12, hy13, hy14, hy15⟩ := open_six Try.underlying39 (by kernel_rfl) cells39 (hval 1 39 v1 rfl rfl) h1
  obtain ⟨a1_0, e10, rfl, w1_0⟩ := DataW.trod_int Try.underlying3 hy10
  obtain ⟨a1_1, e11, rfl, w1_1⟩ := DataW.trod_int Try.underlying3 hy11
  obtain ⟨a1_2, e12, rfl, w1_2⟩ := DataW.trod_int Try.underlying3 hy12
  obtain ⟨a1_3, e13, rfl, w1_3⟩ := DataW.trod_int Try.underlying24 hy13
  obtain ⟨a1_4, e14, rfl, w1_4⟩ := DataW.trod_int Try.underlying24 hy14
  obtain ⟨a1_5, e15, rfl, w1_5⟩ := DataW.trod_int Try.underlying24 hy15
  simp at e10 e11 e12 e13 e14 e15
  subst e10
  subst e11
  subst e12
  subst e13
  subst e14
  subst e15
  obtain ⟨k, hk⟩ := Pure.DecodeApart a0_0 a0_1 a0_2 a0_3 a0_4 a0_5 a1_0 a1_1 a1_2 a1_3 a1_4 a1_5 w0_0 w0_1 w0_2 w0_3 w0_4 w0_5 w1_0 w1_1 w1_2 w1_3 w1_4 w1_5
  refine (PDecodeApart.cubiclelaw18_DecodeApart.calls k a0_0 a0_1 a0_2 a0_3 a0_4 a0_5 a1_0 a1_1 a1_2 a1_3 a1_4 a1_5 true W  hk).mono fun e W' ⟨he, bel⟩ => ?_
  subst he
  exact ⟨_, rfl, _, _, _, [], _, [], hW', trodAll_mk1 (shut_bool Try.underlying4 _), trodAll_below laid bel _ _ _ _ (by kernel_rfl) hlt hA', rfl, bel.frame _, fun h => by cases h⟩
theorem over : Rows.decodeApartRow.holds Try.pinned (OpenSpec.ofChange Rows.decodeApartSpec) :=
  OpenClaim.holds_of_wide 7 Try.f7 rfl rfl rfl rfl rfl rfl rfl ⟨rfl, rfl, rfl, rfl, rfl⟩ rfl rfl rfl rfl rfl (by kernel_rfl) Try.func7 (by kernel_rfl)
    (of_decide_eq_true (by kernel_rfl)) (by unfold Func.isWrapper; first | (rw [if_pos (by decide +kernel)]; kernel_rfl) | (rw [if_neg (by decide +kernel)]; exact ⟨rfl, rfl⟩))
    (fun os started H enc _ => lifted os started H enc)
end Go.Proofs.Ytbmecfpdemoooaa.decodeApart
namespace Go.Proofs.Ytbmecfpdemoooaa
/-- The given statement. -/
theorem decodeApart_holds : Rows.DecodeApartSaid := decodeApart.over
#print axioms decodeApart_holds
end Go.Proofs.Ytbmecfpdemoooaa
