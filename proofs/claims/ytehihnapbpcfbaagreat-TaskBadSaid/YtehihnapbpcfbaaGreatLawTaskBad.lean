/- TaskBad: whatever comes in, the law's call returns true and leaves what came in as it was. -/
import Derived.Test.YtehihnapbpcfbaaGreatRows
import Derived.Test.YtehihnapbpcfbaaGreatLawWords
import Derived.Test.YtehihnapbpcfbaaGreatPureTaskBad
import Derived.WalkKit
import Derived.ProofKit
import Derived.OpenShut
import Derived.ShutString
import Derived.ChangeOld
import Derived.Below
import Derived.SizedLaws
import Derived.Lib.SmallJoins
import Derived.Test.YtehihnapbpcfbaaGreatLawSix
namespace Go.Proofs.YtehihnapbpcfbaaGreat.taskBad
open Go.ChangeShapes Go.WideShapes Go.ChangeAt Go.RowKit Go.Joins Go.Proofs.YtehihnapbpcfbaaGreat.LawWords Go.Proofs.YtehihnapbpcfbaaGreat.LawSix
open Go.ChangeMaps (open_string shut_string)
set_option linter.unusedVariables false
theorem own : ownKnob Tryz.prog.godebug = none := by kernel_rfl
theorem laid : laidOutB Tryz.prog = true := by kernel_rfl
theorem cells81 : Tryz.prog.cellsOf 81 = 6 := by kernel_rfl
set_option maxRecDepth 100000 in
theorem lifted (os : Os) (started : os.Started) (H : Type) (enc : TypeId × Value → H) :
    ReturnsInHanded {} Tryz.checked os 6 .any (Rows.taskBadSpec.pre6 enc Tryz.prog Tryz.f6 Rows.taskBadRow.domain false) (Rows.taskBadSpec.post enc Tryz.prog Tryz.f6 false true false false) := by
  refine returnsInHanded_of_change_sized (C := Tryz.checked) own started (by kernel_rfl) Tryz.func6
    (ChangeSpec.witness6 (enc := enc) (C := Tryz.checked) false ⟨#[], #[.string ByteArray.empty, .agg #[.int .i64 0, .int .i64 0, .int .i64 0, .int .u64 0, .int .u64 0, .int .u64 0]], []⟩ 8 (by kernel_rfl) (by kernel_rfl) (by kernel_rfl) (by kernel_rfl)) ?_
  intro W base args ds gs before hval0 hW hcnd hsz0 _
  have hval : ∀ (j : Nat) t v, Tryz.f6.params[j]? = some t → args[j]? = some v → Value.okWide Tryz.prog W .any base t v := hval0
  have hW' := hW
  obtain ⟨p, q, hA0, hV, rfl, hfz, hnd⟩ := hW
  have hA : DataW.TrodAll enc Tryz.prog W 0 (fun _ => true) true Tryz.f6.params.toList args.toList ds p := hA0
  have hlt : ∀ x ∈ p, x.block < W.heap.size := fun x hx => by have h := hW'.lt x (List.mem_append_left _ hx); simpa using h
  rw [Tryz.params6] at hA hval
  have hA' := hA
  obtain ⟨v0, vs0, d0, ds0, p0, q0, hargs, rfl, rfl, h0, r0⟩ := trodAll_cons hA
  obtain ⟨v1, vs1, d1, ds1, p1, q1, rfl, rfl, rfl, h1, r1⟩ := trodAll_cons r0
  obtain ⟨rfl, rfl, rfl⟩ := trodAll_nil r1
  obtain rfl : args = #[v0, v1] := by cases args; simp_all
  obtain ⟨rfl, rfl⟩ := trodVars_none hV
  obtain ⟨a0, rfl, rfl, rfl, w0⟩ := open_string Tryz.underlying9 (hval 0 9 v0 rfl rfl) h0
  obtain ⟨c10, c11, c12, c13, c14, c15, y10, y11, y12, y13, y14, y15, n1, rfl, rfl, rfl, hy10, hy11, hy12, hy13, hy14, hy15⟩ := open_six Tryz.underlying81 (by kernel_rfl) cells81 (hval 1 81 v1 rfl rfl) h1
  obtain ⟨a1_0, e10, rfl, w1_0⟩ := DataW.trod_int Tryz.underlying3 hy10
  obtain ⟨a1_1, e11, rfl, w1_1⟩ := DataW.trod_int Tryz.underlying3 hy11
  obtain ⟨a1_2, e12, rfl, w1_2⟩ := DataW.trod_int Tryz.underlying3 hy12
  obtain ⟨a1_3, e13, rfl, w1_3⟩ := DataW.trod_int Tryz.underlying31 hy13
  obtain ⟨a1_4, e14, rfl, w1_4⟩ := DataW.trod_int Tryz.underlying31 hy14
  obtain ⟨a1_5, e15, rfl, w1_5⟩ := DataW.trod_int Tryz.underlying31 hy15
  simp at e10 e11 e12 e13 e14 e15
  subst e10
  subst e11
  subst e12
  subst e13
  subst e14
  subst e15
  refine (Pure.TaskBad a0 a1_0 a1_1 a1_2 a1_3 a1_4 a1_5 w1_0 w1_1 w1_2 w1_3 w1_4 w1_5 W).mono fun e W' ⟨he, bel⟩ => ?_
  subst he
  exact ⟨_, rfl, _, _, _, [], _, [], hW', trodAll_mk1 (shut_bool Tryz.underlying4 _), trodAll_below laid bel _ _ _ _ (by kernel_rfl) hlt hA', rfl, bel.frame _, fun h => by cases h⟩
theorem named : Tryz.pinned.checked.prog.funcNamed Rows.taskBadRow.func = some 6 := by kernel_rfl
set_option maxHeartbeats 0 in
theorem closed : joinedFacts Tryz.pinned.checked.prog 6 Tryz.f6 Rows.taskBadSpec Rows.taskBadRow = true := by
  unfold joinedFacts
  simp only [Bool.and_eq_true]
  refine ⟨⟨⟨⟨⟨⟨⟨⟨⟨⟨⟨⟨⟨⟨⟨⟨⟨⟨⟨⟨⟨⟨⟨⟨⟨⟨⟨⟨⟨⟨⟨?_, ?_⟩, ?_⟩, ?_⟩, ?_⟩, ?_⟩, ?_⟩, ?_⟩, ?_⟩, ?_⟩, ?_⟩, ?_⟩, ?_⟩, ?_⟩, ?_⟩, ?_⟩, ?_⟩, ?_⟩, ?_⟩, ?_⟩, ?_⟩, ?_⟩, ?_⟩, ?_⟩, ?_⟩, ?_⟩, ?_⟩, ?_⟩, ?_⟩, ?_⟩, ?_⟩, ?_⟩
  all_goals as_aux_lemma => kernel_rfl
theorem over : Rows.taskBadRow.holds Tryz.pinned (OpenSpec.ofChange Rows.taskBadSpec) :=
  OpenClaim.holds_of_wide 6 Tryz.f6 rfl rfl rfl rfl rfl rfl rfl ⟨rfl, rfl, rfl, rfl, rfl⟩ rfl rfl rfl rfl rfl named Tryz.func6 closed
    (of_decide_eq_true (by kernel_rfl)) (by unfold Func.isWrapper; first | (rw [if_pos (by decide +kernel)]; kernel_rfl) | (rw [if_neg (by decide +kernel)]; exact ⟨rfl, rfl⟩))
    (fun os started H enc _ => lifted os started H enc)
end Go.Proofs.YtehihnapbpcfbaaGreat.taskBad
namespace Go.Proofs.YtehihnapbpcfbaaGreat
/-- The given statement. -/
theorem taskBad_holds : Rows.TaskBadSaid := taskBad.over
#print axioms taskBad_holds
end Go.Proofs.YtehihnapbpcfbaaGreat
