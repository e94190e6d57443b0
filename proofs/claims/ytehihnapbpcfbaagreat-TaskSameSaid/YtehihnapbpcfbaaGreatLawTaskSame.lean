/- TaskSame: whatever comes in, the law's call returns true and leaves what came in as it was. -/
import Derived.Test.YtehihnapbpcfbaaGreatRows
import Derived.Test.YtehihnapbpcfbaaGreatLawWords
import Derived.Test.YtehihnapbpcfbaaGreatPureTaskSame
import Derived.WalkKit
import Derived.ProofKit
import Derived.OpenShut
import Derived.ShutString
import Derived.ChangeOld
import Derived.Below
import Derived.SizedLaws
import Derived.Lib.SmallJoins
import Derived.ChangeSame
import Derived.Test.YtehihnapbpcfbaaGreatLawRowsFun
import Derived.Test.YtehihnapbpcfbaaGreatLawSix
namespace Go.Proofs.YtehihnapbpcfbaaGreat.taskSame
open Go.ChangeShapes Go.WideShapes Go.ChangeAt Go.RowKit Go.Joins Go.Proofs.YtehihnapbpcfbaaGreat.LawWords Go.Proofs.YtehihnapbpcfbaaGreat.LawSix
open Go.ChangeMaps (open_string shut_string)
set_option linter.unusedVariables false
theorem own : ownKnob Tryz.prog.godebug = none := by kernel_rfl
theorem laid : laidOutB Tryz.prog = true := by kernel_rfl
theorem cells23 : Tryz.prog.cellsOf 23 = 6 := by kernel_rfl
theorem cells3 : Tryz.prog.cellsOf 3 = 1 := by kernel_rfl
theorem cells31 : Tryz.prog.cellsOf 31 = 1 := by kernel_rfl
theorem cells81 : Tryz.prog.cellsOf 81 = 6 := by kernel_rfl
set_option maxRecDepth 100000 in
theorem el81 {H : Type} {enc : TypeId × Value → H} {w : World} {base : Nat} {spare : Nat → Bool} {held : Bool} : ∀ n cs x, cs.length = 6 → DataW.trod enc Tryz.prog w base spare held n 81 cs = some x → ∃ a : Int × Int × Int × Int × Int × Int, Fun.AbsL (fun _ => none) (fun b => b < w.heap.size) w [.int .i64 a.1, .int .i64 a.2.1, .int .i64 a.2.2.1, .int .u64 a.2.2.2.1, .int .u64 a.2.2.2.2.1, .int .u64 a.2.2.2.2.2] cs ∧ ((Lit.int .i64 a.1).wf = true ∧ (Lit.int .i64 a.2.1).wf = true ∧ (Lit.int .i64 a.2.2.1).wf = true ∧ (Lit.int .u64 a.2.2.2.1).wf = true ∧ (Lit.int .u64 a.2.2.2.2.1).wf = true ∧ (Lit.int .u64 a.2.2.2.2.2).wf = true) := by
  intro n cs x hl h
  obtain ⟨c0, c1, c2, c3, c4, c5, y0, y1, y2, y3, y4, y5, m, rfl, h0, h1, h2, h3, h4, h5⟩ := trod_six Tryz.underlying81 (by kernel_rfl) hl h
  obtain ⟨a0, e0, _, w0⟩ := DataW.trod_int Tryz.underlying3 h0
  obtain ⟨a1, e1, _, w1⟩ := DataW.trod_int Tryz.underlying3 h1
  obtain ⟨a2, e2, _, w2⟩ := DataW.trod_int Tryz.underlying3 h2
  obtain ⟨a3, e3, _, w3⟩ := DataW.trod_int Tryz.underlying31 h3
  obtain ⟨a4, e4, _, w4⟩ := DataW.trod_int Tryz.underlying31 h4
  obtain ⟨a5, e5, _, w5⟩ := DataW.trod_int Tryz.underlying31 h5
  simp at e0 e1 e2 e3 e4 e5
  subst e0
  subst e1
  subst e2
  subst e3
  subst e4
  subst e5
  exact ⟨(a0, a1, a2, a3, a4, a5), by simp [Fun.AbsL, Fun.Abs], w0, w1, w2, w3, w4, w5⟩
set_option maxRecDepth 100000 in
theorem lifted (os : Os) (started : os.Started) (H : Type) (enc : TypeId × Value → H) :
    ReturnsInHanded {} Tryz.checked os 5 .any (Rows.taskSameSpec.pre6 enc Tryz.prog Tryz.f5 Rows.taskSameRow.domain false) (Rows.taskSameSpec.post enc Tryz.prog Tryz.f5 false true false false) := by
  refine returnsInHanded_of_change_sized (C := Tryz.checked) own started (by kernel_rfl) Tryz.func5
    (ChangeSpec.witness6 (enc := enc) (C := Tryz.checked) false ⟨#[], #[.agg #[.int .i64 0, .int .i64 0, .int .i64 0, .int .i64 0, .int .i64 0, .int .i64 0], .slice none 0 0], []⟩ 8 (by kernel_rfl) (by kernel_rfl) (by kernel_rfl) (by kernel_rfl)) ?_
  intro W base args ds gs before hval0 hW hcnd hsz0 _
  have hval : ∀ (j : Nat) t v, Tryz.f5.params[j]? = some t → args[j]? = some v → Value.okWide Tryz.prog W .any base t v := hval0
  have hW' := hW
  obtain ⟨p, q, hA0, hV, rfl, hfz, hnd⟩ := hW
  have hA : DataW.TrodAll enc Tryz.prog W 0 (fun _ => true) true Tryz.f5.params.toList args.toList ds p := hA0
  have hlt : ∀ x ∈ p, x.block < W.heap.size := fun x hx => by have h := hW'.lt x (List.mem_append_left _ hx); simpa using h
  rw [Tryz.params5] at hA hval
  have hA' := hA
  obtain ⟨v0, vs0, d0, ds0, p0, q0, hargs, rfl, rfl, h0, r0⟩ := trodAll_cons hA
  obtain ⟨v1, vs1, d1, ds1, p1, q1, rfl, rfl, rfl, h1, r1⟩ := trodAll_cons r0
  obtain ⟨rfl, rfl, rfl⟩ := trodAll_nil r1
  obtain rfl : args = #[v0, v1] := by cases args; simp_all
  obtain ⟨rfl, rfl⟩ := trodVars_none hV
  obtain ⟨c00, c01, c02, c03, c04, c05, y00, y01, y02, y03, y04, y05, n0, rfl, rfl, rfl, hy00, hy01, hy02, hy03, hy04, hy05⟩ := open_six Tryz.underlying23 (by kernel_rfl) cells23 (hval 0 23 v0 rfl rfl) h0
  obtain ⟨a0_0, e00, rfl, w0_0⟩ := DataW.trod_int Tryz.underlying3 hy00
  obtain ⟨a0_1, e01, rfl, w0_1⟩ := DataW.trod_int Tryz.underlying3 hy01
  obtain ⟨a0_2, e02, rfl, w0_2⟩ := DataW.trod_int Tryz.underlying3 hy02
  obtain ⟨a0_3, e03, rfl, w0_3⟩ := DataW.trod_int Tryz.underlying3 hy03
  obtain ⟨a0_4, e04, rfl, w0_4⟩ := DataW.trod_int Tryz.underlying3 hy04
  obtain ⟨a0_5, e05, rfl, w0_5⟩ := DataW.trod_int Tryz.underlying3 hy05
  simp at e00 e01 e02 e03 e04 e05
  subst e00
  subst e01
  subst e02
  subst e03
  subst e04
  subst e05
  obtain ⟨A1, l1, cap1, rfl, ml1, hAbs1, hQ1⟩ := LawRowsFun.open_rows (sz := 6) (by decide) (fun a : Int × Int × Int × Int × Int × Int => [.int .i64 a.1, .int .i64 a.2.1, .int .i64 a.2.2.1, .int .u64 a.2.2.2.1, .int .u64 a.2.2.2.2.1, .int .u64 a.2.2.2.2.2]) (Q := fun a : Int × Int × Int × Int × Int × Int => (Lit.int .i64 a.1).wf = true ∧ (Lit.int .i64 a.2.1).wf = true ∧ (Lit.int .i64 a.2.2.1).wf = true ∧ (Lit.int .u64 a.2.2.2.1).wf = true ∧ (Lit.int .u64 a.2.2.2.2.1).wf = true ∧ (Lit.int .u64 a.2.2.2.2.2).wf = true) Tryz.underlying78 cells81 (hval 1 78 v1 rfl rfl) h1 el81
  refine (Pure.TaskSame W a0_0 a0_1 a0_2 a0_3 a0_4 a0_5 A1 cap1 l1 w0_0 w0_1 w0_2 w0_3 w0_4 w0_5 hAbs1 ml1 hQ1).mono fun e W' ⟨he, bel⟩ => ?_
  subst he
  exact ⟨_, rfl, _, _, _, [], _, [], hW', trodAll_mk1 (shut_bool Tryz.underlying4 _), trodAll_below laid bel _ _ _ _ (by kernel_rfl) hlt hA', rfl, bel.frame _, fun h => by cases h⟩
theorem named : Tryz.pinned.checked.prog.funcNamed Rows.taskSameRow.func = some 5 := by kernel_rfl
set_option maxHeartbeats 0 in
theorem closed : joinedFacts Tryz.pinned.checked.prog 5 Tryz.f5 Rows.taskSameSpec Rows.taskSameRow = true := by
  unfold joinedFacts
  simp only [Bool.and_eq_true]
  refine ⟨⟨⟨⟨⟨⟨⟨⟨⟨⟨⟨⟨⟨⟨⟨⟨⟨⟨⟨⟨⟨⟨⟨⟨⟨⟨⟨⟨⟨⟨⟨?_, ?_⟩, ?_⟩, ?_⟩, ?_⟩, ?_⟩, ?_⟩, ?_⟩, ?_⟩, ?_⟩, ?_⟩, ?_⟩, ?_⟩, ?_⟩, ?_⟩, ?_⟩, ?_⟩, ?_⟩, ?_⟩, ?_⟩, ?_⟩, ?_⟩, ?_⟩, ?_⟩, ?_⟩, ?_⟩, ?_⟩, ?_⟩, ?_⟩, ?_⟩, ?_⟩, ?_⟩
  all_goals as_aux_lemma => kernel_rfl
theorem over : Rows.taskSameRow.holds Tryz.pinned (OpenSpec.ofChange Rows.taskSameSpec) :=
  OpenClaim.holds_of_wide 5 Tryz.f5 rfl rfl rfl rfl rfl rfl rfl ⟨rfl, rfl, rfl, rfl, rfl⟩ rfl rfl rfl rfl rfl named Tryz.func5 closed
    (of_decide_eq_true (by kernel_rfl)) (by unfold Func.isWrapper; first | (rw [if_pos (by decide +kernel)]; kernel_rfl) | (rw [if_neg (by decide +kernel)]; exact ⟨rfl, rfl⟩))
    (fun os started H enc _ => lifted os started H enc)
end Go.Proofs.YtehihnapbpcfbaaGreat.taskSame
namespace Go.Proofs.YtehihnapbpcfbaaGreat
/-- The given statement. -/
theorem taskSame_holds : Rows.TaskSameSaid := taskSame.over
#print axioms taskSame_holds
end Go.Proofs.YtehihnapbpcfbaaGreat
