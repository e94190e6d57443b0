/- HistoryTells: whatever comes in, the law's call returns true and leaves what came in as it was. -/
import Derived.Test.YtpckjfncecoibaaGreatRows
import Derived.Test.YtpckjfncecoibaaGreatLawWords
import Derived.Test.YtpckjfncecoibaaGreatPureHistoryTells
import Derived.WalkKit
import Derived.ProofKit
import Derived.OpenShut
import Derived.ShutString
import Derived.ChangeOld
import Derived.Below
import Derived.SizedLaws
import Derived.Lib.SmallJoins
import Derived.ChangeSame
import Derived.Test.YtpckjfncecoibaaGreatLawRead
namespace Go.Proofs.YtpckjfncecoibaaGreat.historyTells
set_option linter.unusedSimpArgs false
open Go.ChangeShapes Go.WideShapes Go.ChangeAt Go.RowKit Go.Joins Go.Proofs.YtpckjfncecoibaaGreat.LawWords
open Go.ChangeMaps (open_string shut_string)
set_option linter.unusedVariables false
theorem own : ownKnob Tryz.prog.godebug = none := by kernel_rfl
theorem laid : laidOutB Tryz.prog = true := by kernel_rfl
set_option maxRecDepth 100000 in
theorem lifted (os : Os) (started : os.Started) (H : Type) (enc : TypeId × Value → H) :
    ReturnsInHanded {} Tryz.checked os 12 .any (Rows.historyTellsSpec.pre6 enc Tryz.prog Tryz.f12 Rows.historyTellsRow.domain false) (Rows.historyTellsSpec.post enc Tryz.prog Tryz.f12 false true false false) := by
  refine returnsInHanded_of_change_sized (C := Tryz.checked) own started (by kernel_rfl) Tryz.func12
    (ChangeSpec.witness6 (enc := enc) (C := Tryz.checked) false ⟨#[], #[.slice none 0 0], []⟩ 8 (by kernel_rfl) (by kernel_rfl) (by kernel_rfl) (by kernel_rfl)) ?_
  intro W base args ds gs before hval0 hW hcnd hsz0 _
  have hval : ∀ (j : Nat) t v, Tryz.f12.params[j]? = some t → args[j]? = some v → Value.okWide Tryz.prog W .any base t v := hval0
  have hW' := hW
  obtain ⟨p, q, hA0, hV, rfl, hfz, hnd⟩ := hW
  have hA : DataW.TrodAll enc Tryz.prog W 0 (fun _ => true) true Tryz.f12.params.toList args.toList ds p := hA0
  have hlt : ∀ x ∈ p, x.block < W.heap.size := fun x hx => by have h := hW'.lt x (List.mem_append_left _ hx); simpa using h
  rw [Tryz.params12] at hA hval
  have hA' := hA
  obtain ⟨v0, vs0, d0, ds0, p0, q0, hargs, rfl, rfl, h0, r0⟩ := trodAll_cons hA
  obtain ⟨rfl, rfl, rfl⟩ := trodAll_nil r0
  obtain rfl : args = #[v0] := by cases args; simp_all
  obtain ⟨rfl, rfl⟩ := trodVars_none hV
  obtain ⟨b0, n0, c0, rfl⟩ := okWide_slice Tryz.underlying136 (hval 0 136 v0 rfl rfl)
  obtain ⟨fuel0, hf0⟩ := h0
  obtain ⟨es0, hL0, hAbs0⟩ := Fun.reads 6 136 [.row [.int .i64, .int .i64, .int .i64, .int .i64, .int .u64, .int .u64, .int .u64, .int .i64, .int .i64, .int .i64, .int .u64]] (by kernel_rfl) fuel0 _ _ (by simp [Value.cells]) hf0
  simp only [Value.cells] at hAbs0
  refine (Pure.HistoryTells W b0 n0 c0 es0 hL0 hAbs0).mono fun e W' ⟨he, bel⟩ => ?_
  subst he
  exact ⟨_, rfl, _, _, _, [], _, [], hW', trodAll_mk1 (shut_bool Tryz.underlying4 _), trodAll_below laid bel _ _ _ _ (by kernel_rfl) hlt hA', rfl, bel.frame _, fun h => by cases h⟩
theorem named : Tryz.pinned.checked.prog.funcNamed Rows.historyTellsRow.func = some 12 := by kernel_rfl
set_option maxHeartbeats 0 in
theorem closed : joinedFacts Tryz.pinned.checked.prog 12 Tryz.f12 Rows.historyTellsSpec Rows.historyTellsRow = true := by
  unfold joinedFacts
  simp only [Bool.and_eq_true]
  refine ⟨⟨⟨⟨⟨⟨⟨⟨⟨⟨⟨⟨⟨⟨⟨⟨⟨⟨⟨⟨⟨⟨⟨⟨⟨⟨⟨⟨⟨⟨⟨?_, ?_⟩, ?_⟩, ?_⟩, ?_⟩, ?_⟩, ?_⟩, ?_⟩, ?_⟩, ?_⟩, ?_⟩, ?_⟩, ?_⟩, ?_⟩, ?_⟩, ?_⟩, ?_⟩, ?_⟩, ?_⟩, ?_⟩, ?_⟩, ?_⟩, ?_⟩, ?_⟩, ?_⟩, ?_⟩, ?_⟩, ?_⟩, ?_⟩, ?_⟩, ?_⟩, ?_⟩
  all_goals as_aux_lemma => kernel_rfl
theorem over : Rows.historyTellsRow.holds Tryz.pinned (OpenSpec.ofChange Rows.historyTellsSpec) :=
  OpenClaim.holds_of_wide 12 Tryz.f12 rfl rfl rfl rfl rfl rfl rfl ⟨rfl, rfl, rfl, rfl, rfl⟩ rfl rfl rfl rfl rfl named Tryz.func12 closed
    (of_decide_eq_true (by kernel_rfl)) (by unfold Func.isWrapper; first | (rw [if_pos (by decide +kernel)]; kernel_rfl) | (rw [if_neg (by decide +kernel)]; exact ⟨rfl, rfl⟩))
    (fun os started H enc _ => lifted os started H enc)
end Go.Proofs.YtpckjfncecoibaaGreat.historyTells
namespace Go.Proofs.YtpckjfncecoibaaGreat
/-- The given statement. -/
theorem historyTells_holds : Rows.HistoryTellsSaid := historyTells.over
#print axioms historyTells_holds
end Go.Proofs.YtpckjfncecoibaaGreat
