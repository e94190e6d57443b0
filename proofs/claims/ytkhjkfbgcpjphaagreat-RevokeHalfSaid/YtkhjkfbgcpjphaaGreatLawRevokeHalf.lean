/- RevokeHalf: whatever comes in, the law's call returns true and leaves what came in as it was. -/
import Derived.Test.YtkhjkfbgcpjphaaGreatRows
import Derived.Test.YtkhjkfbgcpjphaaGreatLawWords
import Derived.Test.YtkhjkfbgcpjphaaGreatPureRevokeHalf
import Derived.WalkKit
import Derived.ProofKit
import Derived.OpenShut
import Derived.ShutString
import Derived.ChangeOld
import Derived.Below
import Derived.SizedLaws
import Derived.Lib.SmallJoins
import Derived.Test.YtkhjkfbgcpjphaaGreatLawSix
namespace Go.Proofs.YtkhjkfbgcpjphaaGreat.revokeHalf
open Go.ChangeShapes Go.WideShapes Go.ChangeAt Go.RowKit Go.Joins Go.Proofs.YtkhjkfbgcpjphaaGreat.LawWords Go.Proofs.YtkhjkfbgcpjphaaGreatW.PrintWords Go.Proofs.YtkhjkfbgcpjphaaGreat.LawSix
open Go.ChangeMaps (open_string shut_string)
set_option linter.unusedVariables false
theorem own : ownKnob Tryz.prog.godebug = none := by kernel_rfl
theorem laid : laidOutB Tryz.prog = true := by kernel_rfl
theorem cells23 : Tryz.prog.cellsOf 23 = 6 := by kernel_rfl
set_option maxRecDepth 100000 in
theorem lifted (os : Os) (started : os.Started) (H : Type) (enc : TypeId × Value → H) :
    ReturnsInHanded {} Tryz.checked os 3 .any (Rows.revokeHalfSpec.pre6 enc Tryz.prog Tryz.f3 Rows.revokeHalfRow.domain false) (Rows.revokeHalfSpec.post enc Tryz.prog Tryz.f3 false true false false) := by
  refine returnsInHanded_of_change_sized (C := Tryz.checked) own started (by kernel_rfl) Tryz.func3
    (ChangeSpec.witness6 (enc := enc) (C := Tryz.checked) false ⟨#[], #[.agg #[.int .i64 0, .int .i64 0, .int .i64 0, .int .i64 0, .int .i64 0, .int .i64 0], .int .u8 0, .int .u8 0], []⟩ 8 (by kernel_rfl) (by kernel_rfl) (by kernel_rfl) (by kernel_rfl)) ?_
  intro W base args ds gs before hval0 hW hcnd hsz0 _
  have hval : ∀ (j : Nat) t v, Tryz.f3.params[j]? = some t → args[j]? = some v → Value.okWide Tryz.prog W .any base t v := hval0
  have hW' := hW
  obtain ⟨p, q, hA0, hV, rfl, hfz, hnd⟩ := hW
  have hA : DataW.TrodAll enc Tryz.prog W 0 (fun _ => true) true Tryz.f3.params.toList args.toList ds p := hA0
  have hlt : ∀ x ∈ p, x.block < W.heap.size := fun x hx => by have h := hW'.lt x (List.mem_append_left _ hx); simpa using h
  rw [Tryz.params3] at hA hval
  have hA' := hA
  obtain ⟨v0, vs0, d0, ds0, p0, q0, hargs, rfl, rfl, h0, r0⟩ := trodAll_cons hA
  obtain ⟨v1, vs1, d1, ds1, p1, q1, rfl, rfl, rfl, h1, r1⟩ := trodAll_cons r0
  obtain ⟨v2, vs2, d2, ds2, p2, q2, rfl, rfl, rfl, h2, r2⟩ := trodAll_cons r1
  obtain ⟨rfl, rfl, rfl⟩ := trodAll_nil r2
  obtain rfl : args = #[v0, v1, v2] := by cases args; simp_all
  obtain ⟨rfl, rfl⟩ := trodVars_none hV
  obtain ⟨c00, c01, c02, c03, c04, c05, y00, y01, y02, y03, y04, y05, n0, rfl, rfl, rfl, hy00, hy01, hy02, hy03, hy04, hy05⟩ := open_six Tryz.underlying23 (by kernel_rfl) cells23 (hval 0 23 v0 rfl rfl) h0
  obtain ⟨a0_0, e00, rfl, w0_0⟩ := DataW.trod_int Tryz.underlying3 hy00
  obtain ⟨a0_1, e01, rfl, w0_1⟩ := DataW.trod_int Tryz.underlying3 hy01
  obtain ⟨a0_2, e02, rfl, w0_2⟩ := DataW.trod_int Tryz.underlying3 hy02
  obtain ⟨a0_3, e03, rfl, w0_3⟩ := DataW.trod_int Tryz.underlying3 hy03
  obtain ⟨a0_4, e04, rfl, w0_4⟩ := DataW.trod_int Tryz.underlying3 hy04
  obtain ⟨a0_5, e05, rfl, w0_5⟩ := DataW.trod_int Tryz.underlying3 hy05
  simp at e00 e01 e02 e03 e04 e05
  subst e00
  subst e01
  subst e02
  subst e03
  subst e04
  subst e05
  obtain ⟨a1, rfl, rfl, rfl, w1⟩ := open_int Tryz.underlying5 (hval 1 5 v1 rfl rfl) h1
  obtain ⟨a2, rfl, rfl, rfl, w2⟩ := open_int Tryz.underlying5 (hval 2 5 v2 rfl rfl) h2
  refine (Pure.RevokeHalf a0_0 a0_1 a0_2 a0_3 a0_4 a0_5 a1 a2 w0_0 w0_1 w0_2 w0_3 w0_4 w0_5 w1 w2 W).mono fun e W' ⟨he, bel⟩ => ?_
  subst he
  exact ⟨_, rfl, _, _, _, [], _, [], hW', trodAll_mk1 (shut_bool Tryz.underlying4 _), trodAll_below laid bel _ _ _ _ (by kernel_rfl) hlt hA', rfl, bel.frame _, fun h => by cases h⟩
theorem over : Rows.revokeHalfRow.holds Tryz.pinned (OpenSpec.ofChange Rows.revokeHalfSpec) :=
  OpenClaim.holds_of_wide 3 Tryz.f3 rfl rfl rfl rfl rfl rfl rfl ⟨rfl, rfl, rfl, rfl, rfl⟩ rfl rfl rfl rfl rfl (by kernel_rfl) Tryz.func3 (by kernel_rfl)
    (of_decide_eq_true (by kernel_rfl)) (by unfold Func.isWrapper; first | (rw [if_pos (by decide +kernel)]; kernel_rfl) | (rw [if_neg (by decide +kernel)]; exact ⟨rfl, rfl⟩))
    (fun os started H enc _ => lifted os started H enc)
end Go.Proofs.YtkhjkfbgcpjphaaGreat.revokeHalf
namespace Go.Proofs.YtkhjkfbgcpjphaaGreat
/-- The given statement. -/
theorem revokeHalf_holds : Rows.RevokeHalfSaid := revokeHalf.over
#print axioms revokeHalf_holds
end Go.Proofs.YtkhjkfbgcpjphaaGreat
