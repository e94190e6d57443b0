/- RevokeDrains: whatever comes in, the law's call returns true and leaves what came in as it was. -/
import Derived.Test.YtkhjkfbgcpjphaaRows
import Derived.Test.YtkhjkfbgcpjphaaLawWords
import Derived.Test.YtkhjkfbgcpjphaaPureRevokeDrains
import Derived.WalkKit
import Derived.ProofKit
import Derived.OpenShut
import Derived.ShutString
import Derived.ChangeOld
import Derived.Below
import Derived.SizedLaws
import Derived.Lib.SmallJoins
import Derived.ChangeSame
import Derived.Test.YtkhjkfbgcpjphaaLawRowsFun
import Derived.Test.YtkhjkfbgcpjphaaLawSix
namespace Go.Proofs.Ytkhjkfbgcpjphaa.revokeDrains
open Go.ChangeShapes Go.WideShapes Go.ChangeAt Go.RowKit Go.Joins Go.Proofs.Ytkhjkfbgcpjphaa.LawWords Go.Proofs.YtkhjkfbgcpjphaaW.PrintWords Go.Proofs.Ytkhjkfbgcpjphaa.LawSix
open Go.ChangeMaps (open_string shut_string)
set_option linter.unusedVariables false
theorem own : ownKnob Try.prog.godebug = none := by kernel_rfl
theorem laid : laidOutB Try.prog = true := by kernel_rfl
theorem cells3 : Try.prog.cellsOf 3 = 1 := by kernel_rfl
theorem cells30 : Try.prog.cellsOf 30 = 6 := by kernel_rfl
theorem cells42 : Try.prog.cellsOf 42 = 1 := by kernel_rfl
theorem cells57 : Try.prog.cellsOf 57 = 2 := by kernel_rfl
set_option maxRecDepth 100000 in
theorem el57 {H : Type} {enc : TypeId × Value → H} {w : World} {base : Nat} {spare : Nat → Bool} {held : Bool} : ∀ n cs x, cs.length = 2 → DataW.trod enc Try.prog w base spare held n 57 cs = some x → ∃ a : Int × Int, Fun.AbsL (fun _ => none) (fun b => b < w.heap.size) w [.int .i64 a.1, .int .u64 a.2] cs ∧ ((Lit.int .i64 a.1).wf = true ∧ (Lit.int .u64 a.2).wf = true) := by
  intro n cs x hl h
  obtain ⟨y0, y1, m, _, _, h0, h1⟩ := trod_struct2 Try.underlying57 h
  match cs, hl with
  | [c0, c1], _ =>
    obtain ⟨a0, e0, _, w0⟩ := DataW.trod_int Try.underlying3 h0
    obtain ⟨a1, e1, _, w1⟩ := DataW.trod_int Try.underlying42 h1
    simp [cells3, cells42] at e0 e1
    subst e0
    subst e1
    exact ⟨(a0, a1), by simp [Fun.AbsL, Fun.Abs], w0, w1⟩
set_option maxRecDepth 100000 in
theorem lifted (os : Os) (started : os.Started) (H : Type) (enc : TypeId × Value → H) :
    ReturnsInHanded {} Try.checked os 5 .any (Rows.revokeDrainsSpec.pre6 enc Try.prog Try.f5 Rows.revokeDrainsRow.domain false) (Rows.revokeDrainsSpec.post enc Try.prog Try.f5 false true false false) := by
  refine returnsInHanded_of_change_sized (C := Try.checked) own started (by kernel_rfl) Try.func5
    (ChangeSpec.witness6 (enc := enc) (C := Try.checked) false ⟨#[], #[.agg #[.int .i64 0, .int .i64 0, .int .i64 0, .int .i64 0, .int .i64 0, .int .i64 0], .slice none 0 0], []⟩ 8 (by kernel_rfl) (by kernel_rfl) (by kernel_rfl) (by kernel_rfl)) ?_
  intro W base args ds gs before hval0 hW hcnd hsz0 _
  have hval : ∀ (j : Nat) t v, Try.f5.params[j]? = some t → args[j]? = some v → Value.okWide Try.prog W .any base t v := hval0
  have hW' := hW
  obtain ⟨p, q, hA0, hV, rfl, hfz, hnd⟩ := hW
  have hA : DataW.TrodAll enc Try.prog W 0 (fun _ => true) true Try.f5.params.toList args.toList ds p := hA0
  have hlt : ∀ x ∈ p, x.block < W.heap.size := fun x hx => by have h := hW'.lt x (List.mem_append_left _ hx); simpa using h
  rw [Try.params5] at hA hval
  have hA' := hA
  obtain ⟨v0, vs0, d0, ds0, p0, q0, hargs, rfl, rfl, h0, r0⟩ := trodAll_cons hA
  obtain ⟨v1, vs1, d1, ds1, p1, q1, rfl, rfl, rfl, h1, r1⟩ := trodAll_cons r0
  obtain ⟨rfl, rfl, rfl⟩ := trodAll_nil r1
  obtain rfl : args = #[v0, v1] := by cases args; simp_all
  obtain ⟨rfl, rfl⟩ := trodVars_none hV
  obtain ⟨c00, c01, c02, c03, c04, c05, y00, y01, y02, y03, y04, y05, n0, rfl, rfl, rfl, hy00, hy01, hy02, hy03, hy04, hy05⟩ := open_six Try.underlying30 (by kernel_rfl) cells30 (hval 0 30 v0 rfl rfl) h0
  obtain ⟨a0_0, e00, rfl, w0_0⟩ := DataW.trod_int Try.underlying3 hy00
  obtain ⟨a0_1, e01, rfl, w0_1⟩ := DataW.trod_int Try.underlying3 hy01
  obtain ⟨a0_2, e02, rfl, w0_2⟩ := DataW.trod_int Try.underlying3 hy02
  obtain ⟨a0_3, e03, rfl, w0_3⟩ := DataW.trod_int Try.underlying3 hy03
  obtain ⟨a0_4, e04, rfl, w0_4⟩ := DataW.trod_int Try.underlying3 hy04
  obtain ⟨a0_5, e05, rfl, w0_5⟩ := DataW.trod_int Try.underlying3 hy05
  simp at e00 e01 e02 e03 e04 e05
  subst e00
  subst e01
  subst e02
  subst e03
  subst e04
  subst e05
  obtain ⟨A1, l1, cap1, rfl, ml1, hAbs1, hQ1⟩ := LawRowsFun.open_rows (sz := 2) (by decide) (fun a : Int × Int => [.int .i64 a.1, .int .u64 a.2]) (Q := fun a : Int × Int => (Lit.int .i64 a.1).wf = true ∧ (Lit.int .u64 a.2).wf = true) Try.underlying53 cells57 (hval 1 53 v1 rfl rfl) h1 el57
  refine (Pure.RevokeDrains W a0_0 a0_1 a0_2 a0_3 a0_4 a0_5 A1 cap1 l1 w0_0 w0_1 w0_2 w0_3 w0_4 w0_5 hAbs1 ml1 hQ1).mono fun e W' ⟨he, bel⟩ => ?_
  subst he
  exact ⟨_, rfl, _, _, _, [], _, [], hW', trodAll_mk1 (shut_bool Try.underlying4 _), trodAll_below laid bel _ _ _ _ (by kernel_rfl) hlt hA', rfl, bel.frame _, fun h => by cases h⟩
theorem over : Rows.revokeDrainsRow.holds Try.pinned (OpenSpec.ofChange Rows.revokeDrainsSpec) :=
  OpenClaim.holds_of_wide 5 Try.f5 rfl rfl rfl rfl rfl rfl rfl ⟨rfl, rfl, rfl, rfl, rfl⟩ rfl rfl rfl rfl rfl (by kernel_rfl) Try.func5 (by kernel_rfl)
    (of_decide_eq_true (by kernel_rfl)) (by unfold Func.isWrapper; first | (rw [if_pos (by decide +kernel)]; kernel_rfl) | (rw [if_neg (by decide +kernel)]; exact ⟨rfl, rfl⟩))
    (fun os started H enc _ => lifted os started H enc)
end Go.Proofs.Ytkhjkfbgcpjphaa.revokeDrains
namespace Go.Proofs.Ytkhjkfbgcpjphaa
/-- The given statement. -/
theorem revokeDrains_holds : Rows.RevokeDrainsSaid := revokeDrains.over
#print axioms revokeDrains_holds
end Go.Proofs.Ytkhjkfbgcpjphaa
