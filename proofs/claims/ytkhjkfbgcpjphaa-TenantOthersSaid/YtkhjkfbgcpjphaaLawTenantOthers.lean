/- TenantOthers: whatever comes in, the law's call returns true and leaves what came in as it was. -/
import Derived.Test.YtkhjkfbgcpjphaaRows
import Derived.Test.YtkhjkfbgcpjphaaLawWords
import Derived.Test.YtkhjkfbgcpjphaaPureTenantOthers
import Derived.WalkKit
import Derived.ProofKit
import Derived.OpenShut
import Derived.ShutString
import Derived.ChangeOld
import Derived.Below
import Derived.SizedLaws
import Derived.Lib.SmallJoins
import Derived.ChangeSame
import Derived.Test.YtkhjkfbgcpjphaaLawRowsFun
import Derived.Test.YtkhjkfbgcpjphaaLawSix
namespace Go.Proofs.Ytkhjkfbgcpjphaa.tenantOthers
open Go.ChangeShapes Go.WideShapes Go.ChangeAt Go.RowKit Go.Joins Go.Proofs.Ytkhjkfbgcpjphaa.LawWords Go.Proofs.YtkhjkfbgcpjphaaW.PrintWords Go.Proofs.Ytkhjkfbgcpjphaa.LawSix
open Go.ChangeMaps (open_string shut_string)
set_option linter.unusedVariables false
theorem own : ownKnob Try.prog.godebug = none := by kernel_rfl
theorem laid : laidOutB Try.prog = true := by kernel_rfl
theorem cells3 : Try.prog.cellsOf 3 = 1 := by kernel_rfl
theorem cells30 : Try.prog.cellsOf 30 = 6 := by kernel_rfl
set_option maxRecDepth 100000 in
theorem el30 {H : Type} {enc : TypeId × Value → H} {w : World} {base : Nat} {spare : Nat → Bool} {held : Bool} : ∀ n cs x, cs.length = 6 → DataW.trod enc Try.prog w base spare held n 30 cs = some x → ∃ a : Int × Int × Int × Int × Int × Int, Fun.AbsL (fun _ => none) (fun b => b < w.heap.size) w [.int .i64 a.1, .int .i64 a.2.1, .int .i64 a.2.2.1, .int .i64 a.2.2.2.1, .int .i64 a.2.2.2.2.1, .int .i64 a.2.2.2.2.2] cs ∧ ((Lit.int .i64 a.1).wf = true ∧ (Lit.int .i64 a.2.1).wf = true ∧ (Lit.int .i64 a.2.2.1).wf = true ∧ (Lit.int .i64 a.2.2.2.1).wf = true ∧ (Lit.int .i64 a.2.2.2.2.1).wf = true ∧ (Lit.int .i64 a.2.2.2.2.2).wf = true) := by
  intro n cs x hl h
  obtain ⟨c0, c1, c2, c3, c4, c5, y0, y1, y2, y3, y4, y5, m, rfl, h0, h1, h2, h3, h4, h5⟩ := trod_six Try.underlying30 (by kernel_rfl) hl h
  obtain ⟨a0, e0, _, w0⟩ := DataW.trod_int Try.underlying3 h0
  obtain ⟨a1, e1, _, w1⟩ := DataW.trod_int Try.underlying3 h1
  obtain ⟨a2, e2, _, w2⟩ := DataW.trod_int Try.underlying3 h2
  obtain ⟨a3, e3, _, w3⟩ := DataW.trod_int Try.underlying3 h3
  obtain ⟨a4, e4, _, w4⟩ := DataW.trod_int Try.underlying3 h4
  obtain ⟨a5, e5, _, w5⟩ := DataW.trod_int Try.underlying3 h5
  simp at e0 e1 e2 e3 e4 e5
  subst e0
  subst e1
  subst e2
  subst e3
  subst e4
  subst e5
  exact ⟨(a0, a1, a2, a3, a4, a5), by simp [Fun.AbsL, Fun.Abs], w0, w1, w2, w3, w4, w5⟩
set_option maxRecDepth 100000 in
theorem lifted (os : Os) (started : os.Started) (H : Type) (enc : TypeId × Value → H) :
    ReturnsInHanded {} Try.checked os 7 .any (Rows.tenantOthersSpec.pre6 enc Try.prog Try.f7 Rows.tenantOthersRow.domain false) (Rows.tenantOthersSpec.post enc Try.prog Try.f7 false true false false) := by
  refine returnsInHanded_of_change_sized (C := Try.checked) own started (by kernel_rfl) Try.func7
    (ChangeSpec.witness6 (enc := enc) (C := Try.checked) false ⟨#[], #[.slice none 0 0, .int .u8 0, .bool false], []⟩ 8 (by kernel_rfl) (by kernel_rfl) (by kernel_rfl) (by kernel_rfl)) ?_
  intro W base args ds gs before hval0 hW hcnd hsz0 _
  have hval : ∀ (j : Nat) t v, Try.f7.params[j]? = some t → args[j]? = some v → Value.okWide Try.prog W .any base t v := hval0
  have hW' := hW
  obtain ⟨p, q, hA0, hV, rfl, hfz, hnd⟩ := hW
  have hA : DataW.TrodAll enc Try.prog W 0 (fun _ => true) true Try.f7.params.toList args.toList ds p := hA0
  have hlt : ∀ x ∈ p, x.block < W.heap.size := fun x hx => by have h := hW'.lt x (List.mem_append_left _ hx); simpa using h
  rw [Try.params7] at hA hval
  have hA' := hA
  obtain ⟨v0, vs0, d0, ds0, p0, q0, hargs, rfl, rfl, h0, r0⟩ := trodAll_cons hA
  obtain ⟨v1, vs1, d1, ds1, p1, q1, rfl, rfl, rfl, h1, r1⟩ := trodAll_cons r0
  obtain ⟨v2, vs2, d2, ds2, p2, q2, rfl, rfl, rfl, h2, r2⟩ := trodAll_cons r1
  obtain ⟨rfl, rfl, rfl⟩ := trodAll_nil r2
  obtain rfl : args = #[v0, v1, v2] := by cases args; simp_all
  obtain ⟨rfl, rfl⟩ := trodVars_none hV
  obtain ⟨A0, l0, cap0, rfl, ml0, hAbs0, hQ0⟩ := LawRowsFun.open_rows (sz := 6) (by decide) (fun a : Int × Int × Int × Int × Int × Int => [.int .i64 a.1, .int .i64 a.2.1, .int .i64 a.2.2.1, .int .i64 a.2.2.2.1, .int .i64 a.2.2.2.2.1, .int .i64 a.2.2.2.2.2]) (Q := fun a : Int × Int × Int × Int × Int × Int => (Lit.int .i64 a.1).wf = true ∧ (Lit.int .i64 a.2.1).wf = true ∧ (Lit.int .i64 a.2.2.1).wf = true ∧ (Lit.int .i64 a.2.2.2.1).wf = true ∧ (Lit.int .i64 a.2.2.2.2.1).wf = true ∧ (Lit.int .i64 a.2.2.2.2.2).wf = true) Try.underlying22 cells30 (hval 0 22 v0 rfl rfl) h0 el30
  obtain ⟨a1, rfl, rfl, rfl, w1⟩ := open_int Try.underlying5 (hval 1 5 v1 rfl rfl) h1
  obtain ⟨a2, rfl, rfl, rfl⟩ := open_bool Try.underlying4 (hval 2 4 v2 rfl rfl) h2
  refine (Pure.TenantOthers W A0 cap0 l0 a1 a2 hAbs0 ml0 hQ0 w1).mono fun e W' ⟨he, bel⟩ => ?_
  subst he
  exact ⟨_, rfl, _, _, _, [], _, [], hW', trodAll_mk1 (shut_bool Try.underlying4 _), trodAll_below laid bel _ _ _ _ (by kernel_rfl) hlt hA', rfl, bel.frame _, fun h => by cases h⟩
theorem over : Rows.tenantOthersRow.holds Try.pinned (OpenSpec.ofChange Rows.tenantOthersSpec) :=
  OpenClaim.holds_of_wide 7 Try.f7 rfl rfl rfl rfl rfl rfl rfl ⟨rfl, rfl, rfl, rfl, rfl⟩ rfl rfl rfl rfl rfl (by kernel_rfl) Try.func7 (by kernel_rfl)
    (of_decide_eq_true (by kernel_rfl)) (by unfold Func.isWrapper; first | (rw [if_pos (by decide +kernel)]; kernel_rfl) | (rw [if_neg (by decide +kernel)]; exact ⟨rfl, rfl⟩))
    (fun os started H enc _ => lifted os started H enc)
end Go.Proofs.Ytkhjkfbgcpjphaa.tenantOthers
namespace Go.Proofs.Ytkhjkfbgcpjphaa
/-- The given statement. -/
theorem tenantOthers_holds : Rows.TenantOthersSaid := tenantOthers.over
#print axioms tenantOthers_holds
end Go.Proofs.Ytkhjkfbgcpjphaa
