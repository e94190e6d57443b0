/- FieldBack: whatever comes in, the law's call returns true and leaves what came in as it was. -/
import Derived.Test.YtbmecfpdemoooaaRows
import Derived.Test.YtbmecfpdemoooaaLawWords
import Derived.Test.YtbmecfpdemoooaaPureFieldBack
import Derived.WalkKit
import Derived.ProofKit
import Derived.OpenShut
import Derived.ShutString
import Derived.ChangeOld
import Derived.Below
import Derived.SizedLaws
import Derived.Lib.SmallJoins
import Derived.ChangeSame
import Derived.Test.YtbmecfpdemoooaaLawRowsIn
namespace Go.Proofs.Ytbmecfpdemoooaa.fieldBack
open Go.ChangeShapes Go.WideShapes Go.ChangeAt Go.RowKit Go.Joins Go.Proofs.Ytbmecfpdemoooaa.LawWords Go.Proofs.YtbmecfpdemoooaaW.PrintWords
open Go.ChangeMaps (open_string shut_string)
set_option linter.unusedVariables false
theorem own : ownKnob Try.prog.godebug = none := by kernel_rfl
theorem laid : laidOutB Try.prog = true := by kernel_rfl
theorem cells23 : Try.prog.cellsOf 23 = 2 := by kernel_rfl
theorem cells24 : Try.prog.cellsOf 24 = 1 := by kernel_rfl
theorem cells3 : Try.prog.cellsOf 3 = 1 := by kernel_rfl
theorem el23 {H : Type} {enc : TypeId × Value → H} {w : World} {base : Nat} {spare : Nat → Bool} {held : Bool} : ∀ n cs x, cs.length = PFieldBack.k23.sz → DataW.trod enc Try.prog w base spare held n 23 cs = some x → ∃ a, PFieldBack.k23.K w a cs ∧ (fun x : PFieldBack.S23 => (Lit.int .i64 x.f0).wf = true ∧ (Lit.int .i64 x.f1).wf = true) a := by
  intro n cs x hl h
  obtain ⟨y0, y1, m, _, _, h0, h1⟩ := trod_struct2 Try.underlying23 h
  match cs, hl with
  | [c0, c1], _ =>
    obtain ⟨a0, e0, _, w0⟩ := DataW.trod_int Try.underlying3 h0
    obtain ⟨a1, e1, _, w1⟩ := DataW.trod_int Try.underlying3 h1
    simp [cells3] at e0 e1
    subst e0
    subst e1
    exact ⟨⟨a0, a1⟩, PFieldBack.k23_mk w ⟨a0, a1⟩, w0, w1⟩
theorem el24 {H : Type} {enc : TypeId × Value → H} {w : World} {base : Nat} {spare : Nat → Bool} {held : Bool} : ∀ n cs x, cs.length = (Kd.int .u64).sz → DataW.trod enc Try.prog w base spare held n 24 cs = some x → ∃ a, (Kd.int .u64).K w a cs ∧ (fun x : Int => (Lit.int .u64 x).wf = true) a := by
  intro n cs x hl h
  obtain ⟨a, e, _, wa⟩ := DataW.trod_int Try.underlying24 h
  exact ⟨a, e, wa⟩
set_option maxRecDepth 100000 in
theorem lifted (os : Os) (started : os.Started) (H : Type) (enc : TypeId × Value → H) :
    ReturnsInHanded {} Try.checked os 12 .any (Rows.fieldBackSpec.pre6 enc Try.prog Try.f12 Rows.fieldBackRow.domain false) (Rows.fieldBackSpec.post enc Try.prog Try.f12 false true false false) := by
  refine returnsInHanded_of_change_sized (C := Try.checked) own started (by kernel_rfl) Try.func12
    (ChangeSpec.witness6 (enc := enc) (C := Try.checked) false ⟨#[], #[.slice none 0 0, .slice none 0 0, .int .u64 0], []⟩ 8 (by kernel_rfl) (by kernel_rfl) (by kernel_rfl) (by kernel_rfl)) ?_
  intro W base args ds gs before hval0 hW hcnd hsz0 _
  have hval : ∀ (j : Nat) t v, Try.f12.params[j]? = some t → args[j]? = some v → Value.okWide Try.prog W .any base t v := hval0
  have hW' := hW
  obtain ⟨p, q, hA0, hV, rfl, hfz, hnd⟩ := hW
  have hA : DataW.TrodAll enc Try.prog W 0 (fun _ => true) true Try.f12.params.toList args.toList ds p := hA0
  have hlt : ∀ x ∈ p, x.block < W.heap.size := fun x hx => by have h := hW'.lt x (List.mem_append_left _ hx); simpa using h
  rw [Try.params12] at hA hval
  have hA' := hA
  obtain ⟨v0, vs0, d0, ds0, p0, q0, hargs, rfl, rfl, h0, r0⟩ := trodAll_cons hA
  obtain ⟨v1, vs1, d1, ds1, p1, q1, rfl, rfl, rfl, h1, r1⟩ := trodAll_cons r0
  obtain ⟨v2, vs2, d2, ds2, p2, q2, rfl, rfl, rfl, h2, r2⟩ := trodAll_cons r1
  obtain ⟨rfl, rfl, rfl⟩ := trodAll_nil r2
  obtain rfl : args = #[v0, v1, v2] := by cases args; simp_all
  obtain ⟨rfl, rfl⟩ := trodVars_none hV
  obtain ⟨A0, l0, cap0, rfl, hcap0, _, hC0, hQ0⟩ := LawRowsIn.open_rows PFieldBack.k23 (Q := fun x : PFieldBack.S23 => (Lit.int .i64 x.f0).wf = true ∧ (Lit.int .i64 x.f1).wf = true) Try.underlying36 cells23 (hval 0 36 v0 rfl rfl) h0 el23
  obtain ⟨A1, l1, cap1, rfl, hcap1, _, hC1, hQ1⟩ := LawRowsIn.open_rows (Kd.int .u64) (Q := fun x : Int => (Lit.int .u64 x).wf = true) Try.underlying44 cells24 (hval 1 44 v1 rfl rfl) h1 el24
  obtain ⟨a2, rfl, rfl, rfl, w2⟩ := open_int Try.underlying24 (hval 2 24 v2 rfl rfl) h2
  obtain ⟨k, hk⟩ := Pure.FieldBack l0 l1 a2 hQ0 hQ1 w2
  refine (PFieldBack.cubiclelaw01_FieldBack.calls k A0 cap0 l0 A1 cap1 l1 a2 true W hC0 hcap0 hC1 hcap1 hk).mono fun e W' ⟨he, bel⟩ => ?_
  subst he
  exact ⟨_, rfl, _, _, _, [], _, [], hW', trodAll_mk1 (shut_bool Try.underlying4 _), trodAll_below laid bel _ _ _ _ (by kernel_rfl) hlt hA', rfl, bel.frame _, fun h => by cases h⟩
theorem over : Rows.fieldBackRow.holds Try.pinned (OpenSpec.ofChange Rows.fieldBackSpec) :=
  OpenClaim.holds_of_wide 12 Try.f12 rfl rfl rfl rfl rfl rfl rfl ⟨rfl, rfl, rfl, rfl, rfl⟩ rfl rfl rfl rfl rfl (by kernel_rfl) Try.func12 (by kernel_rfl)
    (of_decide_eq_true (by kernel_rfl)) (by unfold Func.isWrapper; first | (rw [if_pos (by decide +kernel)]; kernel_rfl) | (rw [if_neg (by decide +kernel)]; exact ⟨rfl, rfl⟩))
    (fun os started H enc _ => lifted os started H enc)
end Go.Proofs.Ytbmecfpdemoooaa.fieldBack
namespace Go.Proofs.Ytbmecfpdemoooaa
/-- The given statement. -/
theorem fieldBack_holds : Rows.FieldBackSaid := fieldBack.over
#print axioms fieldBack_holds
end Go.Proofs.Ytbmecfpdemoooaa
