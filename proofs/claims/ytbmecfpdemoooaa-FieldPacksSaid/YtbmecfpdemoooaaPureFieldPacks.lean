/- FieldPacks, plainly: the program and the reference come to the same. -/
import Derived.Test.YtbmecfpdemoooaaGFieldPacks
namespace Go.Proofs.Ytbmecfpdemoooaa.Pure
open Go Go.RowKit Go.Proofs.Ytbmecfpdemoooaa.PFieldPacks Go.Proofs.YtbmecfpdemoooaaW.PrintWords Go.Proofs.Ytbmecfpdemoooaa.FFieldPacks Go.Proofs.Ytbmecfpdemoooaa.GFieldPacks Go.Proofs.Ytbmecfpdemoooaa.FB Go.Proofs.Ytbmecfpdemoooaa.FL
set_option linter.unusedVariables false
theorem words_of (vs : List Int) (h : ∀ a ∈ vs, (fun x : Int => (Lit.int .u64 x).wf = true) a) : ∃ ws : List (BitVec 64), vs = ws.map u := by
  induction vs with
  | nil => exact ⟨[], rfl⟩
  | cons v vs ih =>
    obtain ⟨w, rfl⟩ := u_of (h v (by simp))
    obtain ⟨ws, rfl⟩ := ih (fun a ha => h a (by simp [ha]))
    exact ⟨w :: ws, rfl⟩
theorem FieldPacks (l : List S23) (v : List Int) (hl : ∀ a ∈ l, (fun x : S23 => (Lit.int .i64 x.f0).wf = true ∧ (Lit.int .i64 x.f1).wf = true) a) (hv : ∀ a ∈ v, (fun x : Int => (Lit.int .u64 x).wf = true) a) :
    ∃ k, cubiclelaw01_FieldPacks.f k l v = some true := by
  obtain ⟨ws, rfl⟩ := words_of v hv
  apply Ev.rounds (g := fun k => cubiclelaw01_FieldPacks.f k l (ws.map u))
  unfold cubiclelaw01_FieldPacks.f
  rw [awake_eq]
  refine Ev.congr (fun k => by rw [Option.bind_some, if_pos rfl]) ?_
  have yes : Ev (fun k => cubiclelaw01_FieldPacks.j0 k l (ws.map u) true) true := by
    refine Ev.step (f := fun _ => some true) (fun k => ?_) (Ev.now _)
    simp only [cubiclelaw01_FieldPacks.j0]
    rw [if_pos True.intro, awake_eq, Option.bind_some]
  by_cases h : (l.length : Int) > 64
  · exact Ev.congr (fun k => if_pos h) yes
  · refine Ev.congr (fun k => if_neg h) ?_
    by_cases h2 : (((ws.map u).length : Nat) : Int) > 70
    · rw [decide_eq_true h2]; exact yes
    · rw [decide_eq_false h2]
      refine Ev.step (f := fun k => (field_Pack.f k l (ws.map u)).bind fun a => ((cubicleref01_Pack.f k l (ws.map u)).bind fun b => (if a.1 = b.1 then (if a.2 = b.2 then ((field_Formed.f k l).bind fun t158 => ((cubicleref01_Layout.f k l).bind fun t159 => (some (t158 == t159)))) else (some false)) else (some false)))) (fun k => ?_) ?_
      · simp only [cubiclelaw01_FieldPacks.j0]
        rw [if_neg (by simp)]
      · refine Ev.bind (pack_f l ws (by omega)) (Ev.bind (rpack_f l ws (by omega)) ?_)
        refine Ev.congr (fun k => by rw [if_pos rfl, if_pos rfl]) ?_
        refine Ev.bind (formed_f l (by omega)) (Ev.bind (layout_f l (by omega)) ?_)
        rw [beq_self_eq_true]
        exact Ev.now _
end Go.Proofs.Ytbmecfpdemoooaa.Pure
