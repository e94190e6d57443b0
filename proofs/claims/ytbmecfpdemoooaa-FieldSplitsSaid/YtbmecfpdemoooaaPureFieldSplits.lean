/- FieldSplits, plainly: the program and the reference come to the same. -/
import Derived.Test.YtbmecfpdemoooaaGFieldSplits
namespace Go.Proofs.Ytbmecfpdemoooaa.Pure
open Go Go.RowKit Go.Proofs.Ytbmecfpdemoooaa.PFieldSplits Go.Proofs.YtbmecfpdemoooaaW.PrintWords Go.Proofs.Ytbmecfpdemoooaa.FFieldSplits Go.Proofs.Ytbmecfpdemoooaa.GFieldSplits Go.Proofs.Ytbmecfpdemoooaa.FB Go.Proofs.Ytbmecfpdemoooaa.FL
set_option linter.unusedVariables false
theorem FieldSplits (l : List S23) (x : Int) (hl : ∀ a ∈ l, (fun x : S23 => (Lit.int .i64 x.f0).wf = true ∧ (Lit.int .i64 x.f1).wf = true) a) (wx : (Lit.int .u64 x).wf = true) :
    ∃ k, cubiclelaw01_FieldSplits.f k l x = some true := by
  obtain ⟨w, rfl⟩ := u_of wx
  apply Ev.rounds (g := fun k => cubiclelaw01_FieldSplits.f k l (u w))
  unfold cubiclelaw01_FieldSplits.f
  rw [awake_eq]
  refine Ev.congr (fun k => by rw [Option.bind_some, if_pos rfl]) ?_
  by_cases h : (l.length : Int) > 64
  · rw [decide_eq_true h]
    refine Ev.step (f := fun _ => some true) (fun k => ?_) (Ev.now _)
    simp only [cubiclelaw01_FieldSplits.j0]
    rw [if_pos True.intro, awake_eq, Option.bind_some]
  · rw [decide_eq_false h]
    have e1 := split_f l w (by omega)
    have e2 := rsplit_f l w (by omega)
    have e3 := same_f (parted (pr l) w).1 (by
      unfold parted
      split
      · split
        · simp [pr]; omega
        · simp
      · simp)
    refine Ev.step (f := fun k => (field_Split.f k l (u w)).bind fun a => ((cubicleref01_Split.f k l (u w)).bind fun b => (if a.2 = b.2 then ((cubicleref01_Same.f k a.1 b.1).bind fun t => (some t)) else (some false)))) (fun k => ?_) ?_
    · simp only [cubiclelaw01_FieldSplits.j0]
      rw [if_neg (by simp)]
    · refine Ev.bind e1 (Ev.bind e2 ?_)
      refine Ev.congr (fun k => if_pos rfl) ?_
      exact Ev.bind e3 (Ev.now _)
end Go.Proofs.Ytbmecfpdemoooaa.Pure
