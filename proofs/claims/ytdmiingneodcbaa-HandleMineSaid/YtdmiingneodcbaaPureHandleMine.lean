/- HandleMine, plainly: the program and the reference come to the same. -/
import Derived.Test.YtdmiingneodcbaaHHandleMine
namespace Go.Proofs.Ytdmiingneodcbaa.Pure
open Go Go.RowKit Go.Proofs.Ytdmiingneodcbaa.PHandleMine Go.Proofs.YtdmiingneodcbaaW.PrintWords Go.Proofs.Ytdmiingneodcbaa.HHandleMine Go.Proofs.Ytdmiingneodcbaa.FB
set_option linter.unusedVariables false
theorem HandleMine (x t n : Int) (wx : (Lit.int .u64 x).wf = true) (wt : (Lit.int .i64 t).wf = true) (wn : (Lit.int .i64 n).wf = true) : ∃ k, cubiclelaw08_HandleMine.f k x t n = some true := by
  obtain ⟨w, rfl⟩ := u_of wx
  apply Ev.rounds (g := fun k => cubiclelaw08_HandleMine.f k (u w) t n)
  unfold cubiclelaw08_HandleMine.f
  refine Ev.bind hawake_eq ?_
  refine Ev.congr (fun k => if_pos rfl) ?_
  have e1 : Ev (fun k => handle_Mine.f k (u w) t n) (if (ho (u w)).2.2.2 = true then (if (ho (u w)).2.2.1 = t then (if (ho (u w)).1 ≥ n then (0, 0, 0, false) else ((ho (u w)).1, (ho (u w)).2.1, (ho (u w)).2.2.1, true)) else (0, 0, 0, false)) else (0, 0, 0, false)) := by
    unfold handle_Mine.f
    refine Ev.bind (hof_eq w) ?_
    refine Ev.congr (f := fun _ => some _) (fun k => ?_) (Ev.now _)
    split
    · split
      · split <;> rfl
      · rfl
    · rfl
  have e2 : cubicleref08_Mine.f (u w) t n = some (if (ho (u w)).2.2.2 = true then (if (ho (u w)).2.2.1 = t then (if (ho (u w)).1 ≥ n then (0, 0, 0, false) else ((ho (u w)).1, (ho (u w)).2.1, (ho (u w)).2.2.1, true)) else (0, 0, 0, false)) else (0, 0, 0, false)) := by
    unfold cubicleref08_Mine.f
    rw [rhof_eq _ (u_nonneg w) (u_lt w), Option.bind_some]
    split
    · split
      · split <;> rfl
      · rfl
    · rfl
  refine Ev.bind e1 ?_
  rw [e2]
  refine Ev.congr (f := fun _ => some true) (fun k => ?_) (Ev.now _)
  rw [Option.bind_some, if_pos (by simp)]
  simp
end Go.Proofs.Ytdmiingneodcbaa.Pure
