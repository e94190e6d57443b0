/- FieldBack, plainly: what is packed is split again, and what is split is packed again. -/
import Derived.Test.YtbmecfpdemoooaaGFieldBack
namespace Go.Proofs.Ytbmecfpdemoooaa.Pure
open Go Go.RowKit Go.Proofs.Ytbmecfpdemoooaa.PFieldBack Go.Proofs.YtbmecfpdemoooaaW.PrintWords Go.Proofs.Ytbmecfpdemoooaa.FFieldBack Go.Proofs.Ytbmecfpdemoooaa.GFieldBack Go.Proofs.Ytbmecfpdemoooaa.FB Go.Proofs.Ytbmecfpdemoooaa.FL
set_option linter.unusedVariables false
theorem words_of (vs : List Int) (h : ∀ a ∈ vs, (fun x : Int => (Lit.int .u64 x).wf = true) a) : ∃ ws : List (BitVec 64), vs = ws.map u := by
  induction vs with
  | nil => exact ⟨[], rfl⟩
  | cons v vs ih =>
    obtain ⟨w, rfl⟩ := u_of (h v (by simp))
    obtain ⟨ws, rfl⟩ := ih (fun a ha => h a (by simp [ha]))
    exact ⟨w :: ws, rfl⟩
theorem back_two (l : List S23) (w : BitVec 64) (hn : l.length ≤ 64) : Ev (fun k => cubiclelaw01_FieldBack.j1 k l (u w)) true := by
  refine Ev.step (f := fun k => (field_Split.f k l (u w)).bind fun a => (if a.2 = 0 then ((field_Pack.f k l a.1).bind fun b => (if b.2 = 0 then (some (b.1 == u w)) else (some false))) else (some ((a.1.length : Int) == 0)))) (fun k => ?_) ?_
  · simp only [cubiclelaw01_FieldBack.j1]
  · refine Ev.bind (split_f l w (by omega)) ?_
    unfold parted
    by_cases hl : Lay (pr l)
    · rw [if_pos hl]
      by_cases h0 : u (left w (pr l)) = 0
      · rw [if_pos h0]
        refine Ev.congr (fun k => if_pos rfl) ?_
        have e := packed_split hl h0
        have hp := pack_f l ((pr l).map fun f => gt f w) (by omega)
        rw [List.map_map] at hp
        have ep : packed (pr l) ((pr l).map fun f => gt f w) = (u w, 0) := by
          unfold packed
          rw [if_pos ⟨hl, by simp⟩, e]
        rw [ep] at hp
        refine Ev.bind hp ?_
        refine Ev.congr (fun k => if_pos rfl) ?_
        rw [beq_self_eq_true]
        exact Ev.now _
      · rw [if_neg h0]
        exact Ev.congr (fun k => if_neg (by simp)) (Ev.now _)
    · rw [if_neg hl]
      exact Ev.congr (fun k => if_neg (by simp)) (Ev.now _)
theorem FieldBack (l : List S23) (v : List Int) (x : Int) (hl : ∀ a ∈ l, (fun x : S23 => (Lit.int .i64 x.f0).wf = true ∧ (Lit.int .i64 x.f1).wf = true) a) (hv : ∀ a ∈ v, (fun x : Int => (Lit.int .u64 x).wf = true) a) (wx : (Lit.int .u64 x).wf = true) :
    ∃ k, cubiclelaw01_FieldBack.f k l v x = some true := by
  obtain ⟨ws, rfl⟩ := words_of v hv
  obtain ⟨w, rfl⟩ := u_of wx
  apply Ev.rounds (g := fun k => cubiclelaw01_FieldBack.f k l (ws.map u) (u w))
  unfold cubiclelaw01_FieldBack.f
  rw [awake_eq]
  refine Ev.congr (fun k => by rw [Option.bind_some, if_pos rfl]) ?_
  have yes : Ev (fun k => cubiclelaw01_FieldBack.j0 k l (ws.map u) (u w) true) true := by
    refine Ev.step (f := fun _ => some true) (fun k => ?_) (Ev.now _)
    simp only [cubiclelaw01_FieldBack.j0]
    rw [if_pos True.intro, awake_eq, Option.bind_some]
  by_cases h : (l.length : Int) > 64
  · exact Ev.congr (fun k => if_pos h) yes
  · refine Ev.congr (fun k => if_neg h) ?_
    by_cases h2 : (((ws.map u).length : Nat) : Int) > 70
    · rw [decide_eq_true h2]; exact yes
    · rw [decide_eq_false h2]
      refine Ev.step (f := fun k => (field_Pack.f k l (ws.map u)).bind fun a => (if a.2 = 0 then ((field_Split.f k l a.1).bind fun b => (if b.2 = 0 then ((cubicleref01_Same.f k b.1 (ws.map u)).bind fun t => (if t = true then (cubiclelaw01_FieldBack.j1 k l (u w)) else (some false))) else (some false))) else (cubiclelaw01_FieldBack.j1 k l (u w)))) (fun k => ?_) ?_
      · simp only [cubiclelaw01_FieldBack.j0]
        rw [if_neg (by simp)]
      · refine Ev.bind (pack_f l ws (by omega)) ?_
        unfold packed
        by_cases hh : Lay (pr l) ∧ (pr l).length = ws.length
        · rw [if_pos hh]
          cases e : pk 0#64 (pr l) ws with
          | none => exact Ev.congr (fun k => if_neg (by simp)) (back_two l w (by omega))
          | some y =>
            refine Ev.congr (fun k => if_pos rfl) ?_
            have hs := split_f l y (by omega)
            rw [split_packed (w := y) hh.1 hh.2 e] at hs
            refine Ev.bind hs ?_
            refine Ev.congr (fun k => if_pos rfl) ?_
            refine Ev.bind (same_f (ws.map u) (by omega)) ?_
            exact Ev.congr (fun k => if_pos rfl) (back_two l w (by omega))
        · rw [if_neg hh]
          exact Ev.congr (fun k => if_neg (by simp)) (back_two l w (by omega))
end Go.Proofs.Ytbmecfpdemoooaa.Pure
