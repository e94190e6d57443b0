/- StateApart, plainly: words tell states apart, and turned states are formed. -/
import Derived.Test.YtbmecfpdemoooaaTStateApart
namespace Go.Proofs.Ytbmecfpdemoooaa.Pure
open Go Go.RowKit Go.Proofs.Ytbmecfpdemoooaa.PStateApart Go.Proofs.YtbmecfpdemoooaaW.PrintWords Go.Proofs.Ytbmecfpdemoooaa.TStateApart Go.Proofs.Ytbmecfpdemoooaa.FB Go.Proofs.Ytbmecfpdemoooaa.FN
set_option linter.unusedVariables false
theorem StateApart (g m t g' m' t' n : Int) (wi : (Lit.int .i64 g).wf = true) (wg : (Lit.int .i64 m).wf = true) (wt : (Lit.int .i64 t).wf = true)
    (wi' : (Lit.int .i64 g').wf = true) (wg' : (Lit.int .i64 m').wf = true) (wt' : (Lit.int .i64 t').wf = true) (wn : (Lit.int .i64 n).wf = true) : ∃ k, cubiclelaw07_StateApart.f k g m t g' m' t' n = some true := by
  refine ⟨1, ?_⟩
  unfold cubiclelaw07_StateApart.f
  rw [awake_eq, Option.bind_some, if_pos rfl, rformed_eq]
  have yes : cubiclelaw07_StateApart.j0 1 n true g m t g' m' t' = some true := by
    simp only [cubiclelaw07_StateApart.j0]
    rw [if_pos True.intro, awake_eq, Option.bind_some]
  by_cases h : StF g m t
  · rw [decide_eq_true h, Option.bind_some, if_pos rfl, rformed_eq, Option.bind_some]
    by_cases h' : StF g' m' t'
    · rw [decide_eq_true h']
      simp only [cubiclelaw07_StateApart.j0]
      have e1 : Giv.stw g m t = g + m * 1073741824 + t * 4294967296 := if_pos h
      have e2 : Giv.stw g' m' t' = g' + m' * 1073741824 + t' * 4294967296 := if_pos h'
      have s1 : state_State_Word.f g m t = some (Giv.stw g m t) := rfl
      have s2 : state_State_Word.f g' m' t' = some (Giv.stw g' m' t') := rfl
      have eq : (Giv.stw g m t == Giv.stw g' m' t') = (g == g' && (m == m' && (t == t'))) := by
        rw [e1, e2, Bool.eq_iff_iff]
        simp only [beq_iff_eq, Bool.and_eq_true]
        unfold StF at h h'
        constructor
        · intro; omega
        · rintro ⟨rfl, rfl, rfl⟩; rfl
      have r1 : state_State_Retire.f g m t = some (g, 2, t) := rfl
      have l1 : state_State_Live.f g m t n = some (g, 1, n) := rfl
      have f1 : ∃ a b c, state_State_Freed.f g m t 1073741823 = some (a, b, c) ∧ StF a b c := by
        unfold state_State_Freed.f
        by_cases hh : g ≥ 1073741823
        · exact ⟨g, 3, 0, if_pos hh, by unfold StF at *; omega⟩
        · refine ⟨g + 1, 0, 0, ?_, by unfold StF at *; omega⟩
          rw [if_neg hh, wrap_in (by unfold StF at h; omega)]
      obtain ⟨a, b, c, hf, hfs⟩ := f1
      have hR : StF g 2 t := by unfold StF at *; omega
      have hlast : state_State_Formed.f a b c = some true := by rw [Giv.sformed_eq, decide_eq_true hfs]
      rw [if_neg (by simp), hf, Option.bind_some, s1, Option.bind_some, s2, Option.bind_some, eq, if_pos (by simp), r1, Option.bind_some, Giv.sformed_eq, decide_eq_true hR, Option.bind_some, if_pos rfl, l1, Option.bind_some, Giv.sformed_eq, Option.bind_some]
      have hl : StF g 1 n ↔ (0 ≤ n ∧ n ≤ 2) := by unfold StF at *; omega
      by_cases hn : n ≥ 0
      · rw [if_pos hn]
        by_cases hn2 : n ≤ 2
        · rw [decide_eq_true (hl.2 ⟨hn, hn2⟩), decide_eq_true hn2, if_pos (beq_self_eq_true _)]; show (state_State_Formed.f a b c).bind _ = _; rw [hlast]; rfl
        · rw [decide_eq_false (fun e => hn2 (hl.1 e).2), decide_eq_false hn2, if_pos (beq_self_eq_true _)]; show (state_State_Formed.f a b c).bind _ = _; rw [hlast]; rfl
      · rw [if_neg hn, decide_eq_false (fun e => hn (hl.1 e).1), if_pos (beq_self_eq_true _)]; show (state_State_Formed.f a b c).bind _ = _; rw [hlast]; rfl
    · rw [decide_eq_false h']
      exact yes
  · rw [decide_eq_false h, Option.bind_some, if_neg (by simp)]
    exact yes
end Go.Proofs.Ytbmecfpdemoooaa.Pure
