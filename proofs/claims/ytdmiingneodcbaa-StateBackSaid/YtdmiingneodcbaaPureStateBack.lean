/- StateBack, plainly: a formed state comes again from its word; turned again and again its Gen rises one by one, until it is gone. -/
import Derived.Test.YtdmiingneodcbaaTStateBack
namespace Go.Proofs.Ytdmiingneodcbaa.Pure
open Go Go.RowKit Go.Proofs.Ytdmiingneodcbaa.PStateBack Go.Proofs.YtdmiingneodcbaaW.PrintWords Go.Proofs.Ytdmiingneodcbaa.TStateBack Go.Proofs.Ytdmiingneodcbaa.FB Go.Proofs.Ytdmiingneodcbaa.FN
set_option linter.unusedVariables false
theorem back_loop (x n : Int) (hx : 0 ≤ x ∧ x < 256) (hn : 0 ≤ n ∧ n < 256) (d : Nat) : ∀ (i m : Int) (k : Nat), 0 ≤ i → x % 40 - i = d → d < k → (m = 0 ∨ m = 3) → (m = 0 → i ≤ n) → (m = 3 → n ≤ i) →
    cubiclelaw07_StateBack.l0 k x n i (if m = 0 then i else n) m 0 = some true := by
  have e40 : wrap64 (Int.tmod x 40) = x % 40 := by rw [Int.tmod_eq_emod_of_nonneg hx.1]; exact wrap_in (by omega)
  have en : wrap64 n = n := wrap_in (by omega)
  have ex : wrap64 x = x := wrap_in (by omega)
  induction d with
  | zero =>
    intro i m k hi hd hk hm h0 h3
    obtain ⟨k, rfl⟩ : ∃ j, k = j + 1 := ⟨k - 1, by omega⟩
    simp only [cubiclelaw07_StateBack.l0]
    rw [e40, if_neg (by omega), en, ex]
    rcases hm with rfl | rfl
    · have := h0 rfl
      rw [if_pos rfl, if_pos (by omega), decide_eq_true (by omega)]
    · have := h3 rfl
      rw [show (if (3 : Int) = 0 then i else n) = n from if_neg (by decide), if_pos (by omega), decide_eq_true (by omega)]
  | succ d ih =>
    intro i m k hi hd hk hm h0 h3
    obtain ⟨k, rfl⟩ : ∃ j, k = j + 1 := ⟨k - 1, by omega⟩
    simp only [cubiclelaw07_StateBack.l0]
    rw [e40, if_pos (by omega), en]
    rcases hm with rfl | rfl
    · have hin := h0 rfl
      rw [if_pos rfl, if_neg (by decide)]
      have l1 : state_State_Live.f i 0 0 1 = some (i, 1, 1) := rfl
      have r1 : state_State_Retire.f i 1 1 = some (i, 2, 1) := rfl
      have ei : wrap64 (i + 1) = i + 1 := wrap_in (by omega)
      rw [l1, Option.bind_some]
      simp only
      rw [r1, Option.bind_some]
      simp only
      by_cases hlt : i < n
      · have f1 : state_State_Freed.f i 2 1 n = some (i + 1, 0, 0) := by
          unfold state_State_Freed.f
          rw [if_neg (by omega), ei]
        have hs : StF (i + 1) 0 0 := by unfold StF; omega
        rw [f1, Option.bind_some]
        simp only
        rw [if_pos True.intro, ei, if_pos rfl, if_neg (by omega), if_pos True.intro, Giv.sformed_eq, decide_eq_true hs, Option.bind_some, if_pos rfl]
        have := ih (i + 1) 0 k (by omega) (by omega) (by omega) (.inl rfl) (fun _ => by omega) (fun h => absurd h (by decide))
        rw [if_pos rfl] at this
        exact this
      · have hin' : i = n := by omega
        have f1 : state_State_Freed.f i 2 1 n = some (i, 3, 0) := by
          unfold state_State_Freed.f
          rw [if_pos (by omega)]
        have hs : StF i 3 0 := by unfold StF; omega
        rw [f1, Option.bind_some]
        simp only
        rw [if_neg (by decide), if_pos True.intro, if_pos True.intro, if_neg (by omega), if_pos True.intro, Giv.sformed_eq, decide_eq_true hs, Option.bind_some, if_pos rfl, ei]
        have := ih (i + 1) 3 k (by omega) (by omega) (by omega) (.inr rfl) (fun h => absurd h (by decide)) (fun _ => by omega)
        rw [if_neg (by decide)] at this
        rw [hin']
        rw [hin'] at this
        exact this
    · rw [show (if (3 : Int) = 0 then i else n) = n from if_neg (by decide), if_pos rfl, if_pos rfl]
      have f1 : state_State_Freed.f n 3 0 n = some (n, 3, 0) := by
        unfold state_State_Freed.f
        rw [if_pos (by omega)]
      rw [f1, Option.bind_some]
      simp
theorem StateBack (g m t x n : Int) (wi : (Lit.int .i64 g).wf = true) (wg : (Lit.int .i64 m).wf = true) (wt : (Lit.int .i64 t).wf = true) (wx : (Lit.int .u8 x).wf = true) (wn : (Lit.int .u8 n).wf = true) :
    ∃ k, cubiclelaw07_StateBack.f k g m t x n = some true := by
  have hx : 0 ≤ x ∧ x < 256 := by
    simp [Lit.wf, IntKind.min, IntKind.max, IntKind.signed, IntKind.bits] at wx
    omega
  have hn : 0 ≤ n ∧ n < 256 := by
    simp [Lit.wf, IntKind.min, IntKind.max, IntKind.signed, IntKind.bits] at wn
    omega
  obtain ⟨d, hd⟩ : ∃ d : Nat, x % 40 - 0 = d := ⟨(x % 40).toNat, by omega⟩
  have hl := back_loop x n hx hn d 0 0 (d + 1) (by omega) hd (by omega) (.inl rfl) (fun _ => hn.1) (fun h => absurd h (by decide))
  rw [if_pos rfl] at hl
  refine ⟨d + 1 + 1 + 1, ?_⟩
  unfold cubiclelaw07_StateBack.f
  rw [awake_eq, Option.bind_some, if_pos rfl, rformed_eq, Option.bind_some]
  by_cases h : StF g m t
  · rw [decide_eq_true h]
    simp only [cubiclelaw07_StateBack.j0]
    have s1 : state_State_Word.f g m t = some (Giv.stw g m t) := rfl
    have e1 : Giv.stw g m t = g + m * 1073741824 + t * 4294967296 := if_pos h
    have h' := h
    unfold StF at h'
    have o1 : state_Of.f (Giv.stw g m t) = some (g, m, t, true) := by
      have e2 : state_Of.f (Giv.stw g m t) = some (Giv2.sto (Giv.stw g m t)) := if_pos (by rw [e1]; omega)
      have e3 : Giv2.sto (Giv.stw g m t) = (Giv.stw g m t % 1073741824, Giv.stw g m t / 1073741824 % 4, Giv.stw g m t / 4294967296 % 4, true) := if_pos (by rw [e1]; omega)
      rw [e2, e3, e1]
      congr 1
      simp only [Prod.mk.injEq, and_true]
      omega
    rw [if_neg (by simp), s1, Option.bind_some, o1, Option.bind_some, if_pos rfl]
    simp only [cubiclelaw07_StateBack.j1]
    rw [if_neg (by simp)]
    exact hl
  · rw [decide_eq_false h]
    simp only [cubiclelaw07_StateBack.j0]
    rw [if_pos (by simp), awake_eq, Option.bind_some]
end Go.Proofs.Ytdmiingneodcbaa.Pure
