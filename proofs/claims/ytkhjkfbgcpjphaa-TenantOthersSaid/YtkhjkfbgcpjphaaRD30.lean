/- Plans, whatever they are; rows of plans; a memory of several regions. -/
import Derived.Test.YtkhjkfbgcpjphaaRD22
import Derived.Test.YtkhjkfbgcpjphaaFunWaysC
namespace Go.Proofs.Ytkhjkfbgcpjphaa.Fun
open Go Go.Proofs.Ytkhjkfbgcpjphaa.Fun.C
set_option linter.unusedVariables false
/-- A plan's numbers. -/
abbrev P6 := Int × Int × Int × Int × Int × Int
def P6.dv (p : P6) : List DV := [.int .i64 p.1, .int .i64 p.2.1, .int .i64 p.2.2.1, .int .i64 p.2.2.2.1, .int .i64 p.2.2.2.2.1, .int .i64 p.2.2.2.2.2]
def P6.pl (p : P6) : DV := Fun.pl p.1 p.2.1 p.2.2.1 p.2.2.2.1 p.2.2.2.2.1 p.2.2.2.2.2
abbrev P6.ok (p : P6) : Prop := PF p.1 p.2.1 p.2.2.1 p.2.2.2.1 p.2.2.2.2.1 p.2.2.2.2.2
abbrev P6.sz (p : P6) : Int := szP p.1 p.2.1 p.2.2.1 p.2.2.2.1 p.2.2.2.2.1
/-- Is a plan formed? -/
def P6.fm (p : P6) : Prop := 1 ≤ p.1 ∧ p.1 ≤ 1048576 ∧ 1 ≤ p.2.1 ∧ p.2.1 ≤ 16 ∧ 0 ≤ p.2.2.2.1 ∧ p.2.2.2.1 ≤ 64 ∧ 1 ≤ p.2.2.2.2.1 ∧ p.2.2.2.2.1 ≤ 256 ∧ 1 ≤ p.2.2.2.2.2 ∧ p.2.2.2.2.2 ≤ 1073741823 ∧ 3 * p.2.1 < p.2.2.1 ∧ p.2.2.1 ≤ 1024
instance (p : P6) : Decidable p.fm := by unfold P6.fm; infer_instance
theorem P6.ok.fm {p : P6} (h : p.ok) : p.fm := by
  have := h.hn; have := h.ht; have := h.hr; have := h.hd; have := h.hb; have := h.hg
  unfold P6.fm; omega
/-- (plan.Plan).Formed. -/
theorem formed37d (p : P6) (m : Mu) : CallOk Try.prog 37 [p.pl] m (.bool (decide p.fm)) m false [] := by
  obtain ⟨n, t, r, d, b, g⟩ := p
  have no : ∀ {P : P6}, ¬ P.fm → (decide P.fm) = false := fun h => decide_eq_false h
  have yes : ∀ {P : P6}, P.fm → (decide P.fm) = true := fun h => decide_eq_true h
  by_cases c0 : n < 1
  · rw [no (by unfold P6.fm; simp only; omega)]; exact d37_13 (decide_eq_true c0) m
  by_cases c1 : n > 1048576
  · rw [no (by unfold P6.fm; simp only; omega)]; exact d37_12 (decide_eq_false c0) (decide_eq_true c1) m
  by_cases c2 : t < 1
  · rw [no (by unfold P6.fm; simp only; omega)]; exact d37_11 (decide_eq_false c0) (decide_eq_false c1) (decide_eq_true c2) m
  by_cases c3 : t > 16
  · rw [no (by unfold P6.fm; simp only; omega)]; exact d37_10 (decide_eq_false c0) (decide_eq_false c1) (decide_eq_false c2) (decide_eq_true c3) m
  by_cases c4 : d < 0
  · rw [no (by unfold P6.fm; simp only; omega)]; exact d37_9 (decide_eq_false c0) (decide_eq_false c1) (decide_eq_false c2) (decide_eq_false c3) (decide_eq_true c4) m
  by_cases c5 : d > 64
  · rw [no (by unfold P6.fm; simp only; omega)]; exact d37_8 (decide_eq_false c0) (decide_eq_false c1) (decide_eq_false c2) (decide_eq_false c3) (decide_eq_false c4) (decide_eq_true c5) m
  by_cases c6 : b < 1
  · rw [no (by unfold P6.fm; simp only; omega)]; exact d37_7 (decide_eq_false c0) (decide_eq_false c1) (decide_eq_false c2) (decide_eq_false c3) (decide_eq_false c4) (decide_eq_false c5) (decide_eq_true c6) m
  by_cases c7 : b > 256
  · rw [no (by unfold P6.fm; simp only; omega)]; exact d37_6 (decide_eq_false c0) (decide_eq_false c1) (decide_eq_false c2) (decide_eq_false c3) (decide_eq_false c4) (decide_eq_false c5) (decide_eq_false c6) (decide_eq_true c7) m
  by_cases c8 : g < 1
  · rw [no (by unfold P6.fm; simp only; omega)]; exact d37_5 (decide_eq_false c0) (decide_eq_false c1) (decide_eq_false c2) (decide_eq_false c3) (decide_eq_false c4) (decide_eq_false c5) (decide_eq_false c6) (decide_eq_false c7) (decide_eq_true c8) m
  by_cases c9 : g > 1073741823
  · rw [no (by unfold P6.fm; simp only; omega)]; exact d37_4 (decide_eq_false c0) (decide_eq_false c1) (decide_eq_false c2) (decide_eq_false c3) (decide_eq_false c4) (decide_eq_false c5) (decide_eq_false c6) (decide_eq_false c7) (decide_eq_false c8) (decide_eq_true c9) m
  have hw : IntKind.i64.wrap (IntKind.i64.wrap (3 * t) + 1) = 3 * t + 1 := by rw [wrap64 (x := 3 * t) (by omega) (by omega), wrap64 (by omega) (by omega)]
  by_cases c10 : r < 3 * t + 1
  · rw [no (by unfold P6.fm; simp only; omega)]; exact d37_3 (decide_eq_false c0) (decide_eq_false c1) (decide_eq_false c2) (decide_eq_false c3) (decide_eq_false c4) (decide_eq_false c5) (decide_eq_false c6) (decide_eq_false c7) (decide_eq_false c8) (decide_eq_false c9) (by rw [hw]; exact decide_eq_true c10) m
  by_cases c11 : r > 1024
  · rw [no (by unfold P6.fm; simp only; omega)]; exact d37_2 (decide_eq_false c0) (decide_eq_false c1) (decide_eq_false c2) (decide_eq_false c3) (decide_eq_false c4) (decide_eq_false c5) (decide_eq_false c6) (decide_eq_false c7) (decide_eq_false c8) (decide_eq_false c9) (by rw [hw]; exact decide_eq_false c10) (decide_eq_true c11) m
  rw [yes (by unfold P6.fm; simp only; omega)]
  exact d37_1 (decide_eq_false c0) (decide_eq_false c1) (decide_eq_false c2) (decide_eq_false c3) (decide_eq_false c4) (decide_eq_false c5) (decide_eq_false c6) (decide_eq_false c7) (decide_eq_false c8) (decide_eq_false c9) (by rw [hw]; exact decide_eq_false c10) (decide_eq_false c11) m
/-- cubicleref06.Formed. -/
theorem formed43d (p : P6) (m : Mu) : CallOk Try.prog 43 [p.pl] m (.bool (decide p.fm)) m false [] := by
  obtain ⟨n, t, r, d, b, g⟩ := p
  have no : ∀ {P : P6}, ¬ P.fm → (decide P.fm) = false := fun h => decide_eq_false h
  by_cases c0 : n < 1
  · rw [no (by unfold P6.fm; simp only; omega)]; exact f43_12 (decide_eq_true c0)
  by_cases c1 : n > 1048576
  · rw [no (by unfold P6.fm; simp only; omega)]; exact f43_11 (decide_eq_false c0) (decide_eq_true c1)
  by_cases c2 : t < 1
  · rw [no (by unfold P6.fm; simp only; omega)]; exact f43_10 (decide_eq_false c0) (decide_eq_false c1) (decide_eq_true c2)
  by_cases c3 : t > 16
  · rw [no (by unfold P6.fm; simp only; omega)]; exact f43_9 (decide_eq_false c0) (decide_eq_false c1) (decide_eq_false c2) (decide_eq_true c3)
  by_cases c4 : d < 0
  · rw [no (by unfold P6.fm; simp only; omega)]; exact f43_8 (decide_eq_false c0) (decide_eq_false c1) (decide_eq_false c2) (decide_eq_false c3) (decide_eq_true c4)
  by_cases c5 : d > 64
  · rw [no (by unfold P6.fm; simp only; omega)]; exact f43_7 (decide_eq_false c0) (decide_eq_false c1) (decide_eq_false c2) (decide_eq_false c3) (decide_eq_false c4) (decide_eq_true c5)
  by_cases c6 : b ≥ 1
  case neg => rw [no (by unfold P6.fm; simp only; omega)]; exact f43_1 (decide_eq_false c0) (decide_eq_false c1) (decide_eq_false c2) (decide_eq_false c3) (decide_eq_false c4) (decide_eq_false c5) (decide_eq_false c6)
  by_cases c7 : b ≤ 256
  case neg => rw [no (by unfold P6.fm; simp only; omega)]; exact f43_2 (decide_eq_false c0) (decide_eq_false c1) (decide_eq_false c2) (decide_eq_false c3) (decide_eq_false c4) (decide_eq_false c5) (decide_eq_true c6) (decide_eq_false c7)
  by_cases c8 : g ≥ 1
  case neg => rw [no (by unfold P6.fm; simp only; omega)]; exact f43_3 (decide_eq_false c0) (decide_eq_false c1) (decide_eq_false c2) (decide_eq_false c3) (decide_eq_false c4) (decide_eq_false c5) (decide_eq_true c6) (decide_eq_true c7) (decide_eq_false c8)
  by_cases c9 : g ≤ 1073741823
  case neg => rw [no (by unfold P6.fm; simp only; omega)]; exact f43_4 (decide_eq_false c0) (decide_eq_false c1) (decide_eq_false c2) (decide_eq_false c3) (decide_eq_false c4) (decide_eq_false c5) (decide_eq_true c6) (decide_eq_true c7) (decide_eq_true c8) (decide_eq_false c9)
  have hw : IntKind.i64.wrap (3 * t) = 3 * t := wrap64 (by omega) (by omega)
  by_cases c10 : r > 3 * t
  case neg => rw [no (by unfold P6.fm; simp only; omega)]; exact f43_5 (decide_eq_false c0) (decide_eq_false c1) (decide_eq_false c2) (decide_eq_false c3) (decide_eq_false c4) (decide_eq_false c5) (decide_eq_true c6) (decide_eq_true c7) (decide_eq_true c8) (decide_eq_true c9) (by rw [hw]; exact decide_eq_false c10)
  have e : (decide (P6.fm (n, t, r, d, b, g))) = decide (r ≤ 1024) := by
    rw [decide_eq_decide]; unfold P6.fm; simp only; omega
  rw [e]
  exact f43_6 (decide_eq_false c0) (decide_eq_false c1) (decide_eq_false c2) (decide_eq_false c3) (decide_eq_false c4) (decide_eq_false c5) (decide_eq_true c6) (decide_eq_true c7) (decide_eq_true c8) (decide_eq_true c9) (by rw [hw]; exact decide_eq_true c10)
/-- cubicleref06.Few. -/
theorem few36d (p : P6) (m : Mu) : ∃ v, CallOk Try.prog 36 [p.pl] m (.bool v) m false [] ∧ (v = true → p.fm → p.ok) := by
  have h43 := formed43d p m
  by_cases hf : p.fm
  case neg => exact ⟨true, f36_5 h43 (by rw [decide_eq_false hf]; rfl), fun _ h => absurd h hf⟩
  obtain ⟨n, t, r, d, b, g⟩ := p
  have hf' := hf
  unfold P6.fm at hf'; simp only at hf'
  rw [decide_eq_true hf] at h43
  by_cases c0 : n ≤ 40
  case neg => exact ⟨false, f36_1 h43 rfl (decide_eq_false c0), by simp⟩
  by_cases c1 : r ≤ 40
  case neg => exact ⟨false, f36_2 h43 rfl (decide_eq_true c0) (decide_eq_false c1), by simp⟩
  by_cases c2 : d ≤ 6
  case neg => exact ⟨false, f36_3 h43 rfl (decide_eq_true c0) (decide_eq_true c1) (decide_eq_false c2), by simp⟩
  refine ⟨_, f36_4 h43 rfl (decide_eq_true c0) (decide_eq_true c1) (decide_eq_true c2), fun hb _ => ?_⟩
  have hb : b ≤ 10 := of_decide_eq_true hb
  constructor <;> simp only <;> omega
/-- A row of plans: the cells of one of them. -/
theorem flat6 : ∀ (l : List P6) (k : Nat) (p : P6), l[k]? = some p → (if 0 + 6 ≤ ((l.flatMap P6.dv).drop (k * 6)).length then some (DV.agg ((((l.flatMap P6.dv).drop (k * 6)).drop 0).take 6)) else none) = some p.pl
  | [], k, p, h => by simp at h
  | q :: l, 0, p, h => by
    simp at h; subst h
    rw [List.flatMap_cons, Nat.zero_mul, List.drop_zero, List.drop_zero, if_pos (by simp [P6.dv])]
    rfl
  | q :: l, k + 1, p, h => by
    have := flat6 l k p (by simpa using h)
    rw [List.flatMap_cons, show (k + 1) * 6 = 6 + k * 6 by omega, ← List.drop_drop]
    exact this
/-- few of layer 21. -/
theorem few10 (l : List P6) (m : Mu) : ∃ v, CallOk Try.prog 10 [.slice (l.flatMap P6.dv) l.length] m (.bool v) m false [] ∧ (v = true → l.length ≤ 6 ∧ ∀ p ∈ l, p.fm → p.ok) := by
  have go : ∀ (j k : Nat), k + j = min l.length 8 → (∀ i p, i < k → l[i]? = some p → p.fm → p.ok) →
      (∃ t, LoopOk Try.prog (codeAt [true, false, true, false, false] (Try.f10.body.getD .skip)) (L10_1 (l.flatMap P6.dv) l.length false (k : Int) m false) (.exit 0) (L10_1 (l.flatMap P6.dv) l.length false t m false) ∧ ∀ i p, i < min l.length 8 → l[i]? = some p → p.fm → p.ok) ∨
      (∃ t, LoopOk Try.prog (codeAt [true, false, true, false, false] (Try.f10.body.getD .skip)) (L10_1 (l.flatMap P6.dv) l.length false (k : Int) m false) .ret (L10_1 (l.flatMap P6.dv) l.length false t m false)) := by
    intro j
    induction j with
    | zero =>
      intro k hk hall
      refine .inl ⟨(k : Int), .last (by simp) ?_, fun i p hi hp => hall i p (by omega) hp⟩
      by_cases hlt : (k : Int) < (l.length : Int)
      · exact L10_1_2 (decide_eq_true hlt) (decide_eq_false (by omega))
      · exact L10_1_1 (decide_eq_false hlt)
    | succ j ih =>
      intro k hk hall
      have hw : IntKind.i64.wrap ((k : Int) + 1) = ((k + 1 : Nat) : Int) := by rw [wrap64 (by omega) (by omega)]; omega
      obtain ⟨p, hp⟩ : ∃ p, l[k]? = some p := ⟨l[k]'(by omega), List.getElem?_eq_getElem (by omega)⟩
      obtain ⟨v, hv, hvp⟩ := few36d p m
      have hfl := flat6 l k p hp
      cases v with
      | false =>
        refine .inr ⟨(k : Int), .last (by simp) ?_⟩
        have this : CodeOk Try.prog (codeAt [true, false, true, false, false] (Try.f10.body.getD .skip)) (L10_1 (l.flatMap P6.dv) l.length false (k : Int) m false) .ret (L10_1 (l.flatMap P6.dv) l.length false (k : Int) m false) :=
          L10_1_4 (decide_eq_true (by omega)) (decide_eq_true (by omega)) (decide_eq_true (by omega)) (by rw [Int.toNat_natCast]; exact hfl) hv rfl
        exact @this
      | true =>
        have this : CodeOk Try.prog (codeAt [true, false, true, false, false] (Try.f10.body.getD .skip)) (L10_1 (l.flatMap P6.dv) l.length false (k : Int) m false) .normal (L10_1 (l.flatMap P6.dv) l.length false (IntKind.i64.wrap ((k : Int) + 1)) m false) :=
          L10_1_3 (decide_eq_true (by omega)) (decide_eq_true (by omega)) (decide_eq_true (by omega)) (by rw [Int.toNat_natCast]; exact hfl) hv rfl
        rw [hw] at this
        rcases ih (k + 1) (by omega) (fun i q hi hq => by
          by_cases hik : i < k
          · exact hall i q hik hq
          · obtain rfl : i = k := by omega
            rw [hp] at hq; cases hq
            exact hvp rfl) with ⟨t, h1, h2⟩ | ⟨t, h1⟩
        · exact .inl ⟨t, .step @this h1, h2⟩
        · exact .inr ⟨t, .step @this h1⟩
  rcases go (min l.length 8) 0 (by omega) (fun i p hi => absurd hi (by omega)) with ⟨t, h1, h2⟩ | ⟨t, h1⟩
  · refine ⟨_, f10_1 (z1_t2 := false) (z1_t3 := t) (z1_m := m) (z1_d := false) (by rw [L10_1_loop]; exact h1.code), fun hv => ?_⟩
    have h6 : l.length ≤ 6 := by have := of_decide_eq_true hv; omega
    refine ⟨h6, fun p hp => ?_⟩
    obtain ⟨i, hi, rfl⟩ := List.getElem_of_mem hp
    exact h2 i _ (by omega) (List.getElem?_eq_getElem hi)
  · exact ⟨false, f10_2 (z1_t2 := false) (z1_t3 := t) (z1_m := m) (z1_d := false) (by rw [L10_1_loop]; exact h1.code), by simp⟩
end Go.Proofs.Ytkhjkfbgcpjphaa.Fun
