/- TenantSeats: of all tenants and threads the seat is told, or that there is none. -/
import Derived.Test.YtkhjkfbgcpjphaaRD34
import Derived.Test.YtkhjkfbgcpjphaaTE2
import Derived.Test.YtkhjkfbgcpjphaaFunLaw
namespace Go.Proofs.YtkhjkfbgcpjphaaW.PrintWords
end Go.Proofs.YtkhjkfbgcpjphaaW.PrintWords
namespace Go.Proofs.Ytkhjkfbgcpjphaa.Pure
open Go Go.RowKit Go.Proofs.Ytkhjkfbgcpjphaa.Fun Go.Proofs.Ytkhjkfbgcpjphaa.Fun.C
set_option linter.unusedVariables false
/-- No tenant: no seat. -/
theorem noSeat {m : Mu} {hb : Nat} {t s : Int} (h : CallOk Try.prog 62 [.adr hb 0, .int .i64 t] m .nilp m false []) : CallOk Try.prog 12 [.adr hb 0, .int .i64 t, .int .i64 s] m (.tup [.agg [.int .i64 0, .int .i64 0, .int .i64 0, .int .i64 0, .int .i64 0, .int .i64 0, .int .i64 0, .int .i64 0], .int .i64 1]) m false [] := by
  have h37 := formed37d (0, 0, 0, 0, 0, 0) m
  rw [decide_eq_false (show ¬ P6.fm (0, 0, 0, 0, 0, 0) by unfold P6.fm; simp)] at h37
  exact f12_2 (f35_2 h) (f42_1 h37 rfl) rfl
theorem seat12 {m : Mu} {hb mb lrow : Nat} {ps : List P6} {lv : Nat → Bool} (hh : HouseF m hb mb lrow ps lv) (hok : ∀ p ∈ ps, p.ok) (h6 : ps.length ≤ 6) (t s : Int) :
    (∃ p : P6, 0 ≤ t ∧ ps[t.toNat]? = some p ∧ 0 ≤ s ∧ s < p.2.1 ∧ CallOk Try.prog 12 [.adr hb 0, .int .i64 t, .int .i64 s] m (.tup [.agg [.int .i64 p.1, .int .i64 p.2.1, .int .i64 p.2.2.1, .int .i64 p.2.2.2.1, .int .i64 p.2.2.2.2.1, .int .i64 p.2.2.2.2.2, .int .i64 t, .int .i64 s], .int .i64 0]) m false []) ∨
    ((t < 0 ∨ ps.length ≤ t ∨ s < 0 ∨ ∃ p : P6, 0 ≤ t ∧ ps[t.toNat]? = some p ∧ p.2.1 ≤ s) ∧ CallOk Try.prog 12 [.adr hb 0, .int .i64 t, .int .i64 s] m (.tup [.agg [.int .i64 0, .int .i64 0, .int .i64 0, .int .i64 0, .int .i64 0, .int .i64 0, .int .i64 0, .int .i64 0], .int .i64 1]) m false []) := by
  by_cases h0 : t < 0
  · exact .inr ⟨.inl h0, noSeat (f62_5 (decide_eq_true h0))⟩
  by_cases h1 : t < ps.length
  case neg => exact .inr ⟨.inr (.inl (by omega)), noSeat (f62_2 (decide_eq_false h0) hh.l (decide_eq_true (by omega)))⟩
  obtain ⟨p, hp⟩ : ∃ p, ps[t.toNat]? = some p := ⟨ps[t.toNat]'(by omega), List.getElem?_eq_getElem (by omega)⟩
  have h := hok p (List.mem_of_getElem? hp)
  have c62 : CallOk Try.prog 62 [.adr hb 0, .int .i64 t] m (.adr lrow (0 + t.toNat * 7)) m false [] := f62_1 (decide_eq_false h0) hh.l (decide_eq_false (by omega)) hh.l (decide_eq_true (by omega))
  rw [Nat.zero_add] at c62
  have cell : ∀ (j : Nat) (c : DV), (p.dv ++ [.bool (lv t.toNat)])[j]? = some c → m lrow (t.toNat * 7 + j) = some c := fun j c hc => hh.tens t.toNat p j c hp hc
  have c35 : CallOk Try.prog 35 [.adr hb 0, .int .i64 t] m p.pl m false [] := f35_1 c62 (cell 0 _ rfl) (cell 1 _ rfl) (cell 2 _ rfl) (cell 3 _ rfl) (cell 4 _ rfl) (cell 5 _ rfl)
  have h37 := formed37d p m
  rw [decide_eq_true h.fm] at h37
  by_cases h2 : 0 ≤ s
  case neg => exact .inr ⟨.inr (.inr (.inl (by omega))), f12_2 c35 (f42_4 h37 rfl (decide_eq_true (by omega)) (decide_eq_true (by omega)) (decide_eq_false h2)) rfl⟩
  by_cases h3 : s < p.2.1
  · have c42 := f42_5 (a0_6 := t) (a0_7 := s) h37 rfl (decide_eq_true (by omega)) (decide_eq_true (by omega)) (decide_eq_true h2)
    rw [decide_eq_true h3] at c42
    exact .inl ⟨p, by omega, hp, h2, h3, f12_1 c35 c42 rfl⟩
  · have c42 := f42_5 (a0_6 := t) (a0_7 := s) h37 rfl (decide_eq_true (by omega)) (decide_eq_true (by omega)) (decide_eq_true h2)
    rw [decide_eq_false h3] at c42
    exact .inr ⟨.inr (.inr (.inr ⟨p, by omega, hp, by omega⟩)), f12_2 c35 c42 rfl⟩
theorem threads : ∀ (l : List P6) (k : Nat) (p : P6), l[k]? = some p → (((l.flatMap P6.dv).drop (k * 6)).drop 1)[0]? = some (.int .i64 p.2.1)
  | [], k, p, h => by simp at h
  | q :: l, 0, p, h => by simp at h; subst h; simp [P6.dv]
  | q :: l, k + 1, p, h => by
    have := threads l k p (by simpa using h)
    rw [List.flatMap_cons, show (k + 1) * 6 = 6 + k * 6 by omega, ← List.drop_drop]
    exact this
theorem ok (ps : List P6) (t s : Int) : ∃ m F, CallOk Try.prog 3 [.slice (ps.flatMap P6.dv) ps.length, .int .i64 t, .int .i64 s] noMu (.bool true) m false F := by
  have aw := Fun.Auto.k9 noMu
  obtain ⟨v, hv, hvp⟩ := few10 ps noMu
  cases v with
  | false => exact ⟨_, [], f3_14 aw rfl hv rfl aw⟩
  | true =>
    obtain ⟨h6, hfew⟩ := hvp rfl
    by_cases h1 : 1 ≤ ps.length
    case neg =>
      obtain rfl : ps = [] := by
        cases ps with
        | nil => rfl
        | cons p l => simp at h1
      obtain ⟨m1, c11, hn⟩ := new11n noMu 0
      refine ⟨m1, nms 0 (1 + (1 + 0)), ?_⟩
      by_cases h0 : t < 0
      · have := f3_10 aw rfl hv rfl c11 (all_self _) rfl (noSeat (s := s) (f62_5 (decide_eq_true h0))) (decide_eq_true h0) rfl
        exact this
      · have := f3_8 aw rfl hv rfl c11 (all_self _) rfl (noSeat (s := s) (f62_4 (decide_eq_false h0) hn (decide_eq_true (by omega)))) (decide_eq_false h0) (decide_eq_true (by simp; omega)) rfl
        exact this
    rcases new11 ps hfew h1 h6 noMu 0 with ⟨m1, c11, hh, _, hok⟩ | ⟨m1, c11, _⟩
    case inr => exact ⟨m1, nms 0 (1 + (2 * ps.length + (1 + 3 * ps.length + 0))), f3_13 aw rfl hv rfl c11 (all_self _) rfl⟩
    refine ⟨m1, nms 0 (1 + (2 * ps.length + (1 + 3 * ps.length + 0))), ?_⟩
    rcases seat12 hh hok h6 t s with ⟨p, h0, hp, h2, h3, c12⟩ | ⟨hno, c12⟩
    · have hlt : t < ps.length := by have := (List.getElem?_eq_some_iff.1 hp).1; omega
      have := f3_2 aw rfl hv rfl c11 (all_self _) rfl c12 (decide_eq_false (by omega)) (decide_eq_false (by omega)) (decide_eq_false (by omega)) (decide_eq_true (by omega)) (threads ps _ p hp) (decide_eq_false (by omega)) rfl (flat6 ps _ p hp)
      simpa using this
    · by_cases h0 : t < 0
      · exact f3_10 aw rfl hv rfl c11 (all_self _) rfl c12 (decide_eq_true h0) rfl
      by_cases hlt : t < ps.length
      case neg => exact f3_8 aw rfl hv rfl c11 (all_self _) rfl c12 (decide_eq_false h0) (decide_eq_true (by omega)) rfl
      by_cases h2 : s < 0
      · exact f3_6 aw rfl hv rfl c11 (all_self _) rfl c12 (decide_eq_false h0) (decide_eq_false (by omega)) (decide_eq_true h2) rfl
      rcases hno with h | h | h | ⟨p, _, hp, h⟩
      · omega
      · omega
      · omega
      exact f3_4 aw rfl hv rfl c11 (all_self _) rfl c12 (decide_eq_false h0) (decide_eq_false (by omega)) (decide_eq_false h2) (decide_eq_true (by omega)) (threads ps _ p hp) (decide_eq_true (by omega)) rfl
theorem TenantSeats (w : World) (A : Option Addr) (cap : Nat) (l : List P6) (t s : Int) (hA : Abs (fun _ => none) (fun b => b < w.heap.size) w (.slice (l.flatMap P6.dv) l.length) (.slice A l.length cap)) (hm : l.length ≤ maxLen)
    (hQ : ∀ a ∈ l, (Lit.int .i64 a.1).wf = true ∧ (Lit.int .i64 a.2.1).wf = true ∧ (Lit.int .i64 a.2.2.1).wf = true ∧ (Lit.int .i64 a.2.2.2.1).wf = true ∧ (Lit.int .i64 a.2.2.2.2.1).wf = true ∧ (Lit.int .i64 a.2.2.2.2.2).wf = true) (ht : (Lit.int .i64 t).wf = true) (hs : (Lit.int .i64 s).wf = true) :
    Calls Try.prog 3 #[.slice A l.length cap, .int .i64 t, .int .i64 s] w fun e w' => e = .returned (.bool true) ∧ Below w.heap.size w w' := by
  obtain ⟨m, F, hm⟩ := ok l t s
  exact calls_of_ok hm (vs := [.slice A l.length cap, .int .i64 t, .int .i64 s]) (.cons hA (.cons (by simp only [Abs]) (.cons (by simp only [Abs]) .nil)))
end Go.Proofs.Ytkhjkfbgcpjphaa.Pure
