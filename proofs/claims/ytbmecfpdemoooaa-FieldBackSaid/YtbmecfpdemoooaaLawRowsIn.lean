/- A slice that came in, as a row of the printed texts' kinds: whatever its elements are. -/
import Derived.Test.YtbmecfpdemoooaaWWords
import Derived.Deep.Slices
import Derived.ProofKit
namespace Go.Proofs.Ytbmecfpdemoooaa.LawRowsIn
open Go Go.RowKit Go.ChangeShapes Go.WideShapes Go.Deep Go.Proofs.YtbmecfpdemoooaaW.PrintWords
theorem open_rows {α : Type} (d : Kd α) {Q : α → Prop} {H : Type} {enc : TypeId × Value → H} {P : Program} {w : World} {base b0 : Nat} {spare : Nat → Bool} {held : Bool} {r : Reach} {t e : TypeId} {v : Value} {dd : DataW H} {p : List MemPlace}
    (ht : P.underlying t = some (.slice e)) (hC : P.cellsOf e = d.sz) (hv : Value.okWide P w r b0 t v) (h : DataW.Trod enc P w base spare held t v dd p)
    (hel : ∀ n cs x, cs.length = d.sz → DataW.trod enc P w base spare held n e cs = some x → ∃ a, d.K w a cs ∧ Q a) :
    ∃ (A : Option Addr) (xs : List α) (cap : Nat), v = .slice A xs.length cap ∧ xs.length ≤ cap ∧ xs.length ≤ maxLen ∧ d.C w A xs.length xs ∧ ∀ a ∈ xs, Q a := by
  obtain ⟨a0, len0, cap0, rfl⟩ := okWide_slice ht hv
  obtain ⟨fuel, hf⟩ := h
  rcases open_slice ht hf with ⟨hcs, _⟩ | ⟨a, len, cap, m, n, D, Pl, hcs, hb, hl, hm, hmm, hx, hi⟩
  · simp [Value.cells] at hcs
    obtain ⟨rfl, rfl, rfl⟩ := hcs
    exact ⟨none, [], 0, rfl, Nat.le_refl _, by simp, ⟨rfl, by simp, fun h => absurd h (by simp)⟩, by simp⟩
  · simp [Value.cells] at hcs
    obtain ⟨rfl, rfl, rfl⟩ := hcs
    have hmle : len0 ≤ m := by rw [hmm]; split <;> omega
    have key : ∀ i, i < len0 → ∃ x c, c.length = d.sz ∧ d.K w x c ∧ Q x ∧ ∀ j u, c[j]? = some u → w.cell? (a.add (i * d.sz + j)) = some u := by
      intro i hlt
      obtain ⟨cs', hc, htr⟩ := hi i (by omega)
      rw [hC] at hc
      obtain ⟨_, hcl, hat⟩ := World.cells?_some hc
      obtain ⟨x, hK, hQ⟩ := hel n cs' _ hcl htr
      refine ⟨x, cs', hcl, hK, hQ, fun j u hu => ?_⟩
      have hj : j < d.sz := by rw [← hcl]; exact (List.getElem?_eq_some_iff.1 hu).1
      rw [← Go.Deep.add_add, hat j hj, hu]
    have build : ∀ k, k ≤ len0 → ∃ xs : List α, xs.length = k ∧ ∀ i x, xs[i]? = some x → Q x ∧ ∃ c, c.length = d.sz ∧ d.K w x c ∧ ∀ j u, c[j]? = some u → w.cell? (a.add (i * d.sz + j)) = some u := by
      intro k
      induction k with
      | zero => intro _; exact ⟨[], rfl, fun i x h => by simp at h⟩
      | succ k ih =>
        intro hk
        obtain ⟨xs, hlen, hxs⟩ := ih (by omega)
        obtain ⟨x, c, h1, h2, h3, h4⟩ := key k (by omega)
        refine ⟨xs ++ [x], by simp [hlen], fun i y hy => ?_⟩
        by_cases hik : i < k
        · rw [List.getElem?_append_left (by omega)] at hy
          exact hxs i y hy
        · have : i = k := by
            have := (List.getElem?_eq_some_iff.1 hy).1
            simp [hlen] at this
            omega
          subst this
          rw [List.getElem?_append_right (by omega), hlen] at hy
          simp at hy
          subst hy
          exact ⟨h3, c, h1, h2, h4⟩
    obtain ⟨xs, hlen, hxs⟩ := build len0 (Nat.le_refl _)
    subst hlen
    refine ⟨some a, xs, cap0, rfl, hl, Nat.le_trans hl hm, ⟨rfl, ?_, fun _ => ⟨a, rfl, fun j p hj => (hxs j p hj).2⟩⟩, fun y hy => ?_⟩
    · have := Nat.le_trans hl hm
      unfold maxLen at this
      omega
    · obtain ⟨i, hi', rfl⟩ := List.getElem_of_mem hy
      exact (hxs i _ (List.getElem?_eq_getElem hi')).1
end Go.Proofs.Ytbmecfpdemoooaa.LawRowsIn
