/- A slice that came in, as the evaluator reads it: whatever its elements are. -/
import Derived.Test.YtehihnapbpcfbaaGreatFunOps
import Derived.Deep.Slices
import Derived.ChangeSame
import Derived.ProofKit
namespace Go.Proofs.YtehihnapbpcfbaaGreat.LawRowsFun
open Go Go.RowKit Go.ChangeShapes Go.WideShapes Go.Deep Go.Proofs.YtehihnapbpcfbaaGreat.Fun
theorem open_rows {α : Type} {sz : Nat} (hsz : 0 < sz) (K : α → List DV) {Q : α → Prop} {H : Type} {enc : TypeId × Value → H} {P : Program} {w : World} {base b0 : Nat} {spare : Nat → Bool} {held : Bool} {r : Reach} {t e : TypeId} {v : Value} {dd : DataW H} {p : List MemPlace}
    (ht : P.underlying t = some (.slice e)) (hC : P.cellsOf e = sz) (hv : Value.okWide P w r b0 t v) (h : DataW.Trod enc P w base spare held t v dd p)
    (hel : ∀ n cs x, cs.length = sz → DataW.trod enc P w base spare held n e cs = some x → ∃ a, AbsL (fun _ => none) (fun b => b < w.heap.size) w (K a) cs ∧ Q a) :
    ∃ (A : Option Addr) (xs : List α) (cap : Nat), v = .slice A xs.length cap ∧ xs.length ≤ maxLen ∧ Abs (fun _ => none) (fun b => b < w.heap.size) w (.slice (xs.flatMap K) xs.length) v ∧ ∀ a ∈ xs, Q a := by
  obtain ⟨a0, len0, cap0, rfl⟩ := okWide_slice ht hv
  obtain ⟨fuel, hf⟩ := h
  rcases open_slice ht hf with ⟨hcs, _⟩ | ⟨a, len, cap, m, n, D, Pl, hcs, hb, hl, hm, hmm, hx, hi⟩
  · simp [Value.cells] at hcs
    obtain ⟨rfl, rfl, rfl⟩ := hcs
    refine ⟨none, [], 0, rfl, by simp, ?_, by simp⟩
    simp only [Abs]
    exact ⟨none, 0, [], rfl, Nat.le_refl _, .nil, .inl rfl⟩
  · simp [Value.cells] at hcs
    obtain ⟨rfl, rfl, rfl⟩ := hcs
    have hmle : len0 ≤ m := by rw [hmm]; split <;> omega
    have key : ∀ i, i < len0 → ∃ x c, c.length = sz ∧ AbsL (fun _ => none) (fun b => b < w.heap.size) w (K x) c ∧ Q x ∧ ∀ j u, c[j]? = some u → w.cell? (a.add (i * sz + j)) = some u := by
      intro i hlt
      obtain ⟨cs', hc, htr⟩ := hi i (by omega)
      rw [hC] at hc
      obtain ⟨_, hcl, hat⟩ := World.cells?_some hc
      obtain ⟨x, hK, hQ⟩ := hel n cs' _ hcl htr
      refine ⟨x, cs', hcl, hK, hQ, fun j u hu => ?_⟩
      have hj : j < sz := by rw [← hcl]; exact (List.getElem?_eq_some_iff.1 hu).1
      rw [← Go.Deep.add_add, hat j hj, hu]
    have build : ∀ k, k ≤ len0 → ∃ (xs : List α) (vs : List Value), xs.length = k ∧ vs.length = k * sz ∧ AbsL (fun _ => none) (fun b => b < w.heap.size) w (xs.flatMap K) vs ∧ (∀ j u, vs[j]? = some u → w.cell? (a.add j) = some u) ∧ ∀ x ∈ xs, Q x := by
      intro k
      induction k with
      | zero => intro _; exact ⟨[], [], rfl, by simp, .nil, fun i x h => by simp at h, by simp⟩
      | succ k ih =>
        intro hk
        obtain ⟨xs, vs, h1, h2, h3, h4, h5⟩ := ih (by omega)
        obtain ⟨x, c, q1, q2, q3, q4⟩ := key k (by omega)
        refine ⟨xs ++ [x], vs ++ c, by simp [h1], by simp [h2, q1, Nat.add_mul], ?_, fun j u hj => ?_, fun y hy => ?_⟩
        · rw [List.flatMap_append, List.flatMap_cons, List.flatMap_nil, List.append_nil]
          exact AbsL.append h3 q2
        · by_cases hlt : j < k * sz
          · rw [List.getElem?_append_left (by omega)] at hj
            exact h4 j u hj
          · rw [List.getElem?_append_right (by omega), h2] at hj
            have := q4 (j - k * sz) u hj
            rwa [show k * sz + (j - k * sz) = j by omega] at this
        · rcases List.mem_append.1 hy with hy | hy
          · exact h5 y hy
          · simp at hy; subst hy; exact q3
    obtain ⟨xs, vs, h1, h2, h3, h4, h5⟩ := build len0 (Nat.le_refl _)
    subst h1
    refine ⟨some a, xs, cap0, rfl, Nat.le_trans hl hm, ?_, h5⟩
    simp only [Abs]
    refine ⟨some a, cap0, vs, rfl, hl, h3, ?_⟩
    by_cases hz : xs.length = 0
    · exact .inl hz
    · right
      have hlen : 0 < vs.length := by rw [h2]; exact Nat.mul_pos (by omega) hsz
      have hc0 := h4 0 vs[0] (List.getElem?_eq_getElem hlen)
      have ea : a.add 0 = a := by simp [Addr.add]
      rw [ea] at hc0
      have hspot : a.spot = none := by
        unfold World.cell? at hc0
        split at hc0
        · split at hc0
          · cases hc0
          · rename_i hs; simpa using hs
        · cases hc0
      obtain ⟨b, off, sp⟩ := a
      simp only at hspot
      subst hspot
      exact ⟨b, off, rfl, lt_of_cell hc0, fun j u hj => by rw [← addr_add]; exact h4 j u hj⟩
end Go.Proofs.YtehihnapbpcfbaaGreat.LawRowsFun
