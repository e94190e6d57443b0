/- revoke.Drain, whole. -/
import Derived.Test.YtkhjkfbgcpjphaaGreatRD11
namespace Go.Proofs.YtkhjkfbgcpjphaaGreat.Fun
open Go
set_option linter.unusedVariables false
theorem plcs_len (t r d b : Int) : (plcs t r d b).length = nPl t d b := by
  unfold plcs nPl
  simp only [List.length_append, domPl_len, hazPl_len, cntPl, List.length_map, List.length_range', List.length_singleton]
theorem foldl_upd_other {o : Nat} : ∀ (l : List Nat) (w : Nat → Int), o ∉ l → l.foldl (fun w p => upd w p 0) w o = w o
  | [], w, _ => rfl
  | p :: l, w, ho => by
    simp only [List.mem_cons, not_or] at ho
    rw [List.foldl_cons, foldl_upd_other l _ ho.2]
    simp only [upd, if_neg ho.1]
section
variable {n t r d b g : Int} (h : PF n t r d b g)
include h
theorem plcs_lt {p : Nat} (hp : p ∈ plcs t r d b) : (p : Int) < ndP t r d b := by
  have hd := h.hd; have ht := h.ht; have hr := h.hr; have hc := h.cl; have hz := h.hz; have hct := h.ct; have hnd := h.nd
  unfold plcs at hp
  simp only [List.mem_append, List.mem_singleton] at hp
  rcases hp with ((rfl | hp) | hp) | hp
  · omega
  · simp only [domPl, List.mem_flatMap, List.mem_range'_1, List.mem_cons, List.mem_map] at hp
    obtain ⟨k, hk, hp⟩ := hp
    have m1 := h.mul1 (k := (k : Int)) (by omega) (by omega)
    have m2 : ((k : Int) + 1) * (1 + cl b) ≤ d * (1 + cl b) := Int.mul_le_mul_of_nonneg_right (by omega) (by omega)
    rw [Int.add_mul, Int.one_mul] at m2
    unfold hzP at hz hct
    rcases hp with rfl | ⟨i, hi, rfl⟩
    · unfold ctP hzP at *; omega
    · unfold ctP hzP at *; omega
  · simp only [hazPl, List.mem_flatMap, List.mem_range'_1, List.mem_map] at hp
    obtain ⟨k, hk, i, hi, rfl⟩ := hp
    unfold ctP at hct hnd; omega
  · simp only [cntPl, List.mem_map, List.mem_range'_1] at hp
    obtain ⟨k, hk, rfl⟩ := hp
    have m1 := h.mul2 (k := (k : Int)) (by omega) (by omega)
    have m2 : ((k : Int) + 1) * (1 + r) ≤ t * (1 + r) := Int.mul_le_mul_of_nonneg_right (by omega) (by omega)
    rw [Int.add_mul, Int.one_mul] at m2
    unfold ndP at hnd ⊢; omega
end
end Go.Proofs.YtkhjkfbgcpjphaaGreat.Fun
