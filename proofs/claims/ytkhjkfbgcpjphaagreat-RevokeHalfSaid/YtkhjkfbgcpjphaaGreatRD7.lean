/- revoke.nodes: the nodes from one on, then the chain. -/
import Derived.Test.YtkhjkfbgcpjphaaGreatRD6
namespace Go.Proofs.YtkhjkfbgcpjphaaGreat.Fun
open Go
set_option linter.unusedVariables false
/-- Which nodes are gone, as a row; nil, where none was looked at. -/
def GoneRow (m : Mu) (a mb wb : Nat) (gone : Nat → Bool) (k : Nat) (dv : DV) : Prop :=
  (k = 0 ∧ dv = .nils) ∨ (0 < k ∧ ∃ row, dv = .vec row 0 k 1 ∧ row < a ∧ row ≠ wb ∧ row ≠ mb ∧ ∀ j : Nat, j < k → m row j = some (.bool (gone j)))
def pls (n t r d b g : Int) : List DV := [.int .i64 n, .int .i64 t, .int .i64 r, .int .i64 d, .int .i64 b, .int .i64 g]
/-- What nodes makes of a state's word w: the word x, a state of the mode s1. -/
def StOk (g w x s0 s1 s2 : Int) : Prop := ∀ {n t r d b : Int}, PF n t r d b g → ∀ (k : Int), 0 ≤ k → k < n → ∀ (dv : DV), (dv = .nils ∨ ∃ row len, dv = .vec row 0 len 1) → ∀ m : Mu,
  CallOk Tryz.prog 69 [.int .u64 w, .ptr (pls n t r d b g), .ptr [.int .i64 k], .ptr [dv]] m (Pg.step 1 (ndP t r d b + k * 5) x 0 103 [.ptr [.func 73 [.ptr (pls n t r d b g), .ptr [.int .i64 k], .ptr [dv], .ptr [.int .i64 s0, .int .i64 s1, .int .i64 s2]]]]).dv m false []
theorem HasReg.low {m m' : Mu} {mb lb len i : Nat} {R : Reg} (h : HasReg m mb lb len i R) {a : Nat} (hl : Low a m m') (h1 : mb < a) (h2 : lb < a) (h3 : R.rb < a) (h4 : R.wb < a) : HasReg m' mb lb len i R := by
  obtain ⟨c, hc⟩ := h.c
  exact ⟨by rw [hl _ h1]; exact h.l, ⟨c, by rw [hl _ h1]; exact hc⟩, h.lt, by rw [hl _ h2]; exact h.at_, by rw [hl _ h3]; exact h.ws, by rw [hl _ h3]; exact h.ep, fun o ho => by rw [hl _ h4]; exact h.w o ho, h.d1, h.d2, h.d3, h.d4, h.d5⟩
section
variable {n t r d b g : Int}
theorem pass49 {k : Int} {m m1 m2 : Mu} {a l row : Nat} (hk : k ≠ n) (dv : DV) (hdv : dv = .nils ∨ ∃ row len, dv = .vec row 0 len 1) (p : Pg) (h1 : CallOk Tryz.prog 65 [pl n t r d b g, .int .i64 k] m (.vec row 0 3 1) m1 false (nms a 3))
    (h2 : CallOk Tryz.prog 31 [.vec row 0 3 1, .func 66 [.ptr (pls n t r d b g), .ptr [.int .i64 k], .ptr [dv]]] m1 p.dv m2 false (nms (a + 3) l)) :
    CallOk Tryz.prog 34 [pl n t r d b g, .int .i64 k, dv] m p.dv m2 false (nms a (3 + l)) := by
  have hz : ((k : Int) == n) = false := by rw [beq_eq_false_iff_ne]; exact hk
  have a1 := all_nms (a := a) (k := 3) (b := a) (l := 3 + l) (Nat.le_refl _) (by omega)
  have a2 : ((nms (a + 3) l).all fun x => (offUse (nms a 3) (nms a (3 + l))).contains x) = true := by rw [off_nms]; exact all_self _
  rcases hdv with rfl | ⟨row', len, rfl⟩ <;> cases p
  · exact f34_3_o hz h1 a1 h2 a2
  · exact f34_3_s hz h1 a1 h2 a2
  · exact f34_1_o hz h1 a1 h2 a2
  · exact f34_1_s hz h1 a1 h2 a2
theorem load77 (h : PF n t r d b g) {k : Int} (h0 : 0 ≤ k) (h1 : k < n) (dv : DV) (hdv : dv = .nils ∨ ∃ row len, dv = .vec row 0 len 1) (m : Mu) :
    CallOk Tryz.prog 66 [.ptr (pls n t r d b g), .ptr [.int .i64 k], .ptr [dv]] m (Pg.step 0 (ndP t r d b + k * 5) 0 0 69 [.ptr (pls n t r d b g), .ptr [.int .i64 k], .ptr [dv]]).dv m false [] := by
  rcases hdv with rfl | ⟨row', len, rfl⟩
  · exact f66_2_s (state79 h h0 h1 m) (f67_1_s f102_1)
  · exact f66_1_s (state79 h h0 h1 m) (f67_1_s f102_1)
/-- A node's state is told in the row, and the nodes behind it are looked at. -/
theorem pass84 {s0 s1 s2 : Int} {m : Mu} {a : Nat} {gone : Nat → Bool} {k mb wb : Nat} (hk40 : k ≤ 40) (hs : gone k = ((s1 : Int) == 3)) (hmb : mb < a) (hwb : wb < a) {dv : DV} (hdv : GoneRow m a mb wb gone k dv) :
    ∃ m1, GoneRow m1 (a + 1) mb wb gone (k + 1) (.vec a 0 (k + 1) 1) ∧ (∀ c, c < a → (∀ len, dv ≠ .vec c 0 len 1) → ∀ o, m1 c o = m c o) ∧
      ∀ (p : Pg) (m2 : Mu) (l : Nat), CallOk Tryz.prog 34 [pl n t r d b g, .int .i64 ((k + 1 : Nat) : Int), .vec a 0 (k + 1) 1] m1 p.dv m2 false (nms (a + 1) l) →
        CallOk Tryz.prog 73 [.ptr (pls n t r d b g), .ptr [.int .i64 (k : Int)], .ptr [dv], .ptr [.int .i64 s0, .int .i64 s1, .int .i64 s2]] m p.dv m2 false (nms a (1 + l)) := by
  have hw : IntKind.i64.wrap ((k : Int) + 1) = ((k + 1 : Nat) : Int) := by rw [wrap64 (by omega) (by omega)]; omega
  have a1 : ∀ l, (([a]).all fun x => (nms a (1 + l)).contains x) = true := fun l => all_nms (a := a) (k := 1) (b := a) (l := 1 + l) (Nat.le_refl _) (by omega)
  have a2 : ∀ l, ((nms (a + 1) l).all fun x => (offUse [a] (nms a (1 + l))).contains x) = true := fun l => by rw [Nat.add_comm 1 l, off_one]; exact all_self _
  rcases hdv with ⟨rfl, rfl⟩ | ⟨hk, row, rfl, hr1, hr2, hr3, hrow⟩
  · refine ⟨appMu m a 0 a [.bool ((s1 : Int) == 3)], .inr ⟨by omega, a, rfl, by omega, by omega, by omega, fun j hj => ?_⟩, fun c hc _ o => appMu_low (by omega) (by omega) o, fun p m2 l h => ?_⟩
    · obtain rfl : j = 0 := by omega
      rw [appMu_at, if_neg (by omega), hs]; rfl
    · rw [← hw] at h
      cases p
      · exact f73_2_o (a1 l) h (a2 l)
      · exact f73_2_s (a1 l) h (a2 l)
  · refine ⟨appMu m row (k * 1) a [.bool ((s1 : Int) == 3)], .inr ⟨by omega, a, rfl, by omega, by omega, by omega, fun j hj => ?_⟩, fun c hc hne o => appMu_low (by omega) (fun e => hne k (by rw [e])) o, fun p m2 l h => ?_⟩
    · rw [appMu_at]
      by_cases hjk : j < k
      · rw [if_pos (by omega)]; exact hrow j hjk
      · obtain rfl : j = k := by omega
        rw [if_neg (by omega), hs]; simp
    · rw [← hw] at h
      have hd : (decide (0 < k ∧ k + 1 ≤ 1000000000 ∧ ([.bool ((s1 : Int) == 3)] : List DV).length = 1 * 1)) = true := decide_eq_true ⟨hk, by omega, rfl⟩
      have hkn : ((List.range (k * 1)).all fun o => (m row o).isSome) = true := List.all_eq_true.2 fun o ho => by
        rw [hrow o (by simpa using ho)]; rfl
      cases p
      · exact f73_1_o hd hkn (a1 l) h (a2 l)
      · exact f73_1_s hd hkn (a1 l) h (a2 l)
end
end Go.Proofs.YtkhjkfbgcpjphaaGreat.Fun
