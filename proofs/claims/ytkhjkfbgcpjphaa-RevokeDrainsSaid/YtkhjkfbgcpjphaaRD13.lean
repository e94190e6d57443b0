/- revoke.Drain, whole. -/
import Derived.Test.YtkhjkfbgcpjphaaRD12
namespace Go.Proofs.Ytkhjkfbgcpjphaa.Fun
open Go
set_option linter.unusedVariables false
section
variable {n t r d b g : Int}
theorem pass48 {m m1 : Mu} {F : List Nat} (p : Pg) (q : CallOk Try.prog 49 [pl n t r d b g, .int .i64 0, .nils] m p.dv m1 false F) : CallOk Try.prog 48 [.ptr (pls n t r d b g)] m p.dv m1 false F := by
  cases p
  · exact f48_1_o q (all_self F)
  · exact f48_1_s q (all_self F)
theorem pass18 {m m1 m2 : Mu} {a k l row : Nat} (p : Pg) (h0 : CallOk Try.prog 47 [pl n t r d b g] m (.vec row 0 k 1) m1 false (nms a k)) (h2 : CallOk Try.prog 46 [.vec row 0 k 1, .func 48 [.ptr (pls n t r d b g)]] m1 p.dv m2 false (nms (a + k) l)) :
    CallOk Try.prog 18 [pl n t r d b g] m p.dv m2 false (nms a (k + l)) := by
  have a1 := all_nms (a := a) (k := k) (b := a) (l := k + l) (Nat.le_refl _) (by omega)
  have a2 : ((nms (a + k) l).all fun x => (offUse (nms a k) (nms a (k + l))).contains x) = true := by rw [off_nms]; exact all_self _
  cases p
  · exact f18_1_o h0 a1 h2 a2
  · exact f18_1_s h0 a1 h2 a2
/-- The words that a drain leaves, and how many nodes are usable. -/
def drainW (n t r d b : Int) (gone : Nat → Bool) (X : Nat → Int) (w : Nat → Int) : (Nat → Int) × Int :=
  chainW (nxOf (ndP t r d b)) gone n.toNat 0 0 ((List.range' 0 n.toNat).foldl (nodeW (ndP t r d b) X) ((plcs t r d b).foldl (fun w p => upd w p 0) w))
theorem drainEnds (h : PF n t r d b g) {mb lb len i : Nat} {Q : Mu → Nat → Prop} (gone : Nat → Bool) (X S0 S1 S2 : Nat → Int) (m : Mu) (R : Reg) (a : Nat) (hR : HasReg m mb lb len i R) (hsz : (R.n : Int) = szP n t r d b)
    (l1 : mb < a) (l2 : lb < a) (l3 : R.rb < a) (l4 : R.wb < a)
    (hst : ∀ q : Nat, (q : Int) < n → StOk g (R.w (ndP t r d b + q * 5).toNat) (X q) (S0 q) (S1 q) (S2 q) ∧ gone q = ((S1 q : Int) == 3))
    (fin : ∀ m' a', HasReg m' mb lb len i { R with w := (drainW n t r d b gone X R.w).1 } → Far0 a mb R.wb m m' → a ≤ a' → Q m' a') :
    Ends mb i R.e 18 [pl n t r d b g] m a (n.toNat * 5 + (0 + n.toNat) + 1 + nPl t d b) (drainW n t r d b gone X R.w).2 Q := by
  have hn := h.hn; have hnd := h.nd; have hct := h.ct; have hz := h.hz
  obtain ⟨m1, row, hp, hrow, low, hra⟩ := places47 h m a
  have hR1 := hR.low low l1 l2 l3 l4
  have z : Ends mb i R.e 46 [.vec row 0 (plcs t r d b).length 1, .func 48 [.ptr (pls n t r d b g)]] m1 (a + nPl t d b) (n.toNat * 5 + (0 + n.toNat) + 1 + (plcs t r d b).length) (drainW n t r d b gone X R.w).2 Q := by
    refine zeroEnds (b := row) (plcs t r d b) 0 m1 R hR1 (by omega) (by omega) (fun j p hp => by rw [Nat.zero_add]; exact hrow.at_ j p hp) (fun p hp => ?_) (fun m2 hR2 far2 => ?_)
    · have := plcs_lt h hp
      unfold szP at hsz; omega
    · refine (nodesEnds h (Q := Q) gone X S0 S1 S2 a n.toNat 0 (by omega) m2 ⟨R.rb, R.wb, R.n, R.e, (plcs t r d b).foldl (fun w p => upd w p 0) R.w⟩ (a + nPl t d b) .nils hR2 hsz l1 l2 l3 l4 (by omega) (.inl ⟨rfl, rfl⟩) (fun row len e => by cases e)
        (fun q _ hq => ?_) (fun m' a' hR' far' ha' => fin m' a' hR' (fun c h1 h2 h3 o => ?_) (by omega))).pass fun p m1 F hc => pass48 p hc
      · have := hst q hq
        rw [← foldl_upd_other (plcs t r d b) R.w (show (ndP t r d b + q * 5).toNat ∉ plcs t r d b from fun hm => by have := plcs_lt h hm; omega)] at this
        exact this
      · rw [far' c h1 h2 h3, far2 c h2 h3, low c h1]
  rw [plcs_len] at z
  exact z.pass2 fun p m2 l hc => pass18 p hp hc
end
end Go.Proofs.Ytkhjkfbgcpjphaa.Fun
