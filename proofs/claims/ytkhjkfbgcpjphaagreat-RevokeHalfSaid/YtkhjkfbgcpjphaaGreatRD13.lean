/- revoke.Drain, whole. -/
import Derived.Test.YtkhjkfbgcpjphaaGreatRD12
namespace Go.Proofs.YtkhjkfbgcpjphaaGreat.Fun
open Go
set_option linter.unusedVariables false
section
variable {n t r d b g : Int}
theorem pass48 {m m1 : Mu} {F : List Nat} (p : Pg) (q : CallOk Tryz.prog 34 [pl n t r d b g, .int .i64 0, .nils] m p.dv m1 false F) : CallOk Tryz.prog 33 [.ptr (pls n t r d b g)] m p.dv m1 false F := by
  cases p
  · exact f33_1_o q (all_self F)
  · exact f33_1_s q (all_self F)
theorem pass18 {m m1 m2 : Mu} {a k l row : Nat} (p : Pg) (h0 : CallOk Tryz.prog 32 [pl n t r d b g] m (.vec row 0 k 1) m1 false (nms a k)) (h2 : CallOk Tryz.prog 31 [.vec row 0 k 1, .func 33 [.ptr (pls n t r d b g)]] m1 p.dv m2 false (nms (a + k) l)) :
    CallOk Tryz.prog 11 [pl n t r d b g] m p.dv m2 false (nms a (k + l)) := by
  have a1 := all_nms (a := a) (k := k) (b := a) (l := k + l) (Nat.le_refl _) (by omega)
  have a2 : ((nms (a + k) l).all fun x => (offUse (nms a k) (nms a (k + l))).contains x) = true := by rw [off_nms]; exact all_self _
  cases p
  · exact f11_1_o h0 a1 h2 a2
  · exact f11_1_s h0 a1 h2 a2
/-- The words that a drain leaves, and how many nodes are usable. -/
def drainW (n t r d b : Int) (gone : Nat → Bool) (X : Nat → Int) (w : Nat → Int) : (Nat → Int) × Int :=
  chainW (nxOf (ndP t r d b)) gone n.toNat 0 0 ((List.range' 0 n.toNat).foldl (nodeW (ndP t r d b) X) ((plcs t r d b).foldl (fun w p => upd w p 0) w))
end
end Go.Proofs.YtkhjkfbgcpjphaaGreat.Fun
