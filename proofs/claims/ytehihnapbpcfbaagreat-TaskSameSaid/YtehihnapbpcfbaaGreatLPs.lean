/- The programs of the layers 9 to 13, as trees. -/
import Derived.Test.YtehihnapbpcfbaaGreatFunLP
import Derived.Test.YtehihnapbpcfbaaGreatWays
namespace Go.Proofs.YtehihnapbpcfbaaGreat.Fun
open Go
set_option linter.unusedVariables false
abbrev w6 (x : Int) : Int := IntKind.i64.wrap x
abbrev wu (x : Int) : Int := IntKind.u64.wrap x
/-- A node's word in a hazard, or among the retired. -/
abbrev hw (k : Int) : Int := wu (w6 (k + 1))
section
variable (p : Pl)
/-! #### free -/
abbrev popN (h : Int) : Int := w6 (w6 (nodeG h) - 1)
def popL : Nat → LP Int
  | 0 => .cut
  | n + 1 => .acc 0 (headG p) 0 0 fun h => cond (decide (popN h < 0)) (.done (-1)) (.acc 0 (nextG p (popN h)) 0 0 fun nx => .acc 2 (headG p) h (turnedG h nx) fun x => cond (!(x == h)) (popL n) (.done (popN h)))
def pushL (k : Int) : Nat → LP Int
  | 0 => .cut
  | n + 1 => cond (nextG p k == -1) (.done (-1)) (.acc 0 (headG p) 0 0 fun h => .acc 1 (nextG p k) (nodeG h) 0 fun _ => .acc 2 (headG p) h (turnedG h (hw k)) fun x => cond (!(x == h)) (pushL k n) (.done k))
/-! #### hazard -/
def hset (t i x : Int) : LP Non := .acc 1 (hazardG p t i) x 0 fun _ => .done ⟨⟩
def clearL (t : Int) : LP Non := (hset p t 0 0).bind fun _ => (hset p t 1 0).bind fun _ => (hset p t 2 0).bind fun _ => .done ⟨⟩
def heldL (k : Int) : Nat → Int → LP Bool
  | 0, _ => .cut
  | n + 1, i => cond (i == w6 (p.qThreads * 3)) (.done false) (.acc 0 (hazardG p (w6 (Int.tdiv i 3)) (Int.tmod i 3)) 0 0 fun w => cond (w == hw k) (.done true) (heldL k n (w6 (i + 1))))
abbrev gnode (sh w : Int) : Int := w6 (w6 (Int.fdiv w (2 ^ (min sh.toNat IntKind.u64.bits))) - 1)
def guardedL (t i at_ sh : Int) : Nat → Int → LP Int
  | 0, _ => .cut
  | n + 1, w => cond (decide (gnode sh w < 0)) (.done w) ((hset p t i (hw (gnode sh w))).bind fun _ => .acc 0 at_ 0 0 fun again => cond (again == w) (.done w) (guardedL t i at_ sh n again))
def guardL (t i at_ sh : Int) (n : Nat) : LP Int := .acc 0 at_ 0 0 fun w => guardedL p t i at_ sh n w
/-! #### retire -/
def rputL (t k : Int) : LP Int := .acc 0 (countG p t) 0 0 fun c => cond (decide (c ≥ wu p.qRetire)) (.done (-1)) (.acc 1 (retiredG p t (w6 c)) (hw k) 0 fun _ => .acc 1 (countG p t) (wu (c + 1)) 0 fun _ => .done (w6 (w6 c + 1)))
def reclaimL (n : Nat) (k : Int) : LP Int := .acc 1 (fieldG p k 0) 0 0 fun _ => .acc 1 (fieldG p k 1) 0 0 fun _ => .acc 1 (fieldG p k 2) 0 0 fun _ =>
  .acc 0 (stateG p k) 0 0 fun w => .acc 1 (stateG p k) (stWordG (freedG (stOfG w).1 p.qGen)) 0 fun _ => cond ((freedG (stOfG w).1 p.qGen).qMode == 3) (.done (-1)) (pushL p k n)
/-- A node is taken out of the retired ones, and reclaimed; 'go': what follows. -/
def goneL (t last : Int) (r : LP Int) (go : LP Int) : LP Int := .acc 1 (countG p t) (wu last) 0 fun _ => r.bind fun _ => go
def scannedL (t : Int) : Nat → Scn → LP Int
  | 0, _ => .cut
  | n + 1, s => cond (decide (s.qat < 0)) (.done s.qdone) (.acc 0 (retiredG p t s.qat) 0 0 fun w =>
      cond (decide (w < 1)) (scannedL t n ⟨w6 (s.qat - 1), s.qleft, s.qdone⟩) (cond (decide (w > wu p.qNodes)) (scannedL t n ⟨w6 (s.qat - 1), s.qleft, s.qdone⟩)
        ((heldL p (w6 (w6 w - 1)) n 0).bind fun h => cond h (scannedL t n ⟨w6 (s.qat - 1), s.qleft, s.qdone⟩)
          (cond (s.qat == w6 (s.qleft - 1))
            (goneL p t (w6 (s.qleft - 1)) (reclaimL p n (w6 (w6 w - 1))) (scannedL t n ⟨w6 (s.qat - 1), w6 (s.qleft - 1), w6 (s.qdone + 1)⟩))
            (.acc 0 (retiredG p t (w6 (s.qleft - 1))) 0 0 fun x => .acc 1 (retiredG p t s.qat) x 0 fun _ =>
              goneL p t (w6 (s.qleft - 1)) (reclaimL p n (w6 (w6 w - 1))) (scannedL t n ⟨w6 (s.qat - 1), w6 (s.qleft - 1), w6 (s.qdone + 1)⟩))))))
abbrev scanN (c : Int) : Int := w6 (if wu p.qRetire < c then wu p.qRetire else c)
def scanL (n : Nat) (t : Int) : LP Int := .acc 0 (countG p t) 0 0 fun c => scannedL p t n ⟨w6 (scanN p c - 1), scanN p c, 0⟩
/-! #### alloc -/
def grantL (k kind : Int) : LP Gr := .acc 0 (stateG p k) 0 0 fun w => .acc 1 (stateG p k) (stWordG ⟨(stOfG w).1.qGen, 1, kind⟩) 0 fun _ => .done ⟨k, (stOfG w).1.qGen, 0⟩
def anewL (n : Nat) (t kind : Int) : LP Gr := (popL p n).bind fun k => cond (k != -1) (grantL p k kind) ((scanL p n t).bind fun _ => (popL p n).bind fun k => cond (k == -1) (.done ⟨-1, 0, 4⟩) (grantL p k kind))
def stashL (n : Nat) (t k : Int) : LP Int := (rputL p t k).bind fun r => cond (r != -1) (.done k) ((scanL p n t).bind fun _ => (rputL p t k).bind fun r => cond (r == -1) (.done (-1)) (.done k))
def aretireL (n : Nat) (t k : Int) : LP Int := .acc 0 (stateG p k) 0 0 fun w => .acc 1 (stateG p k) (stWordG ⟨(stOfG w).1.qGen, 2, (stOfG w).1.qKind⟩) 0 fun _ => stashL p n t k
end
section
variable (s : Se)
/-! #### check -/
def newL (n : Nat) : LP Re := cond (!(seatG s)) (.done ⟨1, 0⟩) ((anewL s.qP n s.qThread 0).bind fun g => cond (g.qE != 0) (.done ⟨g.qE, 0⟩) (.done ⟨0, haWordG ⟨g.qNode, g.qGen, s.qTenant⟩⟩))
abbrev mine (w : Int) : Ha × Bool := mineG w s.qTenant s.qP.qNodes
abbrev hIx (w : Int) : Int := (mine s w).1.qIndex
abbrev hGen (w : Int) : Int := (mine s w).1.qGen
def dropL (n : Nat) (w : Int) : LP Re := cond (!(seatG s)) (.done ⟨1, 0⟩) (cond (!(mine s w).2) (.done ⟨3, 0⟩) (.acc 0 (stateG s.qP (hIx s w)) 0 0 fun x => cond (x != stWordG ⟨hGen s w, 1, 0⟩) (.done ⟨3, 0⟩)
  (.acc 2 (stateG s.qP (hIx s w)) x (stWordG ⟨hGen s w, 2, 0⟩) fun y => cond (!(y == x)) (.done ⟨3, 0⟩) ((stashL s.qP n s.qThread (hIx s w)).bind fun _ => .done ⟨0, 0⟩))))
def hleaveL (r : Re) : LP Re := (hset s.qP s.qThread 0 0).bind fun _ => .done r
def lookL (w f : Int) (go : Int → (Int → LP Re) → LP Re) : LP Re := cond (!(seatG s)) (.done ⟨1, 0⟩) (cond (decide (f < 0)) (.done ⟨1, 0⟩) (cond (decide (f ≥ 3)) (.done ⟨1, 0⟩) (cond (!(mine s w).2) (.done ⟨3, 0⟩)
  (.acc 0 (stateG s.qP (hIx s w)) 0 0 fun x => cond (x != stWordG ⟨hGen s w, 1, 0⟩) (.done ⟨3, 0⟩) ((hset s.qP s.qThread 0 (hw (hIx s w))).bind fun _ => .acc 0 (stateG s.qP (hIx s w)) 0 0 fun x =>
    cond (x != stWordG ⟨hGen s w, 1, 0⟩) (hleaveL s ⟨3, 0⟩) (go (fieldG s.qP (hIx s w) f) fun v => hleaveL s ⟨0, v⟩))))))
def readL (w f : Int) : LP Re := lookL s w f fun at_ next => .acc 0 at_ 0 0 next
def writeL (w f v : Int) : LP Re := lookL s w f fun at_ next => .acc 1 at_ v 0 fun _ => next 0
def swapL (w f was v : Int) : LP Re := lookL s w f fun at_ next => .acc 2 at_ was v fun x => cond (x == was) (next 1) (next 0)
end
end Go.Proofs.YtehihnapbpcfbaaGreat.Fun
