/- The programs of the layers 14 to 19, as trees, and that they are. -/
import Derived.Test.YtehihnapbpcfbaaGreatDenA
namespace Go.Proofs.YtehihnapbpcfbaaGreat.Fun
open Go
set_option linter.unusedVariables false
section
variable (q : Wh)
/-! #### queue -/
abbrev qnode (w : Int) : Int := w6 (w6 w - 1)
abbrev Wh.p : Pl := q.qSeat.qP
abbrev Wh.t : Int := q.qSeat.qThread
def whereL (s : Se) (d : Int) : Wh := ⟨s, cellG s.qP d 0, cellG s.qP d 1⟩
def grantedL (n : Nat) (next : Int → LP Re) : LP Re := (anewL q.p n q.t 1).bind fun g => cond (g.qE != 0) (.done ⟨g.qE, 0⟩) (next g.qNode)
def qsetL (i x : Int) (next : LP Re) : LP Re := (hset q.p q.t i x).bind fun _ => next
def qmakeL (n : Nat) : LP Re := grantedL q n fun k => .acc 1 q.qhead (hw k) 0 fun _ => .acc 1 q.qtail (hw k) 0 fun _ => .done ⟨0, 0⟩
def qputL (k : Int) : Nat → LP Re
  | 0 => .cut
  | n + 1 => (guardL q.p q.t 0 q.qtail 0 n).bind fun t => .acc 0 (fieldG q.p (qnode t) 2) 0 0 fun next => .acc 0 q.qtail 0 0 fun again =>
      cond (again != t) (qputL k n) (cond (next != 0) (.acc 2 q.qtail t next fun _ => qputL k n)
        (.acc 2 (fieldG q.p (qnode t) 2) 0 (hw k) fun x => cond (!(x == 0)) (qputL k n) (.acc 2 q.qtail t (hw k) fun _ => qsetL q 0 0 (.done ⟨0, 0⟩))))
def enqL (n : Nat) (v : Int) : LP Re := grantedL q n fun k => .acc 1 (fieldG q.p k 1) v 0 fun _ => qputL q k n
def qleaveL (next : LP Re) : LP Re := qsetL q 1 0 (qsetL q 0 0 next)
def takeL : Nat → LP Re
  | 0 => .cut
  | n + 1 => (guardL q.p q.t 0 q.qhead 0 n).bind fun h => .acc 0 q.qtail 0 0 fun t => .acc 0 (fieldG q.p (qnode h) 2) 0 0 fun next => qsetL q 1 (hw (qnode next)) (.acc 0 q.qhead 0 0 fun again =>
      cond (again != h) (takeL n) (cond (next == 0) (qleaveL q (.done ⟨6, 0⟩)) (cond (h == t) (.acc 2 q.qtail t next fun _ => takeL n)
        (.acc 0 (fieldG q.p (qnode next) 1) 0 0 fun v => .acc 2 q.qhead h next fun x => cond (!(x == h)) (takeL n) (qleaveL q ((aretireL q.p n q.t (qnode h)).bind fun _ => .done ⟨0, v⟩))))))
theorem den_granted (n : Nat) (next : Int → LP Re) {f : FuncId} {c : List DV} (h : ∀ k, DenC kR (next k) f (I k :: c) []) : DenC kR (grantedL q n next) n_queue_where_granted [.agg q.cs, .func f c] [] :=
  .then_ tGR (den_anew _ _ _ _) (fun g => .ite (fun e => .done fun _ => w_queue_where_granted_c1_2 e) fun e => (h _).pass fun _ => w_queue_where_granted_c1_1 e) fun _ h => w_queue_where_granted_1 h
theorem den_qset (i k : Int) {next : LP Re} {f : FuncId} {c : List DV} (h : DenC kR next f c []) : DenC kR (qsetL q i (hw k) next) n_queue_where_set [.agg q.cs, I i, I k, .func f c] [] :=
  .thenS tNR (den_hset ..) (fun _ => h.pass fun _ => w_queue_where_set_c1_1 (a0 := ⟨⟩)) fun _ => w_queue_where_set_1
theorem den_qset0 (i : Int) {next : LP Re} {f : FuncId} {c : List DV} (h : DenC kR next f c []) : DenC kR (qsetL q i 0 next) n_queue_where_set [.agg q.cs, I i, I (-1), .func f c] [] := den_qset q i (-1) h
theorem den_qleave {next : LP Re} {f : FuncId} {c : List DV} (h : DenC kR next f c []) : DenC kR (qleaveL q next) n_queue_where_leave [.agg q.cs, .func f c] [] :=
  DenC.pass (den_qset0 q 1 ((den_qset0 q 0 h).pass fun _ => w_queue_where_leave_c1_1)) fun _ => w_queue_where_leave_1
theorem den_qmake (s : Se) (d : Int) (n : Nat) : DenC kR (qmakeL (whereL s d) n) n_queue_Make [.agg s.cs, I d] [] :=
  (den_granted (whereL s d) n _ fun k => .acc (fun _ => w_queue_Make_c1_1) fun _ => stR (.acc (fun _ => w_queue_Make_c1_c1_1) fun _ => stR (.done fun _ => w_queue_Make_c1_c1_c1_1))).pass fun _ => w_queue_Make_1
theorem den_qput (k : Int) : ∀ n, DenC kR (qputL q k n) n_queue_where_put [.agg q.cs, I k] []
  | 0 => DenC.cut (DenC.then_ tUR (φ := fun _ => .cut) (den_Guard0 q.p q.t 0 q.qtail 0) (fun t => .cutS fun _ => w_queue_where_put_c1_1) fun _ h => w_queue_where_put_1 h)
  | n + 1 => .then_ tUR (den_Guard0 q.p q.t 0 q.qtail n) (fun t => .acc (fun _ => w_queue_where_put_c1_1) fun next => .acc (fun _ => w_queue_where_put_c1_c1_1) fun again =>
      .ite (fun e => (den_qput k n).pass fun _ => w_queue_where_put_c1_c1_c1_3 e) fun e => .ite (fun e1 => .acc (fun _ => w_queue_where_put_c1_c1_c1_2 e e1) fun _ => swR ((den_qput k n).pass fun _ => w_queue_where_put_c1_c1_c1_c1_1)) fun e1 =>
      .acc (fun _ => w_queue_where_put_c1_c1_c1_1 e e1) fun x => swR (.ite (fun e => (den_qput k n).pass fun _ => w_queue_where_put_c1_c1_c1_c2_2 e) fun e => .acc (fun _ => w_queue_where_put_c1_c1_c1_c2_1 e) fun _ =>
        swR ((den_qset0 q 0 (.done fun _ => w_queue_where_put_c1_c1_c1_c2_c1_c1_1)).pass fun _ => w_queue_where_put_c1_c1_c1_c2_c1_1))) fun _ h => w_queue_where_put_1 h
theorem den_enq (s : Se) (d v : Int) (n : Nat) : DenC kR (enqL (whereL s d) n v) n_queue_Enq [.agg s.cs, I d, U v] [] :=
  (den_granted (whereL s d) n _ fun k => .acc (fun _ => w_queue_Enq_c1_1) fun _ => stR ((den_qput _ k n).pass fun _ => w_queue_Enq_c1_c1_1)).pass fun _ => w_queue_Enq_1
theorem den_take : ∀ n, DenC kR (takeL q n) n_queue_where_take [.agg q.cs] []
  | 0 => DenC.cut (DenC.then_ tUR (φ := fun _ => .cut) (den_Guard0 q.p q.t 0 q.qhead 0) (fun t => .cutS fun _ => w_queue_where_take_c1_1) fun _ h => w_queue_where_take_1 h)
  | n + 1 => .then_ tUR (den_Guard0 q.p q.t 0 q.qhead n) (fun h => .acc (fun _ => w_queue_where_take_c1_1) fun t => .acc (fun _ => w_queue_where_take_c1_c1_1) fun next =>
      DenC.pass (den_qset q 1 (qnode next) (.acc (fun _ => w_queue_where_take_c1_c1_c1_c1_1) fun again => .ite (fun e => (den_take n).pass fun _ => w_queue_where_take_c1_c1_c1_c1_c1_2 e) fun e =>
        have tk : DenC kR _ n_queue_where_taken [.agg q.cs, U h, U t, U next] [] := .ite (fun e => DenC.pass (den_qleave q (.done fun _ => w_queue_where_taken_c1_1)) fun _ => w_queue_where_taken_3 e) fun e =>
          .ite (fun e1 => .acc (fun _ => w_queue_where_taken_2 e e1) fun _ => swR ((den_take n).pass fun _ => w_queue_where_taken_c2_1)) fun e1 => .acc (fun _ => w_queue_where_taken_1 e e1) fun v =>
          .acc (fun _ => w_queue_where_taken_c3_1) fun x => swR (.ite (fun e => (den_take n).pass fun _ => w_queue_where_taken_c3_c1_2 e) fun e => DenC.pass (den_qleave q
            (.then_ tIR (den_aretire _ _ _ _) (fun r => .done fun _ => w_queue_where_taken_c3_c1_c1_c1_1) fun _ h => w_queue_where_taken_c3_c1_c1_1 h)) fun _ => w_queue_where_taken_c3_c1_1 e)
        tk.pass fun _ => w_queue_where_take_c1_c1_c1_c1_c1_1 e)) fun _ => w_queue_where_take_c1_c1_c1_1) fun _ h => w_queue_where_take_1 h
theorem den_deq (s : Se) (d : Int) (n : Nat) : DenC kR (takeL (whereL s d) n) n_queue_Deq [.agg s.cs, I d] [] := (den_take _ n).pass fun _ => w_queue_Deq_1
end
/-! #### list -/
abbrev lnode (w : Int) : Int := gnode 1 w
abbrev lword (k : Int) : Int := wu (wu (w6 (k + 1)) * 2 ^ (min (1 : Int).toNat IntKind.u64.bits))
abbrev marked (w : Int) : Int := wu (BitVec.ofInt (IntKind.u64.bits) w &&& BitVec.ofInt (IntKind.u64.bits) 1).toNat
abbrev unmark (w : Int) : Int := wu (BitVec.ofInt (IntKind.u64.bits) w &&& ~~~ BitVec.ofInt (IntKind.u64.bits) 1).toNat
abbrev remark (w : Int) : Int := wu (BitVec.ofInt (IntKind.u64.bits) w ||| BitVec.ofInt (IntKind.u64.bits) 1).toNat
abbrev Wk.p (f : Wk) : Pl := f.qSeat.qP
abbrev Wk.t (f : Wk) : Int := f.qSeat.qThread
def lsetL (f : Wk) (i x : Int) (next : LP Wk) : LP Wk := (hset f.p f.t i x).bind fun _ => next
/-- The walk of a find: from a place on (true), or anew. -/
def walkL : Nat → Bool → Wk → LP Wk
  | 0, _, _ => .cut
  | n + 1, false, f => (guardL f.p f.t 1 f.qcell 1 n).bind fun w => walkL n true ⟨f.qSeat, f.qcell, f.qk, f.qcell, w, 0, false⟩
  | n + 1, true, f => cond (decide (lnode f.qcur < 0)) (.done ⟨f.qSeat, f.qcell, f.qk, f.qplace, f.qcur, f.qnext, false⟩)
      (.acc 0 (fieldG f.p (lnode f.qcur) 2) 0 0 fun next => lsetL f 0 (hw (lnode next)) (.acc 0 (fieldG f.p (lnode f.qcur) 2) 0 0 fun again => cond (again != next) (walkL n false f)
        (.acc 0 (fieldG f.p (lnode f.qcur) 0) 0 0 fun x => .acc 0 f.qplace 0 0 fun w => cond (w != f.qcur) (walkL n false ⟨f.qSeat, f.qcell, f.qk, f.qplace, f.qcur, next, f.qthere⟩)
          (cond (marked next != 0)
            (.acc 2 f.qplace f.qcur (unmark next) fun y => cond (!(y == f.qcur)) (walkL n false ⟨f.qSeat, f.qcell, f.qk, f.qplace, f.qcur, next, f.qthere⟩) ((aretireL f.p n f.t (lnode f.qcur)).bind fun _ => lsetL f 1 (hw (lnode (unmark next))) (walkL n true ⟨f.qSeat, f.qcell, f.qk, f.qplace, unmark next, next, f.qthere⟩)))
            (cond (decide (x ≥ f.qk)) (.done ⟨f.qSeat, f.qcell, f.qk, f.qplace, f.qcur, next, x == f.qk⟩)
              (lsetL f 2 (hw (lnode f.qcur)) (lsetL f 1 (hw (lnode next)) (walkL n true ⟨f.qSeat, f.qcell, f.qk, fieldG f.p (lnode f.qcur) 2, next, next, f.qthere⟩))))))))
def findL (s : Se) (cell k : Int) (n : Nat) : LP Wk := walkL n false ⟨s, cell, k, 0, 0, 0, false⟩
end Go.Proofs.YtehihnapbpcfbaaGreat.Fun
