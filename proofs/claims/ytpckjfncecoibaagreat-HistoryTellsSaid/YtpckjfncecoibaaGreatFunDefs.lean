/- A small evaluator for the functional part of the program (closures, captured variables, local variables): values without addresses, and what it means that a value of the model is one of them. -/
import Derived.Calls
import Derived.Orders
namespace Go.Proofs.YtpckjfncecoibaaGreat.Fun
open Go

/-- A value without addresses: what a value of the model reads as. -/
inductive DV where
  | any
  | int (k : IntKind) (n : Int)
  | bool (b : Bool)
  | str (s : ByteArray)
  | nilp
  | nilf
  | agg (cs : List DV)
  | tup (cs : List DV)
  | ptr (cs : List DV)
  | func (f : FuncId) (caps : List DV)
  | slice (cs : List DV) (n : Nat)
  | loc (n off : Nat)
  | adr (b off : Nat)
  | vec (b off n sz : Nat)
  | spot
  | nils
  | bnd (f : FuncId) (first : List DV)
  | ents (ks vs : List DV)
  | boxd (cap : Nat) (ds : List DV)
  | mref (b : Nat)
  | cref (b : Nat)
  | nilm
  | emap
  | miter
  deriving Inhabited

/-- In the world's block b, from cell off on, these values lie. -/
def CellsAt (w : World) (b off : Nat) (vs : List Value) : Prop := ∀ j u, vs[j]? = some u → w.cell? ⟨b, off + j, none⟩ = some u

mutual
/-- In world w the value v reads as d; all blocks that it leads to are of the area S. -/
def Abs (ρ : Nat → Option Nat) (S : Nat → Prop) (w : World) : DV → Value → Prop
  | .any, _ => True
  | .int k n, v => v = .int k n
  | .bool b, v => v = .bool b
  | .str s, v => v = .string s
  | .nilp, v => v = .pointer none
  | .nilf, v => v = .nilFunc
  | .agg cs, v => ∃ vs : List Value, v = .agg vs.toArray ∧ AbsL ρ S w cs vs
  | .tup cs, v => ∃ vs : List Value, v = .tuple vs.toArray ∧ AbsL ρ S w cs vs
  | .ptr cs, v => ∃ b off, ∃ vs : List Value, v = .pointer (some ⟨b, off, none⟩) ∧ S b ∧ CellsAt w b off vs ∧ AbsL ρ S w cs vs
  | .func f caps, v => ∃ vs : List Value, v = .func (.func f) #[] vs.toArray ∧ AbsL ρ S w caps vs
  | .slice cs n, v => ∃ a cap, ∃ vs : List Value, v = .slice a n cap ∧ n ≤ cap ∧ AbsL ρ S w cs vs ∧ (n = 0 ∨ ∃ b off, a = some ⟨b, off, none⟩ ∧ S b ∧ CellsAt w b off vs)
  | .loc _ _, _ => False
  | .adr b off, v => ∃ p, ρ b = some p ∧ v = .pointer (some ⟨p, off, none⟩)
  | .vec b off n sz, v => ∃ a cap, v = .slice a n cap ∧ n ≤ cap ∧ (n = 0 ∨ ∃ p, ρ b = some p ∧ a = some ⟨p, off, none⟩ ∧ ∃ vs e, w.heap[p]? = some (.cells vs e (0, 0)) ∧ off + cap * sz ≤ vs.size)
  | .spot, v => ∃ a, v = .pointer (some a)
  | .nils, v => ∃ a, v = .slice a 0 0
  | .bnd f fs, v => ∃ vs : List Value, v = .func (.func f) vs.toArray #[] ∧ AbsL ρ S w fs vs
  | .ents _ _, _ => False
  | .boxd _ _, _ => False
  | .mref b, v => ∃ p, ρ b = some p ∧ v = .map (some p)
  | .cref b, v => ∃ p, ρ b = some p ∧ v = .chan (some p)
  | .nilm, v => v = .map none
  | .emap, v => ∃ p, v = .map (some p) ∧ S p ∧ w.heap[p]? = some (.map #[] 0)
  | .miter, v => ∃ b p, ∃ since last : Nat, v = .pointer (some ⟨b, 0, none⟩) ∧ S b ∧ w.heap[b]? = some (.mapIter (some p) since #[] last) ∧ S p ∧ w.heap[p]? = some (.map #[] 0)
/-- The like for lists. -/
def AbsL (ρ : Nat → Option Nat) (S : Nat → Prop) (w : World) : List DV → List Value → Prop
  | [], vs => vs = []
  | d :: ds, vs => ∃ v rest, vs = v :: rest ∧ Abs ρ S w d v ∧ AbsL ρ S w ds rest
end

/-- The cells of a value. -/
def DV.cells : DV → List DV
  | .agg cs => cs
  | d => [d]
def DV.noLoc : DV → Bool
  | .loc _ _ => false
  | _ => true

def DV.isAgg : DV → Bool
  | .agg _ => true
  | _ => false
def DV.firm : DV → Bool
  | .loc _ _ | .any | .ents _ _ | .boxd _ _ => false
  | _ => true
/-- What a cell holds, not what a map or a channel holds. -/
def DV.plain : DV → Bool
  | .ents _ _ | .boxd _ _ => false
  | _ => true

/-- What is known of a type. -/
structure TI where
  ch : Bool
  mp : Option (TypeId × Value)
  size : Nat
  agg : Bool
  zero : Option (List Value)
  fields : Option (List (Nat × TypeId))
  elem : Option TypeId
  kind : Option IntKind
  ptr : Bool
  bool : Bool
  bytes : Bool
  room : Bool
  arr : Option (Nat × TypeId)
  cmp : Option (List Nat)
/-- The comparable leaves of a struct's fields, in a row: 0: a whole number, 1: a Boolean, 2: a string. -/
def cmpRow (g : TypeId → Option (List Nat)) : List Field → Nat → Option (List Nat)
  | [], _ => some []
  | f :: fs, n => if f.name ≠ "_" ∧ f.offset = n then (match g f.type with | some l => (cmpRow g fs (n + l.length)).map (l ++ ·) | none => none) else none
def cmpOf (P : Program) : Nat → TypeId → Option (List Nat)
  | 0, _ => none
  | d + 1, t =>
    match P.info? t, P.underlying t with
    | some i, some u =>
      match (match u with | .int _ => some [0] | .bool => some [1] | .string => some [2] | .struct fs => if P.stoodInHeld t then none else cmpRow (cmpOf P d) fs.toList 0 | _ => none) with
      | some l => if l.length = i.size then some l else none
      | none => none
    | _, _ => none
/-- What tells a function's, a channel's, a map's type. -/
def clsOf (u : TypeDesc) (o : Option (List Nat)) : Option (List Nat) := match u with | .func _ _ _ => some [9] | .chan _ _ => some [10] | .map _ _ => some [11] | _ => o
def isAggD : TypeDesc → Bool
  | .struct _ | .array _ _ => true
  | _ => false
def tiOf (P : Program) (t : TypeId) : Option TI :=
  match P.info? t, P.underlying t with
  | some i, some u => some
    { ch := match u with | .chan _ e => (P.info? e).any (fun j => decide (j.bytes ≤ 1024)) | _ => false, size := i.size, agg := isAggD u, zero := i.zero.map fun v => v.cells.toList
      fields := match u with | .struct fs => some (fs.toList.map fun f => (f.offset, f.type)) | _ => none
      elem := match u with | .slice e => some e | _ => none
      kind := match u with | .int k => some k | _ => none
      ptr := match u with | .pointer _ => true | _ => false
      bool := match u with | .bool => true | _ => false
      bytes := decide (P.cellsOf t = i.size) && (List.range i.size).all fun k => (byteOfCell P P.depth t k).isSome
      room := decide (i.bytes ≤ 1024)
      arr := match u with | .array n e => some (n, e) | _ => none
      cmp := clsOf u (if P.eqGuardType P.depth t then none else cmpOf P 8 t)
      mp := match u with | .map k e => ((P.info? e).bind (·.zero)).map fun z => (k, z) | _ => none }
  | _, _ => none

/-- The reading of a constant. -/
def ofConst : Value → Option DV
  | .int k n => some (.int k n)
  | .bool b => some (.bool b)
  | .string s => some (.str s)
  | .pointer none => some .nilp
  | .nilFunc => some .nilf
  | .slice none 0 0 => some .nils
  | .map none => some .nilm
  | .chan none => some .any
  | _ => none

/-- What is known of the cells of blocks that others own too. -/
abbrev Mu := Nat → Nat → Option DV
/-- What an operation does beside its value: a new local variable (its cells); local variables that are shared with a closure from now on; what is known of others' cells now. -/
structure Eff where
  new : Option (List DV) := none
  frz : List Nat := []
  mu : Option Mu := none
  el : TypeId := 0
  use : List Nat := []
  pend : Option Nat := none
/-- Does it write others' cells? -/
def Eff.wr (e : Eff) : Bool := e.mu.isSome || (!e.use.isEmpty && e.pend.isNone)

/-- The state of an activation: the temporaries; its local variables (the number of the temporary that bore it, whether it is shared with a closure, its cells); others' cells. -/
structure St where
  tm : List DV
  lo : List (Nat × Bool × List DV)
  dirty : Bool := false
  mu : Mu := fun _ _ => none
  el : List (Nat × TypeId) := []
  free : List Nat := []
  pend : List (Nat × Nat) := []

/-- How a code ends. -/
inductive Way where
  | normal
  | ret
  | exit (id : Nat)
  deriving DecidableEq

/-- A duty: a call that comes to a value; two Booleans that are one; what was loaded; a code that leads from a state to another. -/
inductive Ob where
  | call (f : FuncId) (args : List DV) (mu : Mu) (d : DV) (mu' : Mu) (dirty : Bool) (fresh : List Nat)
  | eq (a b : Bool)
  | part (x : Option DV) (d : DV)
  | code (c : Code) (s : St) (w : Way) (s' : St)

/-- What is taken from the script: a call's result, a loaded value, a loop's end, or a way. -/
inductive Say where
  | res (d : DV) (dirty : Bool)
  | resM (d : DV) (mu : Mu) (dirty : Bool) (fresh : List Nat)
  | val (d : DV)
  | pass
  | name (n : Nat)
  | pend (n : Nat)
  | sname (n : Nat) (pd : Bool)
  | loop (mask : List Bool) (drops : List Nat) (w : Way) (s : St)
  | way (b : Bool)
/-- What an operation is told. -/
structure Told where
  d : DV
  dirty : Bool := false
  mu : Option Mu := none
  fresh : List Nat := []
  pend : Bool := false

/-- Cells that are loaded are known. -/
def cellObs (mu : Mu) (b off : Nat) : List DV → List Ob
  | [] => []
  | d :: ds => .part (mu b off) d :: cellObs mu b (off + 1) ds
/-- Cells that are stored to are known of. -/
def someObs (mu : Mu) (b off : Nat) : List DV → List Ob
  | [] => []
  | _ :: ds => .eq ((mu b off).any DV.plain) true :: someObs mu b (off + 1) ds
def updMu (mu : Mu) (b off : Nat) : List DV → Mu
  | [] => mu
  | d :: ds => updMu (fun b' o => if b' = b ∧ o = off then some d else mu b' o) b (off + 1) ds

/-- A part of a row of cells. -/
def partOf (ti : TI) (cs : List DV) (off : Nat) : Option DV :=
  if ti.agg then (if off + ti.size ≤ cs.length then some (.agg ((cs.drop off).take ti.size)) else none) else cs[off]?

def fillAt (cs : List DV) (off : Nat) : List DV → List DV
  | [] => cs
  | d :: ds => fillAt (cs.set off d) (off + 1) ds
/-- A struct's cells, filled. -/
def fillIn (T : TypeId → Option TI) (fs : List (Nat × TypeId)) : List DV → List (Nat × DV) → Option (List DV)
  | cs, [] => some cs
  | cs, (i, d) :: rest =>
    match fs[i]? with
    | none => none
    | some (off, t) =>
      match T t with
      | none => none
      | some ti => if d.firm && d.cells.length == ti.size && decide (off + d.cells.length ≤ cs.length) then fillIn T fs (fillAt cs off d.cells) rest else none

def binInt (op : BinOp) (k : IntKind) (x y : Int) : Option DV :=
  match op with
  | .add => some (.int k (k.wrap (x + y)))
  | .sub => some (.int k (k.wrap (x - y)))
  | .mul => some (.int k (k.wrap (x * y)))
  | .and => some (.int k (k.wrap (BitVec.ofInt k.bits x &&& BitVec.ofInt k.bits y).toNat))
  | .or => some (.int k (k.wrap (BitVec.ofInt k.bits x ||| BitVec.ofInt k.bits y).toNat))
  | .xor => some (.int k (k.wrap (BitVec.ofInt k.bits x ^^^ BitVec.ofInt k.bits y).toNat))
  | .andNot => some (.int k (k.wrap (BitVec.ofInt k.bits x &&& ~~~ BitVec.ofInt k.bits y).toNat))
  | .eql => some (.bool (x == y))
  | .neq => some (.bool (x != y))
  | .lss => some (.bool (x < y))
  | .leq => some (.bool (x ≤ y))
  | .gtr => some (.bool (x > y))
  | .geq => some (.bool (x ≥ y))
  | .quo => if y = 0 then none else some (.int k (k.wrap (x.tdiv y)))
  | .rem => if y = 0 then none else some (.int k (x.tmod y))
  | _ => none

/-- A shift by a constant. -/
def shiftBy (op : BinOp) (k : IntKind) (x : Int) (n : Nat) : Option DV :=
  match op with
  | .shl => some (.int k (k.wrap (x * 2 ^ (min n k.bits))))
  | .shr => some (.int k (x.fdiv (2 ^ (min n k.bits))))
  | _ => none

def isShift : BinOp → Bool
  | .shl | .shr => true
  | _ => false
/-- A string's bytes, by its list. -/
def lenS (s : ByteArray) : Nat := s.data.toList.length
def byteD (s : ByteArray) (k : Nat) : Int := ((s.data.toList[k]?.getD 0).toNat : Int)
def cutS (s : ByteArray) (l h : Nat) : ByteArray := ⟨⟨(s.data.toList.drop l).take (h - l)⟩⟩
def joinS (s t : ByteArray) : ByteArray := ⟨⟨s.data.toList ++ t.data.toList⟩⟩
def strEq (a b : ByteArray) : Bool := a.data.toList == b.data.toList
def eq1 : Nat → DV → DV → Option Bool
  | 0, .int k a, .int k' b => if k = k' then some (a == b) else none
  | 1, .bool a, .bool b => some (a == b)
  | 2, .str a, .str b => some (strEq a b)
  | _, _, _ => none
/-- Are two rows of cells equal? -/
def eqD : List Nat → List DV → List DV → Option Bool
  | [], [], [] => some true
  | k :: ks, x :: xs, y :: ys => (match eq1 k x y, eqD ks xs ys with | some a, some b => some (a && b) | _, _ => none)
  | _, _, _ => none
def binD (T : TypeId → Option TI) (ev : Operand → Option DV) (op : BinOp) (t : TypeId) (x y : Operand) : Option DV :=
  if isShift op then
    match ev x, ev y with
    | some (.int k a), some (.int _ n) => if 0 ≤ n then shiftBy op k a n.toNat else none
    | _, _ => none
  else
    match ev x, ev y with
    | some (.int k a), some (.int k' b) => if k = k' then binInt op k a b else none
    | some (.bool a), some (.bool b) =>
      match op, T t with
      | .eql, some { bool := true, .. } => some (.bool (a == b))
      | .neq, some { bool := true, .. } => some (.bool (!(a == b)))
      | _, _ => none
    | some (.adr _ _), some .nilp =>
      match op, T t with
      | .eql, some { ptr := true, .. } => some (.bool false)
      | .neq, some { ptr := true, .. } => some (.bool true)
      | _, _ => none
    | some .nilp, some .nilp =>
      match op, T t with
      | .eql, some { ptr := true, .. } => some (.bool true)
      | .neq, some { ptr := true, .. } => some (.bool false)
      | _, _ => none
    | some (.func _ _), some .nilf =>
      match op, T t with
      | .eql, some { cmp := some [9], agg := false, .. } => some (.bool false)
      | .neq, some { cmp := some [9], agg := false, .. } => some (.bool true)
      | _, _ => none
    | some .nilf, some .nilf =>
      match op, T t with
      | .eql, some { cmp := some [9], agg := false, .. } => some (.bool true)
      | .neq, some { cmp := some [9], agg := false, .. } => some (.bool false)
      | _, _ => none
    | some (.str a), some (.str b) =>
      match op with
      | .add => if lenS a + lenS b ≤ 9223372036854775807 then some (.str (joinS a b)) else none
      | .eql => some (.bool (strEq a b))
      | .neq => some (.bool (!(strEq a b)))
      | _ => none
    | some (.agg xs), some (.agg ys) =>
      match op, T t with
      | .eql, some { cmp := some l, agg := true, .. } => (eqD l xs ys).map .bool
      | .neq, some { cmp := some l, agg := true, .. } => (eqD l xs ys).map fun b => .bool (!b)
      | _, _ => none
    | _, _ => none

/-- A division by what is not known: its value, and that it isn't by 0. -/
def divD (ev : Operand → Option DV) (op : BinOp) (x y : Operand) : Option (DV × Bool) :=
  match op, ev x, ev y with
  | .quo, some (.int k a), some (.int k' b) => if k = k' then some (.int k (k.wrap (a.tdiv b)), decide (b ≠ 0)) else none
  | .rem, some (.int k a), some (.int k' b) => if k = k' then some (.int k (a.tmod b), decide (b ≠ 0)) else none
  | _, _, _ => none
/-- A row that is not empty is not nil. -/
def nilD (T : TypeId → Option TI) (ev : Operand → Option DV) (op : BinOp) (t : TypeId) (x y : Operand) : Option Bool :=
  match T t, ev x, y with
  | some { elem := some _, .. }, some (.vec _ _ (_ + 1) _), .const (.slice none 0 0) => (match op with | .eql => some false | .neq => some true | _ => none)
  | _, _, _ => none
def unOf (op : UnOp) : DV → Option DV
  | .bool b => (match op with | .not => some (.bool !b) | _ => none)
  | _ => none

/-- A captured variable as the closure holds it, and which local variable it was. -/
def captureOf (lc : Nat → Option (List DV)) : DV → Option (DV × List Nat)
  | .loc n 0 => (lc n).map fun cs => (.ptr cs, [n])
  | .loc _ _ => none
  | d => some (d, [])
def captures (lc : Nat → Option (List DV)) : List DV → Option (List DV × List Nat)
  | [] => some ([], [])
  | d :: ds =>
    match captureOf lc d, captures lc ds with
    | some (c, l), some (cs, ls) => some (c :: cs, l ++ ls)
    | _, _ => none

def evAll (ev : Operand → Option DV) : List Operand → Option (List DV)
  | [] => some []
  | x :: xs =>
    match ev x, evAll ev xs with
    | some d, some ds => some (d :: ds)
    | _, _ => none
def evPairs (ev : Operand → Option DV) : List (Nat × Operand) → Option (List (Nat × DV))
  | [] => some []
  | (i, x) :: xs =>
    match ev x, evPairs ev xs with
    | some d, some ds => some ((i, d) :: ds)
    | _, _ => none

/-- 'x[l:]' at a constant l: its value, and that l is in bounds. -/
def sliceD (T : TypeId → Option TI) (ev : Operand → Option DV) (t : TypeId) (x : Operand) (lo hi mx : Option Operand) : Option (DV × Bool) :=
  match lo, hi, mx with
  | some (.const (.int _ l)), none, none =>
    match T t, ev x with
    | some { elem := some e, .. }, some (.slice cs n) =>
      match T e with
      | some te => some (.slice (cs.drop (l.toNat * te.size)) (n - l.toNat), decide (0 ≤ l ∧ l ≤ (n : Int)))
      | none => none
    | _, _ => none
  | _, _, _ => none
/-- A bound of a slice, or what stands for it where there is none. -/
def boundD (ev : Operand → Option DV) (els : Int) : Option Operand → Option Int
  | none => some els
  | some x => match ev x with | some (.int _ l) => some l | _ => none
/-- 'x[l:h]' of a row that others own too. -/
def sliceV (T : TypeId → Option TI) (ev : Operand → Option DV) (t : TypeId) (x : Operand) (lo hi mx : Option Operand) : Option (DV × Bool) :=
  match mx, T t, ev x with
  | none, some { elem := some e, .. }, some (.vec b off n sz) =>
    match T e, boundD ev 0 lo, boundD ev n hi with
    | some te, some l, some h => if te.size = sz then some (.vec b (off + l.toNat * sz) (h.toNat - l.toNat) sz, decide (0 ≤ l ∧ l ≤ h ∧ h ≤ (n : Int))) else none
    | _, _, _ => none
  | _, _, _ => none

/-- 'x[l:h]' of a string. -/
def sliceS (T : TypeId → Option TI) (ev : Operand → Option DV) (t : TypeId) (x : Operand) (lo hi mx : Option Operand) : Option (DV × Bool) :=
  match mx, T t, ev x with
  | none, some { cmp := some [2], agg := false, .. }, some (.str s) =>
    match boundD ev 0 lo, boundD ev (lenS s) hi with
    | some l, some h => some (.str (cutS s l.toNat h.toNat), decide (0 ≤ l ∧ l ≤ h ∧ h ≤ (lenS s : Int)))
    | _, _ => none
  | _, _, _ => none
def maxD (ev : Operand → Option DV) (h : Int) : Option Operand → Option Int
  | none => some h
  | some z => (match ev z with | some (.int _ m) => some m | _ => none)
/-- 'x[l:h]', 'x[l:h:m]' of a row that stays. -/
def sliceF (T : TypeId → Option TI) (ev : Operand → Option DV) (t : TypeId) (x : Operand) (lo hi mx : Option Operand) : Option (DV × Bool) :=
  match hi, (T t).bind (·.elem), ev x with
  | some y, some e, some (.slice cs n) =>
    match T e, boundD ev 0 lo, ev y with
    | some te, some l, some (.int _ h) =>
      match maxD ev h mx with
      | some m => some (.slice (cs.drop (l.toNat * te.size)) (h.toNat - l.toNat), decide (0 ≤ l ∧ l ≤ h ∧ h ≤ m ∧ m ≤ (n : Int)))
      | none => none
    | _, _, _ => none
  | _, _, _ => none
/-- 'x[:]' of a local array, which is shared from then on. -/
def sliceA (T : TypeId → Option TI) (ev : Operand → Option DV) (lc : Nat → Option (List DV)) (t : TypeId) (x : Operand) (lo hi mx : Option Operand) : Option (DV × Nat) :=
  match lo, hi, mx, T t, ev x with
  | none, none, none, some { arr := some (m, e), .. }, some (.loc n off) =>
    match T e, lc n with
    | some te, some cs => some (.slice ((cs.drop off).take (m * te.size)) m, n)
    | _, _ => none
  | _, _, _, _, _ => none
/-- A value of one cell. -/
def DV.one : DV → Bool
  | .any | .agg _ | .tup _ | .loc _ _ => false
  | _ => true
/-- A row's elements, filled. -/
def fillRow (sz : Nat) : List DV → List (Nat × DV) → Option (List DV)
  | cs, [] => some cs
  | cs, (i, d) :: rest => if d.firm && d.cells.length == sz && decide (i * sz + sz ≤ cs.length) then fillRow sz (fillAt cs (i * sz) d.cells) rest else none
/-- The cells of a new row. -/
def freshRow (zs : List DV) : Nat → List DV
  | 0 => []
  | n + 1 => zs ++ freshRow zs n
/-- What is known of a row's cells, as a list. -/
def rowOf (mu : Mu) (b off k : Nat) : List DV := (List.range k).map fun o => (mu b (off + o)).getD .any
/-- Others' cells when the row b, of k cells, goes on as n. -/
def appMu (mu : Mu) (b k n : Nat) (cs : List DV) : Mu := fun c o => if c = n then (if o < k then mu b o else cs[o - k]?) else if c = b then none else mu c o

/-- Others' cells with a new row. -/
def makeMu (mu : Mu) (n l sz : Nat) (zs : List DV) : Mu := fun b o => if b = n then (if o < l * sz then zs[o % sz]? else none) else mu b o
/-- Whole numbers of one kind, the one behind the other. -/
def foldInt (g : Int → Int → Int) (k : IntKind) : Int → List DV → Option DV
  | x, [] => some (.int k x)
  | x, .int k' y :: ds => if k = k' then foldInt g k (g x y) ds else none
  | _, _ => none
/-- The bytes of a row of cells, as a string. -/
def u8s : List DV → Option (List Int)
  | [] => some []
  | .int .u8 k :: ds => (u8s ds).map (k :: ·)
  | _ => none
def strOf (ns : List Int) : ByteArray := ⟨⟨ns.map fun n => UInt8.ofNat n.toNat⟩⟩
/-- Where a key stands, among whole numbers; nothing: that isn't told. -/
def keyAt (k : IntKind) (n : Int) : List DV → Nat → Option (Option Nat)
  | [], _ => some none
  | .int k' m :: ks, i => if k = k' then (if n == m then some (some i) else keyAt k n ks (i + 1)) else none
  | _, _ => none
/-- A map's entries with a key put. -/
def putEnts (ks vs : List DV) (k : IntKind) (n : Int) (d : DV) : Option (List DV × List DV) :=
  match keyAt k n ks 0 with
  | some (some j) => some (ks.set j (.int k n), vs.set j d)
  | some none => some (ks ++ [.int k n], vs ++ [d])
  | none => none
/-- A value, as it reads. -/
def ofVal : Value → Option DV
  | .agg cs => (cs.toList.mapM ofConst).map .agg
  | v => ofConst v
/-- What a map's entry reads as; z: where there is none. -/
def lookD (ok : Bool) (z : DV) (ks vs : List DV) (k : IntKind) (n : Int) : Option DV :=
  match keyAt k n ks 0 with
  | some (some j) => (vs[j]?).map fun d => if ok then .tup [d, .bool true] else d
  | some none => some (if ok then .tup [z, .bool false] else z)
  | none => none
def putD (ks vs : List DV) (k : IntKind) (n : Int) (d : DV) : Option DV := (putEnts ks vs k n d).map fun p => .ents p.1 p.2
/-- An operation on a map. -/
def mapOp (T : TypeId → Option TI) (ev : Operand → Option DV) (mu : Mu) (op : Op) (say : Option Told) : Option (DV × Eff × List Ob) :=
  match op with
  | .makeMap t none =>
    match T t, say with
    | some { mp := some _, .. }, some { fresh := [n], pend := false, .. } => some (.mref n, { mu := some (updMu mu n 0 [.ents [] []]), use := [n] }, [])
    | some { mp := some _, .. }, none => some (.emap, {}, [])
    | _, _ => none
  | .makeChan t x =>
    match T t, ev x, say with
    | some { ch := true, .. }, some (.int _ c), some { fresh := [n], pend := false, .. } => some (.cref n, { mu := some (updMu mu n 0 [.boxd c.toNat []]), use := [n] }, [.eq (decide (0 ≤ c ∧ c ≤ 1000000000)) true])
    | _, _, _ => none
  | .lookup t x i ok =>
    match T t, ev x, ev i with
    | some { mp := some (kt, zv), .. }, some (.mref n), some (.int k key) =>
      match T kt, ofVal zv, say with
      | some { kind := some _, .. }, some z, some { d := .tup [.ents ks vs, r], .. } => some (r, {}, [.part (mu n 0) (.ents ks vs), .part (lookD ok z ks vs k key) r])
      | _, _, _ => none
    | some { mp := some (kt, zv), .. }, some .emap, some (.int _ _) =>
      match T kt, ofVal zv, say with
      | some { kind := some _, .. }, some z, none => some (if ok then .tup [z, .bool false] else z, {}, [])
      | _, _, _ => none
    | some { mp := some (kt, zv), .. }, some .nilm, some (.int _ _) =>
      match T kt, ofVal zv, say with
      | some { kind := some _, .. }, some z, none => some (if ok then .tup [z, .bool false] else z, {}, [])
      | _, _, _ => none
    | _, _, _ => none
  | .mapUpdate t x i v =>
    match T t, ev x, ev i, ev v with
    | some { mp := some (kt, _), .. }, some (.mref n), some (.int k key), some d =>
      if d.firm then
        match T kt, say with
        | some { kind := some _, .. }, some { d := .tup [.ents ks vs, .ents ks' vs'], .. } => some (.any, { mu := some (updMu mu n 0 [.ents ks' vs']) }, [.part (mu n 0) (.ents ks vs), .part (putD ks vs k key d) (.ents ks' vs')])
        | _, _ => none
      else none
    | _, _, _, _ => none
  | .range t x =>
    match T t, ev x, say with
    | some { mp := some _, .. }, some .emap, none => some (.miter, {}, [])
    | _, _, _ => none
  | .next x false =>
    match ev x, say with
    | some .miter, none => some (.tup [.bool false], {}, [])
    | _, _ => none
  | _ => none
/-- An operation that writes no variable: its value, what it does besides, the duty that it leaves, whether it may have written captured variables. 'say': a call's result. -/
def monoOp (T : TypeId → Option TI) (ev : Operand → Option DV) (lc : Nat → Option (List DV)) (le : Nat → Option TypeId) (mu : Mu) (o : Oper) (say : Option Told) : Option (DV × Eff × List Ob × Bool) :=
  let pureV (d : Option DV) : Option (DV × Eff × List Ob × Bool) := d.map fun d => (d, {}, [], false)
  match o.op with
  | .move x | .assign x => pureV (ev x)
  | .pick c a b =>
    match ev c, say with
    | some (.bool t), some { d := .bool y, .. } => (if y then ev a else ev b).map fun d => (d, {}, [.eq t y], false)
    | _, _ => none
  | .box el x =>
    match ev x, say with
    | some d, none => if d.firm then some (.loc (o.dst.getD 0) 0, { new := some d.cells, el := el }, [], false) else none
    | some d, some { fresh := [n], pend := false, .. } => if d.firm then some (.adr n 0, { mu := some (updMu mu n 0 d.cells), use := [n] }, [], false) else none
    | some d, some { fresh := [n], pend := true, .. } => if d.firm then some (.adr n 0, { new := some d.cells, el := el, use := [n], pend := some n }, [], false) else none
    | _, _ => none
  | .alloc t =>
    match T t with
    | some { zero := some z, .. } =>
      match z.mapM ofConst, say with
      | some cs, none => some (.loc (o.dst.getD 0) 0, { new := some cs, el := t }, [], false)
      | some cs, some { fresh := [n], pend := false, .. } => some (.adr n 0, { mu := some (updMu mu n 0 cs), use := [n] }, [], false)
      | some cs, some { fresh := [n], pend := true, .. } => some (.adr n 0, { new := some cs, el := t, use := [n], pend := some n }, [], false)
      | _, _ => none
    | _ => none
  | .buildSlice t len parts =>
    match T t, evPairs ev parts.toList with
    | some { elem := some e, .. }, some ps =>
      match T e with
      | some { zero := some _, size := sz, .. } =>
        if decide (len * sz ≤ 16777216) then
          match fillRow sz (List.replicate (len * sz) .any) ps with
          | some cs =>
            match say with
            | some { fresh := [n], pend := false, .. } => some (.vec n 0 len sz, { mu := some (updMu mu n 0 cs), use := [n] }, [.eq (decide (cs.length = len * sz)) true], false)
            | some { fresh := [n], pend := true, .. } => some (.vec n 0 len sz, { new := some cs, el := e, use := [n], pend := some n }, [.eq (decide (cs.length = len * sz)) true], false)
            | _ => some (if len = 0 then .nils else .slice cs len, {}, [], false)
          | none => none
        else none
      | _ => none
    | _, _ => none
  | .makeSlice t x y =>
    match T t, ev x, ev y, say with
    | some { elem := some e, .. }, some (.int _ l), some (.int _ c), some { fresh := [n], pend := pd, .. } =>
      match T e with
      | some { zero := some z, size := sz, room := true, .. } =>
        match z.mapM ofConst with
        | some zs => if z.length = sz then (if pd then some (.vec n 0 l.toNat sz, { new := some (freshRow zs l.toNat), el := e, use := [n], pend := some n }, [.eq (decide (0 ≤ l ∧ l = c ∧ l ≤ 1000000000)) true], false) else some (.vec n 0 l.toNat sz, { mu := some (fun b o => if b = n then (if o < l.toNat * sz then zs[o % sz]? else none) else mu b o), use := [n] }, [.eq (decide (0 ≤ l ∧ l = c ∧ l ≤ 1000000000)) true], false)) else none
        | none => none
      | _ => none
    | _, _, _, _ => none
  | .build t parts =>
    match T t with
    | some { zero := some z, fields := some fs, .. } =>
      match z.mapM ofConst, evPairs ev parts.toList with
      | some cs, some ps => if fs.all (fun f => (T f.2).isSome) then pureV ((fillIn T fs cs ps).map .agg) else none
      | _, _ => none
    | some { zero := some z, arr := some (_, e), .. } =>
      match T e, z.mapM ofConst, evPairs ev parts.toList with
      | some te, some cs, some ps => pureV ((fillRow te.size cs ps).map .agg)
      | _, _, _ => none
    | _ => none
  | .load t a =>
    match T t, ev a with
    | some ti, some .spot => if ti.agg && ti.size == 0 then pureV (some (.agg [])) else none
    | some ti, some (.loc n off) => (match lc n with | some cs => pureV (partOf ti cs off) | none => none)
    | some ti, some (.ptr cs) =>
      match say with
      | some x => some (x.d, {}, [.part (partOf ti cs 0) x.d], false)
      | none => pureV (partOf ti cs 0)
    | some ti, some (.adr b off) =>
      match say with
      | some x => if x.d.firm && (ti.agg == x.d.isAgg) && x.d.cells.length == ti.size && x.d.cells.all DV.plain then some (x.d, {}, cellObs mu b off x.d.cells, false) else none
      | none => none
    | _, _ => none
  | .nilCheck x =>
    match ev x with
    | some (.adr b off) => pureV (some (.adr b off))
    | some (.ptr cs) => pureV (some (.ptr cs))
    | _ => none
  | .binOp op t x y _ =>
    match nilD T ev op t x y with
    | some b => pureV (some (.bool b))
    | none =>
    match divD ev op x y with
    | some (d, b) => some (d, {}, [.eq b true], false)
    | none => pureV (binD T ev op t x y)
  | .unOp op _ x => (match ev x with | some d => pureV (unOf op d) | none => none)
  | .convert s t x =>
    match T s, T t, ev x with
    | some _, some { kind := some k, .. }, some (.int _ n) => pureV (some (.int k (k.wrap n)))
    | some { elem := some e, .. }, some { cmp := some [2], agg := false, .. }, some (.slice cs n) =>
      match T e, u8s (cs.take n) with
      | some { kind := some .u8, .. }, some ns => if ns.length = n then pureV (some (.str (strOf ns))) else none
      | _, _ => none
    | some { elem := some e, .. }, some { cmp := some [2], agg := false, .. }, some (.vec b off n _) =>
      match T e, say with
      | some { kind := some .u8, .. }, some { d := .agg ds, .. } =>
        match u8s ds with
        | some ns => if ns.length = n then some (.str (strOf ns), {}, cellObs mu b off ds, false) else none
        | none => none
      | _, _ => none
    | some { elem := some e, .. }, some { cmp := some [2], agg := false, .. }, some .nils =>
      match T e with
      | some { kind := some .u8, .. } => pureV (some (.str (strOf [])))
      | _ => none
    | _, _, _ => none
  | .makeFunc (.func f) first captured =>
    if first.size = 0 then
      match evAll ev captured.toList with
      | some ds =>
        match captures lc ds with
        | some (cs, ls) => some (.func f cs, { frz := ls }, [], false)
        | none => none
      | none => none
    else if captured.size = 0 then
      match evAll ev first.toList with
      | some ds => if ds.all DV.noLoc then some (.bnd f ds, {}, [], false) else none
      | none => none
    else none
  | .fieldAddr s x i =>
    match T s, ev x with
    | some { fields := some fs, .. }, some d =>
      match fs[i]? with
      | some (off, t) =>
        match T t with
        | some ti => if ti.size = 0 then
            match d with
            | .loc n _ =>
              match (le n).bind T with
              | some te => if te.bytes && te.size != 0 then pureV (some .spot) else none
              | none => none
            | _ => none
          else
          match d with
          | .loc n o => pureV (some (.loc n (o + off)))
          | .ptr cs => pureV (some (.ptr (cs.drop off)))
          | .adr b o => pureV (some (.adr b (o + off)))
          | _ => none
        | none => none
      | none => none
    | _, _ => none
  | .field s x i =>
    match T s, ev x with
    | some { fields := some fs, .. }, some (.agg cs) =>
      match fs[i]? with
      | some (off, t) => (match T t with | some ti => pureV (partOf ti cs off) | none => none)
      | none => none
    | _, _ => none
  | .indexAddr t x i =>
    match T t, ev x, ev i with
    | some { elem := some e, .. }, some (.slice cs n), some (.int _ k) =>
      match T e with
      | some te => some (.ptr (cs.drop (k.toNat * te.size)), {}, [.eq (decide (0 ≤ k ∧ k < (n : Int))) true], false)
      | none => none
    | some { elem := some e, .. }, some (.vec b off n _), some (.int _ k) =>
      match T e with
      | some te => some (.adr b (off + k.toNat * te.size), {}, [.eq (decide (0 ≤ k ∧ k < (n : Int))) true], false)
      | none => none
    | some { arr := some (m, e), .. }, some (.loc n off), some (.int _ k) =>
      match T e with
      | some te => some (.loc n (off + k.toNat * te.size), {}, [.eq (decide (0 ≤ k ∧ k < (m : Int))) true], false)
      | none => none
    | _, _, _ => none
  | .index t x i =>
    match T t, ev x, ev i with
    | some { arr := some (m, e), .. }, some (.agg cs), some (.int _ k) =>
      match T e with
      | some te => (partOf te cs (k.toNat * te.size)).map fun d => (d, {}, [.eq (decide (0 ≤ k ∧ k < (m : Int))) true], false)
      | none => none
    | some { cmp := some [2], agg := false, .. }, some (.str s), some (.int _ k) => some (.int .u8 (byteD s k.toNat), {}, [.eq (decide (0 ≤ k ∧ k < (lenS s : Int))) true], false)
    | _, _, _ => none
  | .slice t x lo hi mx =>
    match sliceA T ev lc t x lo hi mx with
    | some (d, n) => some (d, { frz := [n] }, [], false)
    | none => ((sliceD T ev t x lo hi mx).or ((sliceV T ev t x lo hi mx).or ((sliceS T ev t x lo hi mx).or (sliceF T ev t x lo hi mx)))).map fun (d, b) => (d, {}, [.eq b true], false)
  | .extract x i =>
    match ev x with
    | some (.tup ds) => pureV ds[i]?
    | _ => none
  | .call { callee := .value f, args := args, .. } =>
    match ev f, evAll ev args.toList, say with
    | some (.func g caps), some ds, some x =>
      if ds.all DV.noLoc && x.d.noLoc then some (x.d, { mu := x.mu, use := x.fresh }, [.call g (ds ++ caps) mu x.d (x.mu.getD mu) x.dirty x.fresh], x.dirty) else none
    | some (.bnd g fs), some ds, some x =>
      if ds.all DV.noLoc && x.d.noLoc then some (x.d, { mu := x.mu, use := x.fresh }, [.call g (fs ++ ds) mu x.d (x.mu.getD mu) x.dirty x.fresh], x.dirty) else none
    | _, _, _ => none
  | .call { callee := .builtin .len, args := args, argTypes := ts } =>
    match args.toList, ts[0]?.bind T with
    | [x], some { elem := some _, .. } => (match ev x with | some (.slice _ n) => pureV (some (.int .i64 n)) | some (.vec _ _ n _) => pureV (some (.int .i64 n)) | some .nils => pureV (some (.int .i64 0)) | _ => none)
    | [x], some { cmp := some [2], agg := false, .. } => (match ev x with | some (.str s) => pureV (some (.int .i64 (lenS s))) | _ => none)
    | _, _ => none
  | .call { callee := .builtin .max, args := args, .. } => (match evAll ev args.toList with | some (.int k x :: ds) => pureV (foldInt (fun x y => if y > x then y else x) k x ds) | _ => none)
  | .call { callee := .builtin .min, args := args, .. } => (match evAll ev args.toList with | some (.int k x :: ds) => pureV (foldInt (fun x y => if y < x then y else x) k x ds) | _ => none)
  | .call { callee := .builtin .append, args := args, argTypes := ts } =>
    match args.toList, ts.toList, say with
    | [x, y], [t, t'], some { fresh := [n], pend := false, .. } =>
      if t = t' then
        match T t with
        | some { elem := some e, .. } =>
          match T e with
          | some { zero := some zl, size := sz, room := true, .. } =>
            match ev x, ev y with
            | some .nils, some (.slice cs m) => if zl.length = sz then some (.vec n 0 m sz, { mu := some (appMu mu n 0 n cs), use := [n] }, [.eq (decide (0 < m ∧ m ≤ 1000000000 ∧ cs.length = m * sz)) true, .eq (cs.all DV.one) true], false) else none
            | some (.vec b 0 l sz'), some (.slice cs m) => if sz' = sz ∧ 0 < sz ∧ zl.length = sz then some (.vec n 0 (l + m) sz, { mu := some (appMu mu b (l * sz) n cs), use := [n] }, [.eq (decide (0 < l ∧ l + m ≤ 1000000000 ∧ cs.length = m * sz)) true, .eq (cs.all DV.one) true, .eq ((List.range (l * sz)).all fun o => (mu b o).isSome) true], false) else none
            | some .nils, some (.vec b off m sz') => if sz' = sz ∧ zl.length = sz then some (.vec n 0 m sz, { mu := some (appMu mu n 0 n (rowOf mu b off (m * sz))), use := [n] }, [.eq (decide (0 < m ∧ m ≤ 1000000000)) true, .eq ((List.range (m * sz)).all fun o => (mu b (off + o)).isSome) true], false) else none
            | _, _ => none
          | _ => none
        | _ => none
      else none
    | _, _, _ => none
  | .makeMap t r => (mapOp T ev mu (.makeMap t r) say).map fun r => (r.1, r.2.1, r.2.2, false)
  | .makeChan t x => (mapOp T ev mu (.makeChan t x) say).map fun r => (r.1, r.2.1, r.2.2, false)
  | .lookup t x i ok => (mapOp T ev mu (.lookup t x i ok) say).map fun r => (r.1, r.2.1, r.2.2, false)
  | .mapUpdate t x i v => (mapOp T ev mu (.mapUpdate t x i v) say).map fun r => (r.1, r.2.1, r.2.2, false)
  | .range t x => (mapOp T ev mu (.range t x) say).map fun r => (r.1, r.2.1, r.2.2, false)
  | .next x b => (mapOp T ev mu (.next x b) say).map fun r => (r.1, r.2.1, r.2.2, false)
  | _ => none

/-- What an operation takes of the script. -/
def takes (ev : Operand → Option DV) (o : Oper) (script : List Say) : Option Told × List Say :=
  match o.op, script with
  | .call { callee := .value _, .. }, .res d b :: r => (some { d := d, dirty := b }, r)
  | .call { callee := .value _, .. }, .resM d m b fs :: r => (some { d := d, dirty := b, mu := some m, fresh := fs }, r)
  | .load _ a, .val d :: r => (match ev a with | some (.ptr _) | some (.adr _ _) => (some { d := d }, r) | _ => (none, script))
  | .load _ a, .pass :: r => (match ev a with | some (.ptr _) | some (.adr _ _) => (none, r) | _ => (none, script))
  | .convert _ _ x, .val d :: r => (match ev x with | some (.vec _ _ _ _) => (some { d := d }, r) | _ => (none, script))
  | .lookup _ x _ _, .val d :: r => (match ev x with | some (.mref _) => (some { d := d }, r) | _ => (none, script))
  | .mapUpdate _ _ _ _, .val d :: r => (some { d := d }, r)
  | .makeMap _ _, .name n :: r => (some { d := .any, fresh := [n] }, r)
  | .makeMap _ _, .pass :: r => (none, r)
  | .makeChan _ _, .name n :: r => (some { d := .any, fresh := [n] }, r)
  | .pick _ _ _, .way y :: r => (some { d := .bool y }, r)
  | .alloc _, .pass :: r | .box _ _, .pass :: r | .buildSlice _ _ _, .pass :: r => (none, r)
  | .alloc _, .name n :: r | .box _ _, .name n :: r | .makeSlice _ _ _, .name n :: r | .call { callee := .builtin .append, .. }, .name n :: r => (some { d := .any, fresh := [n] }, r)
  | .buildSlice _ _ _, .sname n pd :: r => (some { d := .any, fresh := [n], pend := pd }, r)
  | .alloc _, .pend n :: r | .box _ _, .pend n :: r | .makeSlice _ _ _, .pend n :: r => (some { d := .any, fresh := [n], pend := true }, r)
  | _, _ => (none, script)

def look (lo : List (Nat × Bool × List DV)) (n : Nat) : Option (Bool × List DV) :=
  match lo with
  | [] => none
  | (m, x) :: rest => if m = n then some x else look rest n
def elOf (el : List (Nat × TypeId)) (n : Nat) : Option TypeId :=
  match el with
  | [] => none
  | (m, t) :: rest => if m = n then some t else elOf rest n
def lcOf (lo : List (Nat × Bool × List DV)) (n : Nat) : Option (List DV) := (look lo n).map (·.2)
/-- The type of a local variable's block. -/
def St.le1 (s : St) (n : Nat) : Option TypeId := if (look s.lo n).isSome then elOf s.el n else none
def St.ev (s : St) : Operand → Option DV
  | .tmp t => s.tm[t]?
  | .const v => ofConst v
  | .func f => some (.func f [])
  | .global _ => none
def freezeIn (ls : List Nat) : List (Nat × Bool × List DV) → List (Nat × Bool × List DV)
  | [] => []
  | (m, fr, cs) :: rest => (m, fr || ls.contains m, cs) :: freezeIn ls rest
def setIn (n : Nat) (cs : List DV) : List (Nat × Bool × List DV) → List (Nat × Bool × List DV)
  | [] => []
  | (m, fr, ds) :: rest => if m = n then (m, fr, cs) :: rest else (m, fr, ds) :: setIn n cs rest
/-- What is still known of a value when captured variables may have been written. -/
def DV.wash : DV → DV
  | .int k n => .int k n
  | .bool b => .bool b
  | .str s => .str s
  | .nilp => .nilp
  | .nilf => .nilf
  | .loc n o => .loc n o
  | .adr b o => .adr b o
  | .vec b o n z => .vec b o n z
  | .spot => .spot
  | .nils => .nils
  | .tup [] => .tup []
  | _ => .any
/-- Of a local variable that is shared with a closure nothing is known then. -/
def DV.washT (lo : List (Nat × Bool × List DV)) : DV → DV
  | .loc n o => (match look lo n with | some (false, _) => .loc n o | _ => .any)
  | d => d.wash
def DV.washC (d : DV) : DV := if d.noLoc then d.wash else .any
def washIn : List (Nat × Bool × List DV) → List (Nat × Bool × List DV)
  | [] => []
  | (m, fr, cs) :: rest => if fr then washIn rest else (m, fr, cs.map DV.washC) :: washIn rest
def putTm (tm : List DV) (dst : Option Tmp) (d : DV) : List DV :=
  match dst with
  | some t => tm.set t d
  | none => tm
/-- The names that are free behind a use. -/
def offUse (use free : List Nat) : List Nat := match use with | [] => free | _ :: _ => free.filter (fun n => !use.contains n)
theorem mem_offUse {use free : List Nat} {n : Nat} (h : n ∈ offUse use free) : n ∈ free ∧ (!use.contains n) = true := by
  unfold offUse at h
  split at h
  · exact ⟨h, rfl⟩
  · exact List.mem_filter.1 h
theorem mem_offUse_of {use free : List Nat} {n : Nat} (h : n ∈ free) (h' : (!use.contains n) = true) : n ∈ offUse use free := by
  unfold offUse
  split
  · exact h
  · exact List.mem_filter.2 ⟨h, h'⟩
/-- What an operation that writes no variable makes of the state. -/
def St.apply (s : St) (o : Oper) (d : DV) (e : Eff) (dirty : Bool) : Option St :=
  if dirty then
    (if e.new.isNone && e.frz.isEmpty && d.noLoc then some { tm := putTm (s.tm.map (DV.washT s.lo)) o.dst d, lo := washIn s.lo, dirty := true, mu := e.mu.getD s.mu, el := s.el, free := offUse e.use s.free, pend := [] } else none)
  else
    match e.new with
    | none => some { tm := putTm s.tm o.dst d, lo := freezeIn e.frz s.lo, dirty := s.dirty, mu := e.mu.getD s.mu, el := s.el, free := offUse e.use s.free, pend := s.pend }
    | some cs =>
      match o.dst with
      | some n => if (look s.lo n).isNone then some { tm := putTm s.tm o.dst d, lo := (n, false, cs) :: freezeIn e.frz s.lo, dirty := s.dirty, mu := e.mu.getD s.mu, el := (n, e.el) :: s.el, free := offUse e.use s.free, pend := (match e.pend with | some g => [(n, g)] | none => []) ++ s.pend.filter (fun p => p.1 != n) } else none
      | none => none
/-- A store into a local variable that is not shared, or into others' cells. -/
def storeOp (T : TypeId → Option TI) (s : St) (o : Oper) : Option (St × List Ob) :=
  match o.op with
  | .store t a x =>
    match T t, s.ev a, s.ev x with
    | some ti, some (.loc n off), some d =>
      match look s.lo n with
      | some (false, cs) =>
        if d.firm && d.cells.all DV.one && d.cells.length == ti.size && decide (off + d.cells.length ≤ cs.length) && o.dst.isNone then
          some ({ s with lo := setIn n (fillAt cs off d.cells) s.lo }, [])
        else none
      | _ => none
    | some ti, some (.adr b off), some d =>
      if d.firm && d.cells.all DV.one && d.cells.length == ti.size && o.dst.isNone then
        some ({ s with mu := updMu s.mu b off d.cells }, someObs s.mu b off d.cells)
      else none
    | _, _, _ => none
  | _ => none

/-- What is left of the script, the state, the duties. -/
structure Out where
  st : St
  script : List Say
  obs : List Ob
  loud : Bool := false
  wr : Bool := false
  sens : Bool := false
  fl : List (Bool × Bool) := []

/-- A guard's way is asked of the script, when it is a Boolean. -/
def guardOf (ops : Array Oper) (tm : List DV) (o : Oper) (script : List Say) : Option (Bool × List Say × List Ob) :=
  match o.guard with
  | none => some (true, script, [])
  | some (j, want) =>
    match (ops[j]?).bind (·.dst) with
    | none => none
    | some t =>
      match tm[t]?, script with
      | some (.bool b), .way y :: rest => some (y == want, rest, [.eq b y])
      | some (.tup []), _ => some (false, script, [])
      | _, _ => none

def isStore : Op → Bool
  | .store .. => true
  | _ => false
/-- Which local variable a store of a piece is to. -/
def guess (ops : Array Oper) (s : St) (q : Nat) : Option Nat :=
  match ops[q]? with
  | some { op := .store _ (.tmp t) _, .. } => (match s.tm[t]? with | some (.loc n _) => some n | _ => some t)
  | _ => none
/-- A store that writes all of the local variable n. -/
def storeFull (mine : Option Nat) (s : St) (o : Oper) : Bool :=
  match o.op with
  | .store _ a x =>
    match s.ev a, s.ev x with
    | some (.loc n off), some d => o.guard.isNone && mine == some n && off == 0 && (match look s.lo n with | some (_, cs) => d.cells.length == cs.length | none => false)
    | _, _ => false
  | _ => false
def lcH (hide : List Nat) (lo : List (Nat × Bool × List DV)) (n : Nat) : Option (List DV) := if hide.contains n then none else lcOf lo n
def St.leH (s : St) (hide : List Nat) (n : Nat) : Option TypeId := if hide.contains n then none else s.le1 n
/-- A store into others' cells. -/
def storeAdr (s : St) (o : Oper) : Bool :=
  match o.op with
  | .store _ a _ => (match s.ev a with | some (.adr _ _) => true | _ => false)
  | _ => false
/-- Does an operation look at others' cells? -/
def sensOp (ev : Operand → Option DV) (o : Oper) : Bool :=
  match o.op with
  | .load _ a => (match ev a with | some (.adr _ _) => true | _ => false)
  | .call { callee := .value _, .. } => true
  | .convert _ _ x => (match ev x with | some (.vec _ _ _ _) => true | _ => false)
  | .lookup _ _ _ _ | .mapUpdate _ _ _ _ | .range _ _ | .next _ _ => true
  | _ => false
/-- The names that an operation uses are free. -/
def useObs (e : Eff) (free : List Nat) : List Ob :=
  match e.mu with
  | some _ => [.eq (e.use.all fun n => free.contains n) true]
  | none => (match e.use, e.pend with | [], _ => [] | l, some _ => [.eq (l.all fun n => free.contains n) true] | _, none => [.eq false true])
/-- One operation. 'hide': the local variables that a piece of several operations stores to; 'mine': the one that this store is to. -/
def stepI (T : TypeId → Option TI) (ops : Array Oper) (hide : List Nat) (mine : Option Nat) (i : Nat) (s : St) (script : List Say) : Option Out :=
  match ops[i]? with
  | none => none
  | some o =>
    if o.dst.all (fun t => decide (t < s.tm.length)) then
      match guardOf ops s.tm o script with
      | none => none
      | some (false, rest, obs) => some ⟨{ s with tm := putTm s.tm o.dst (.tup []) }, rest, obs, false, false, false, []⟩
      | some (true, rest, obs) =>
        if isStore o.op then (storeOp T s o).map fun x => ⟨x.1, rest, obs ++ x.2, !storeFull mine s o && !storeAdr s o, storeAdr s o, storeAdr s o, []⟩
        else
          match monoOp T s.ev (lcH hide s.lo) (s.leH hide) s.mu o (takes s.ev o rest).1 with
          | some (d, e, ob, dirty) => (s.apply o d e dirty).map fun s' => ⟨s', (takes s.ev o rest).2, obs ++ (ob ++ useObs e s.free), dirty, e.wr, sensOp s.ev o || e.wr, []⟩
          | none => none
    else none

def runOps (T : TypeId → Option TI) (ops : Array Oper) (hide : List Nat) (g : Nat → Option Nat) : List Nat → St → List Say → Option Out
  | [], s, script => some ⟨s, script, [], false, false, false, []⟩
  | i :: rest, s, script =>
    match stepI T ops hide (g i) i s script with
    | none => none
    | some r =>
      match runOps T ops hide g rest r.st r.script with
      | none => none
      | some q => some ⟨q.st, q.script, r.obs ++ q.obs, r.loud || q.loud, false, false, (r.wr, r.sens) :: q.fl⟩

/-- The operations that an operation waits for, as bits. -/
def maskOf (acc : List Nat) : List Edge → Nat
  | [] => 0
  | e :: es => (if Region.binds .any e then 2 ^ e.on ||| acc.getD e.on 0 else 0) ||| maskOf acc es
def masks : List Oper → List Nat → List Nat
  | [], acc => acc
  | o :: os, acc => masks os (acc ++ [maskOf acc o.after.toList])
/-- Does each operation from s on wait for all ahead of s? -/
def isCut (ms : List Nat) (n s : Nat) : Bool := (List.range' s (n - s)).all fun i => (List.range s).all fun j => (ms.getD i 0).testBit j
/-- The pieces of a region: all of a piece waits for all of the pieces ahead of it. -/
def pieces (ms : List Nat) (n : Nat) : List (Nat × Nat) :=
  let cuts := (List.range (n - 1)).filterMap fun c => if isCut ms n (c + 1) then some (c + 1) else none
  (0 :: cuts).zip (cuts ++ [n])
/-- Within a piece of several operations each writes a temporary of its own, looks at such ones alone as it waits for. -/
def pieceOk (ops : Array Oper) (s e : Nat) : Bool :=
  (List.range' s (e - s)).all fun i =>
    match ops[i]? with
    | none => false
    | some o =>
      (List.range' s (e - s)).all fun j =>
        j == i ||
        match (ops[j]?).bind (·.dst) with
        | none => true
        | some t => o.dst != some t && (!((o.looksAt ops).contains t) || (decide (j < i) && o.after.any fun e => e.on == j && Region.binds .any e))
def edgesOk (ops : Array Oper) : Bool :=
  (List.range ops.size).all fun i =>
    match ops[i]? with
    | none => false
    | some o => o.after.all fun e => !Region.binds .any e || decide (e.on < i)
/-- No two stores of a piece are to one local variable. -/
def guessOk (ops : Array Oper) (st : St) (s e : Nat) : Bool :=
  (List.range' s (e - s)).all fun i => (List.range' s (e - s)).all fun j => i == j || guess ops st i == none || guess ops st i != guess ops st j
/-- What writes others' cells, and what looks at them, or writes them: each waits for the ones ahead of it. 'fl': of each operation of the piece from a on, whether it writes them, whether it looks at them or writes them. -/
def flOk (ms : List Nat) (a : Nat) (fl : List (Bool × Bool)) : Bool :=
  (List.range fl.length).all fun k => (List.range k).all fun i =>
    match fl[i]?, fl[k]? with
    | some (wi, si), some (wk, sk) => !((wi || wk) && si && sk) || (ms.getD (a + k) 0).testBit (a + i)
    | _, _ => true
def dropLo (drops : List Nat) : List (Nat × Bool × List DV) → List (Nat × Bool × List DV)
  | [] => []
  | (n, x) :: rest => if drops.contains n then dropLo drops rest else (n, x) :: dropLo drops rest
def dropEl (drops : List Nat) : List (Nat × TypeId) → List (Nat × TypeId)
  | [] => []
  | (n, x) :: rest => if drops.contains n then dropEl drops rest else (n, x) :: dropEl drops rest
/-- A new block that has a name is known by it. -/
def pub1 (s : St) (p : Nat × Nat) : St :=
  match look s.lo p.1 with
  | some (false, cs) => if s.tm.all (fun d => match d with | .loc m _ => m != p.1 | _ => true) then { s with lo := dropLo [p.1] s.lo, el := dropEl [p.1] s.el, mu := updMu s.mu p.2 0 cs } else s
  | _ => s
def pubAll : List (Nat × Nat) → St → St
  | [], s => s
  | p :: ps, s => pubAll ps (pub1 s p)
def publish (s : St) : St := { pubAll s.pend s with pend := [] }
/-- The pieces one behind the other. -/
def runPieces (T : TypeId → Option TI) (ops : Array Oper) (ms : List Nat) : List (Nat × Nat) → St → List Say → Option Out
  | [], s, script => some ⟨s, script, [], false, false, false, []⟩
  | (a, b) :: ps, s, script =>
    if b == a + 1 then
      match runOps T ops [] (fun _ => none) (List.range' a (b - a)) s script with
      | none => none
      | some r =>
        match runPieces T ops ms ps (publish r.st) r.script with
        | none => none
        | some q => some ⟨q.st, q.script, r.obs ++ q.obs, false, false, false, []⟩
    else
      match runOps T ops ((List.range' a (b - a)).filterMap (guess ops s)) (guess ops s) (List.range' a (b - a)) s script with
      | none => none
      | some r =>
        if !r.loud && pieceOk ops a b && guessOk ops s a b && flOk ms a r.fl && s.pend.isEmpty then
          match runPieces T ops ms ps (publish r.st) r.script with
          | none => none
          | some q => some ⟨q.st, q.script, r.obs ++ q.obs, false, false, false, []⟩
        else none

/-- Something is forgotten of a state: temporaries, local variables. -/
def forgetTm : List Bool → List DV → List DV
  | true :: m, d :: ds => d :: forgetTm m ds
  | false :: m, _ :: ds => .any :: forgetTm m ds
  | _, ds => ds
def St.forget (mask : List Bool) (drops : List Nat) (s : St) : St := { s with tm := forgetTm mask s.tm, lo := dropLo drops s.lo, el := dropEl drops s.el }
def locsOk (s : St) : Bool := s.tm.all fun d => match d with | .loc n _ => (look s.lo n).isSome | _ => true
/-- A part of a code: false: the first part, true: the second one. -/
def codeAt : List Bool → Code → Code
  | [], c => c
  | false :: p, .seq a _ => codeAt p a
  | true :: p, .seq _ b => codeAt p b
  | false :: p, .cond _ a _ => codeAt p a
  | true :: p, .cond _ _ b => codeAt p b
  | _ :: p, .block _ c => codeAt p c
  | _ :: p, .loop c => codeAt p c
  | _, _ => .skip

structure Fin where
  way : Way
  st : St
  script : List Say
  obs : List Ob

def runCode (T : TypeId → Option TI) : Code → St → List Say → Option Fin
  | .skip, s, script => some ⟨.normal, s, script, []⟩
  | .label _, s, script => some ⟨.normal, s, script, []⟩
  | .ret, s, script => some ⟨.ret, s, script, []⟩
  | .exit id, s, script => some ⟨.exit id, s, script, []⟩
  | .region _ ops draw, s, script =>
    if draw then
      if edgesOk ops then
        match runPieces T ops (masks ops.toList []) (pieces (masks ops.toList []) ops.size) s script with
        | some r => some ⟨.normal, r.st, r.script, r.obs⟩
        | none => none
      else none
    else
      match runOps T ops [] (fun _ => none) (List.range ops.size) s script with
      | some r => some ⟨.normal, r.st, r.script, r.obs⟩
      | none => none
  | .seq a b, s, script =>
    match runCode T a s script with
    | some ⟨.normal, s', script', obs⟩ =>
      match runCode T b s' script' with
      | some r => some { r with obs := obs ++ r.obs }
      | none => none
    | r => r
  | .cond c a b, s, script =>
    match s.ev c, script with
    | some (.bool t), .way y :: rest =>
      if y then (match runCode T a s rest with | some r => some { r with obs := .eq t y :: r.obs } | none => none)
      else (match runCode T b s rest with | some r => some { r with obs := .eq t y :: r.obs } | none => none)
    | _, _ => none
  | .block id c, s, script =>
    match runCode T c s script with
    | some ⟨.exit j, s', script', obs⟩ => if j = id then some ⟨.normal, s', script', obs⟩ else some ⟨.exit j, s', script', obs⟩
    | r => r
  | .loop c, s, script =>
    match script with
    | .loop mask drops w s' :: rest => if locsOk (s.forget mask drops) then some ⟨w, s', rest, [.code (.loop c) (s.forget mask drops) w s']⟩ else none
    | _ => none
  | _, _, _ => none

def resultOf (T : TypeId → Option TI) (s : St) : ResultVar → Option DV
  | .tmp t => (match s.tm[t]? with | some d => if d.noLoc then some d else none | none => none)
  | .cell t ty =>
    match s.tm[t]?, T ty with
    | some (.loc n off), some ti => (match lcOf s.lo n with | some cs => partOf ti cs off | none => none)
    | _, _ => none
def resultsOf (T : TypeId → Option TI) (s : St) : List ResultVar → Option (List DV)
  | [] => some []
  | r :: rs =>
    match resultOf T s r, resultsOf T s rs with
    | some d, some ds => some (d :: ds)
    | _, _ => none
def oneOf : List DV → DV
  | [d] => d
  | ds => .tup ds

/-- A function's body, from its arguments on: its result, what is known of others' cells, whether captured variables may have been written, the duties. -/
def runBody (T : TypeId → Option TI) (fn : Func) (args : List DV) (mu : Mu) (fresh : List Nat) (script : List Say) : Option (DV × Mu × Bool × List Ob) :=
  match fn.body with
  | none => none
  | some c =>
    match runCode T c { tm := args ++ List.replicate (fn.ntmps - args.length) (.tup []), lo := [], mu := mu, free := fresh } script with
    | some ⟨.normal, s, _, obs⟩ | some ⟨.ret, s, _, obs⟩ =>
      match resultsOf T s fn.results.toList with
      | some ds => some (oneOf ds, s.mu, s.dirty, obs)
      | none => none
    | _ => none

end Go.Proofs.YtpckjfncecoibaaGreat.Fun
