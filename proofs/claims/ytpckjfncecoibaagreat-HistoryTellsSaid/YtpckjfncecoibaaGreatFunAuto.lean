/- The evaluator by itself: it takes its script from what it sees. Calls are gone into, loops are gone round; a script is asked only where a Boolean is not known. -/
import Derived.Test.YtpckjfncecoibaaGreatFunBody
namespace Go.Proofs.YtpckjfncecoibaaGreat.Fun
open Go
set_option linter.unusedSimpArgs false
set_option linter.unusedVariables false
/-- A table by numbers. -/
inductive Tab (α : Type) where
  | leaf
  | node (k : Nat) (v : α) (l r : Tab α)
def Tab.get {α : Type} : Tab α → Nat → Option α
  | .leaf, _ => none
  | .node k v l r, t => (match Nat.beq t k with | true => some v | false => (match Nat.blt t k with | true => l.get t | false => r.get t))
def Tab.all {α : Type} (p : Nat → α → Prop) : Tab α → Prop
  | .leaf => True
  | .node k v l r => p k v ∧ l.all p ∧ r.all p
theorem Tab.all_get {α : Type} {p : Nat → α → Prop} : ∀ {t : Tab α}, t.all p → ∀ k v, t.get k = some v → p k v
  | .leaf, _, _, _, h => by simp [Tab.get] at h
  | .node k v l r, ⟨h1, h2, h3⟩, j, u, h => by
    simp only [Tab.get] at h
    split at h
    · rename_i he; cases h; rw [Nat.eq_of_beq_eq_true he]; exact h1
    · split at h
      · exact Tab.all_get h2 j u h
      · exact Tab.all_get h3 j u h
/-- Others' cells: not looked at, or all of them, block by block. -/
inductive Mem where
  | hid (m : Mu) (n : Nat)
  | rows (h : List (List DV))
def rowsMu (h : List (List DV)) : Mu := fun b o => (h[b]?).bind (·[o]?)
def Mem.mu : Mem → Mu
  | .hid m _ => m
  | .rows h => rowsMu h
def Mem.size : Mem → Nat
  | .hid _ n => n
  | .rows h => h.length
def names (m m' : Mem) : List Nat := List.range' m.size (m'.size - m.size)
structure ASt where
  tm : List DV
  lo : List (Nat × Bool × List DV)
  dirty : Bool := false
  mem : Mem
  el : List (Nat × TypeId) := []
  pend : List (Nat × Nat) := []
def ASt.st (s : ASt) (F : List Nat) : St := { tm := s.tm, lo := s.lo, dirty := s.dirty, mu := s.mem.mu, el := s.el, free := F, pend := s.pend }
/-- What is asked for: a way; nothing: it is seen; what a call comes to; a call that is gone into. -/
inductive SayB where
  | way (b : Bool)
  | seen
  | res (d : DV)
  | go
  | duty
  | resM (d : DV) (m : Mu) (n : Nat)
  | val (d : DV)
abbrev Sc := List SayB
def decideA (b : Bool) : Sc → Bool × List Ob × Sc
  | .way y :: r => (y, [.eq b y], r)
  | .seen :: r => (b, [], r)
  | sc => (b, [], sc)
def guardA (ops : Array Oper) (tm : List DV) (o : Oper) (sc : Sc) : Option (Bool × List Ob × Sc) :=
  match o.guard with
  | none => some (true, [], sc)
  | some (j, want) =>
    match (ops[j]?).bind (·.dst) with
    | none => none
    | some t =>
      match tm[t]? with
      | some (.bool b) => (match decideA b sc with | (y, ob, r) => some (y == want, ob, r))
      | some (.tup []) => some (false, [], sc)
      | _ => none
structure SayA where
  told : Option Told := none
  mem : Mem
  obs : List Ob := []
  sc : Sc
abbrev Orc := FuncId → List DV → Mem → Sc → Option (DV × Mem × Bool × Bool × List Ob × Sc)
/-- What an operation is told, and others' cells behind it. -/
def sayA (T : TypeId → Option TI) (orc : Orc) (named : Tmp → Bool) (pd : Bool) (ev : Operand → Option DV) (mem : Mem) (o : Oper) (sc : Sc) : Option SayA :=
  match o.op with
  | .call { callee := .value f, args := args, .. } =>
    match ev f, evAll ev args.toList with
    | some (.func g caps), some ds =>
      match orc g (ds ++ caps) mem sc with
      | some (d, mem', dirty, true, obs, sc') => some { told := some { d := d, dirty := dirty, mu := some mem'.mu, fresh := names mem mem' }, mem := mem', obs := obs, sc := sc' }
      | some (d, _, dirty, false, obs, sc') => some { told := some { d := d, dirty := dirty }, mem := mem, obs := obs, sc := sc' }
      | none => none
    | some (.bnd g fs), some ds =>
      match orc g (fs ++ ds) mem sc with
      | some (d, mem', dirty, true, obs, sc') => some { told := some { d := d, dirty := dirty, mu := some mem'.mu, fresh := names mem mem' }, mem := mem', obs := obs, sc := sc' }
      | some (d, _, dirty, false, obs, sc') => some { told := some { d := d, dirty := dirty }, mem := mem, obs := obs, sc := sc' }
      | none => none
    | _, _ => none
  | .load t a =>
    match T t, ev a with
    | some ti, some (.adr b off) =>
      match mem with
      | .rows h =>
        match h[b]? with
        | some cs => if off + ti.size ≤ cs.length ∧ (ti.agg = true ∨ ti.size = 1) then some { told := some { d := if ti.agg then .agg ((cs.drop off).take ti.size) else cs.getD off .any }, mem := mem, sc := sc } else none
        | none => none
      | .hid _ _ => (match sc with | .val d :: r => some { told := some { d := d }, mem := mem, obs := cellObs mem.mu b off d.cells, sc := r } | _ => none)
    | _, _ => some { mem := mem, sc := sc }
  | .convert _ _ x =>
    match ev x with
    | some (.vec b off n _) =>
      match mem with
      | .rows h =>
        match h[b]? with
        | some cs => some { told := some { d := .agg ((cs.drop off).take n) }, mem := mem, sc := sc }
        | none => none
      | .hid _ _ => (match sc with | .val d :: r => some { told := some { d := d }, mem := mem, obs := cellObs mem.mu b off d.cells, sc := r } | _ => none)
    | _ => some { mem := mem, sc := sc }
  | .pick c _ _ =>
    match ev c with
    | some (.bool b) => (match decideA b sc with | (y, ob, r) => some { told := some { d := .bool y }, mem := mem, obs := ob, sc := r })
    | _ => none
  | .alloc t =>
    if named (o.dst.getD 0) then
      match mem, T t with
      | .rows h, some { zero := some z, .. } => (match z.mapM ofConst with | some cs => some { told := some { d := .any, fresh := [h.length], pend := pd }, mem := .rows (h ++ [if pd then [] else cs]), sc := sc } | none => none)
      | .hid m n, some { zero := some z, .. } => (match z.mapM ofConst with | some cs => some { told := some { d := .any, fresh := [n], pend := pd }, mem := .hid (if pd then m else updMu m n 0 cs) (n + 1), sc := sc } | none => none)
      | _, _ => none
    else some { mem := mem, sc := sc }
  | .box _ x =>
    if named (o.dst.getD 0) then
      match mem, ev x with
      | .rows h, some d => some { told := some { d := .any, fresh := [h.length], pend := pd }, mem := .rows (h ++ [if pd then [] else d.cells]), sc := sc }
      | .hid m n, some d => some { told := some { d := .any, fresh := [n], pend := pd }, mem := .hid (if pd then m else updMu m n 0 d.cells) (n + 1), sc := sc }
      | _, _ => none
    else some { mem := mem, sc := sc }
  | .buildSlice t len parts =>
    if named (o.dst.getD 0) then
      match mem, T t, evPairs ev parts.toList with
      | .rows h, some { elem := some e, .. }, some ps =>
        match T e with
        | some { size := sz, .. } => (match fillRow sz (List.replicate (len * sz) .any) ps with | some cs => some { told := some { d := .any, fresh := [h.length], pend := pd }, mem := .rows (h ++ [if pd then [] else cs]), sc := sc } | none => none)
        | none => none
      | _, _, _ => none
    else some { mem := mem, sc := sc }
  | .makeSlice t x _ =>
    match mem, T t, ev x with
    | .rows h, some { elem := some e, .. }, some (.int _ l) =>
      match T e with
      | some { zero := some z, .. } => (match z.mapM ofConst with | some zs => some { told := some { d := .any, fresh := [h.length], pend := pd }, mem := .rows (h ++ [if pd then [] else freshRow zs l.toNat]), sc := sc } | none => none)
      | _ => none
    | .hid m n, some { elem := some e, .. }, some (.int _ l) =>
      match T e with
      | some { zero := some z, size := sz, .. } => (match z.mapM ofConst with | some zs => some { told := some { d := .any, fresh := [n], pend := pd }, mem := .hid (if pd then m else makeMu m n l.toNat sz zs) (n + 1), sc := sc } | none => none)
      | _ => none
    | _, _, _ => none
  | .call { callee := .builtin .append, args := args, argTypes := ts } =>
    match mem, args.toList, ts.toList with
    | .rows h, [x, y], [t, _] =>
      match T t, ev x, ev y with
      | some _, some .nils, some (.slice cs _) => some { told := some { d := .any, fresh := [h.length] }, mem := .rows (h ++ [cs]), sc := sc }
      | some _, some .nils, some (.vec b off m sz) => some { told := some { d := .any, fresh := [h.length] }, mem := .rows (h ++ [rowOf (rowsMu h) b off (m * sz)]), sc := sc }
      | some { elem := some e, .. }, some (.vec b 0 l _), some (.slice cs _) =>
        match T e, h[b]? with
        | some te, some row => some { told := some { d := .any, fresh := [h.length] }, mem := .rows (h.set b [] ++ [row.take (l * te.size) ++ cs]), sc := sc }
        | _, _ => none
      | _, _, _ => none
    | .hid m n, [x, y], [_, _] =>
      match ev x, ev y with
      | some .nils, some (.slice cs _) => some { told := some { d := .any, fresh := [n] }, mem := .hid (appMu m n 0 n cs) (n + 1), sc := sc }
      | some .nils, some (.vec b off k sz) => some { told := some { d := .any, fresh := [n] }, mem := .hid (appMu m n 0 n (rowOf m b off (k * sz))) (n + 1), sc := sc }
      | some (.vec b 0 l sz), some (.slice cs _) => some { told := some { d := .any, fresh := [n] }, mem := .hid (appMu m b (l * sz) n cs) (n + 1), sc := sc }
      | _, _ => none
    | _, _, _ => none
  | .lookup t x i ok =>
    match ev x with
    | some (.mref n) =>
      match mem with
      | .rows h =>
        match h[n]?, ev i, (T t).bind (·.mp) with
        | some [.ents ks vs], some (.int k key), some (_, zv) =>
          match ofVal zv with
          | some z => (match lookD ok z ks vs k key with | some r => some { told := some { d := .tup [.ents ks vs, r] }, mem := mem, sc := sc } | none => none)
          | none => none
        | _, _, _ => none
      | .hid m _ => (match sc with | .val (.tup [.ents ks vs, r]) :: rest => some { told := some { d := .tup [.ents ks vs, r] }, mem := mem, obs := (match ev i, (T t).bind (·.mp) with | some (.int k key), some (_, zv) => (match ofVal zv with | some z => [.part (m n 0) (.ents ks vs), .part (lookD ok z ks vs k key) r] | none => []) | _, _ => []), sc := rest } | _ => none)
    | _ => some { mem := mem, sc := sc }
  | .mapUpdate _ x i v =>
    match ev x, ev i, ev v with
    | some (.mref n), some (.int k key), some d =>
      match mem with
      | .rows h => (match h[n]? with | some [.ents ks vs] => (match putEnts ks vs k key d with | some (ks', vs') => some { told := some { d := .tup [.ents ks vs, .ents ks' vs'] }, mem := .rows (h.set n [.ents ks' vs']), sc := sc } | none => none) | _ => none)
      | .hid m z => (match sc with | .val (.tup [.ents ks vs, .ents ks' vs']) :: r => some { told := some { d := .tup [.ents ks vs, .ents ks' vs'] }, mem := .hid (updMu m n 0 [.ents ks' vs']) z, obs := [.part (m n 0) (.ents ks vs), .part (putD ks vs k key d) (.ents ks' vs')], sc := r } | _ => none)
    | _, _, _ => none
  | .makeMap _ _ =>
    if named (o.dst.getD 0) then
      match mem with
      | .rows h => some { told := some { d := .any, fresh := [h.length] }, mem := .rows (h ++ [[.ents [] []]]), sc := sc }
      | .hid m n => some { told := some { d := .any, fresh := [n] }, mem := .hid (updMu m n 0 [.ents [] []]) (n + 1), sc := sc }
    else some { mem := mem, sc := sc }
  | .makeChan _ x =>
    match ev x with
    | some (.int _ c) =>
      match mem with
      | .rows h => some { told := some { d := .any, fresh := [h.length] }, mem := .rows (h ++ [[.boxd c.toNat []]]), sc := sc }
      | .hid m n => some { told := some { d := .any, fresh := [n] }, mem := .hid (updMu m n 0 [.boxd c.toNat []]) (n + 1), sc := sc }
    | _ => none
  | _ => some { mem := mem, sc := sc }
def eqsOk (obs : List Ob) : Bool := obs.all fun o => match o with | .eq a b => a == b | _ => true
def isPick : Op → Bool
  | .pick _ _ _ => true
  | _ => false
def applyA (s : ASt) (o : Oper) (d : DV) (e : Eff) (dirty : Bool) (mem : Mem) : Option ASt :=
  ((s.st []).apply o d e dirty).map fun s' => { tm := s'.tm, lo := s'.lo, dirty := s'.dirty, mem := mem, el := s'.el, pend := s'.pend }
/-- Others' cells behind a store. -/
def memStore (s : ASt) (o : Oper) : Option Mem :=
  match o.op with
  | .store _ a x =>
    match (s.st []).ev a, (s.st []).ev x with
    | some (.adr b off), some d =>
      match s.mem with
      | .rows h => (h[b]?).map fun row => .rows (h.set b (fillAt row off d.cells))
      | .hid m n => some (.hid (updMu m b off d.cells) n)
    | _, _ => some s.mem
  | _ => some s.mem
structure OutA where
  st : ASt
  sc : Sc
  obs : List Ob
  loud : Bool := false
  wr : Bool := false
  sens : Bool := false
  fl : List (Bool × Bool) := []
  ever : Bool := false
def stepA (T : TypeId → Option TI) (orc : Orc) (named : Tmp → Bool) (pd : Bool) (ops : Array Oper) (hide : List Nat) (mine : Option Nat) (i : Nat) (s : ASt) (sc : Sc) : Option OutA :=
  match ops[i]? with
  | none => none
  | some o =>
    if o.dst.all (fun t => decide (t < s.tm.length)) then
      match guardA ops s.tm o sc with
      | none => none
      | some (false, ob, r) => some ⟨{ s with tm := putTm s.tm o.dst (.tup []) }, r, ob, false, false, false, [], false⟩
      | some (true, ob, r) =>
        if isStore o.op then
          match storeOp T (s.st []) o, memStore s o with
          | some (s', ob'), some mem' =>
            match ob', r with
            | .eq _ _ :: _, .duty :: r' => some ⟨{ tm := s'.tm, lo := s'.lo, dirty := s'.dirty, mem := mem', el := s'.el, pend := s'.pend }, r', ob ++ ob', !storeFull mine (s.st []) o && !storeAdr (s.st []) o, storeAdr (s.st []) o, storeAdr (s.st []) o, [], storeAdr (s.st []) o⟩
            | _, _ =>
            if eqsOk ob' then some ⟨{ tm := s'.tm, lo := s'.lo, dirty := s'.dirty, mem := mem', el := s'.el, pend := s'.pend }, r, ob, !storeFull mine (s.st []) o && !storeAdr (s.st []) o, storeAdr (s.st []) o, storeAdr (s.st []) o, [], storeAdr (s.st []) o⟩ else none
          | _, _ => none
        else
          match sayA T orc named pd (s.st []).ev s.mem o r with
          | none => none
          | some y =>
            match monoOp T (s.st []).ev (lcH hide s.lo) ((s.st []).leH hide) s.mem.mu o y.told with
            | some (d, e, ob', dirty) =>
              match isPick o.op, ob', y.sc with
              | false, .eq _ _ :: _, .duty :: r' => (applyA s o d e dirty y.mem).map fun s' => ⟨s', r', ob ++ (y.obs ++ ob'), dirty, e.wr, sensOp (s.st []).ev o || e.wr, [], e.mu.isSome || !e.use.isEmpty⟩
              | _, _, _ =>
              if isPick o.op || eqsOk ob' then (applyA s o d e dirty y.mem).map fun s' => ⟨s', y.sc, ob ++ y.obs, dirty, e.wr, sensOp (s.st []).ev o || e.wr, [], e.mu.isSome || !e.use.isEmpty⟩
              else none
            | none => none
    else none
def runOpsA (T : TypeId → Option TI) (orc : Orc) (named : Tmp → Bool) (pd : Bool) (ops : Array Oper) (hide : List Nat) (g : Nat → Option Nat) : List Nat → ASt → Sc → Option OutA
  | [], s, sc => some ⟨s, sc, [], false, false, false, [], false⟩
  | i :: rest, s, sc =>
    match stepA T orc named pd ops hide (g i) i s sc with
    | none => none
    | some r =>
      match runOpsA T orc named pd ops hide g rest r.st r.sc with
      | none => none
      | some q => some ⟨q.st, q.sc, r.obs ++ q.obs, r.loud || q.loud, false, false, (r.wr, r.sens) :: q.fl, r.ever || q.ever⟩
/-- Does each operation from s on wait for all ahead of s? At once, on the bits. -/
def isCutF (ms : List Nat) (s : Nat) : Bool := (ms.drop s).all fun m => Nat.beq (Nat.land m (2 ^ s - 1)) (2 ^ s - 1)
theorem land_full (m s : Nat) : Nat.beq (Nat.land m (2 ^ s - 1)) (2 ^ s - 1) = (List.range s).all fun j => m.testBit j := by
  rw [Bool.eq_iff_iff, List.all_eq_true]
  constructor
  · intro h j hj
    have h := Nat.eq_of_beq_eq_true h
    have := congrArg (fun x : Nat => x.testBit j) h
    simp only [show Nat.land m (2 ^ s - 1) = m &&& (2 ^ s - 1) from rfl, Nat.testBit_and, Nat.testBit_two_pow_sub_one, List.mem_range.1 hj, decide_true, Bool.and_true] at this
    exact this
  · intro h
    have : Nat.land m (2 ^ s - 1) = 2 ^ s - 1 := by
      apply Nat.eq_of_testBit_eq
      intro j
      rw [show Nat.land m (2 ^ s - 1) = m &&& (2 ^ s - 1) from rfl, Nat.testBit_and, Nat.testBit_two_pow_sub_one]
      by_cases hj : j < s
      · simp [hj, h j (List.mem_range.2 hj)]
      · simp [hj]
    rw [this]; exact Nat.beq_refl _
theorem isCutF_eq (ms : List Nat) (s : Nat) : isCutF ms s = isCut ms ms.length s := by
  unfold isCutF isCut
  rw [Bool.eq_iff_iff, List.all_eq_true, List.all_eq_true]
  constructor
  · intro h i hi
    obtain ⟨h1, h2⟩ := List.mem_range'_1.1 hi
    have hlt : i < ms.length := by omega
    have := h ms[i] (by
      rw [List.mem_iff_getElem?]
      exact ⟨i - s, by rw [List.getElem?_drop, show s + (i - s) = i by omega]; exact List.getElem?_eq_getElem hlt⟩)
    rw [land_full] at this
    rw [List.getD_eq_getElem?_getD, List.getElem?_eq_getElem hlt]
    exact this
  · intro h m hm
    obtain ⟨k, hk⟩ := List.mem_iff_getElem?.1 hm
    rw [List.getElem?_drop] at hk
    have hlt := (List.getElem?_eq_some_iff.1 hk).1
    have := h (s + k) (List.mem_range'_1.2 ⟨by omega, by omega⟩)
    rw [List.getD_eq_getElem?_getD, hk] at this
    rw [land_full]; exact this
def piecesF (ms : List Nat) (n : Nat) : List (Nat × Nat) :=
  let cuts := (List.range (n - 1)).filterMap fun c => if isCutF ms (c + 1) then some (c + 1) else none
  (0 :: cuts).zip (cuts ++ [n])
theorem piecesF_eq (ms : List Nat) : piecesF ms ms.length = pieces ms ms.length := by
  unfold piecesF pieces
  simp only [isCutF_eq]
/-- The new blocks' cells are known by their names. -/
def pub1A (s : ASt) (p : Nat × Nat) : Option ASt :=
  match look s.lo p.1 with
  | some (false, cs) =>
    if s.tm.all (fun d => match d with | .loc m _ => m != p.1 | _ => true) then
      match s.mem with
      | .rows h => (match h[p.2]? with | some [] => some { s with lo := dropLo [p.1] s.lo, el := dropEl [p.1] s.el, mem := .rows (h.set p.2 cs) } | _ => none)
      | .hid m n => some { s with lo := dropLo [p.1] s.lo, el := dropEl [p.1] s.el, mem := .hid (updMu m p.2 0 cs) n }
    else some s
  | _ => some s
def pubAllA : List (Nat × Nat) → ASt → Option ASt
  | [], s => some s
  | p :: ps, s => (match pub1A s p with | some s' => pubAllA ps s' | none => none)
def publishA (s : ASt) : Option ASt :=
  match s.pend with
  | [] => some s
  | ps => (pubAllA ps s).map fun s' => { s' with pend := [] }
def runPiecesA (T : TypeId → Option TI) (orc : Orc) (named : Tmp → Bool) (ops : Array Oper) (ms : List Nat) : List (Nat × Nat) → ASt → Sc → Option OutA
  | [], s, sc => some ⟨s, sc, [], false, false, false, [], false⟩
  | (a, b) :: ps, s, sc =>
    if b == a + 1 then
      match runOpsA T orc named false ops [] (fun _ => none) (List.range' a (b - a)) s sc with
      | none => none
      | some r =>
        match publishA r.st with
        | none => none
        | some p =>
        match runPiecesA T orc named ops ms ps p r.sc with
        | none => none
        | some q => some ⟨q.st, q.sc, r.obs ++ q.obs, false, false, false, [], r.ever || !r.st.pend.isEmpty || q.ever⟩
    else
      match runOpsA T orc named true ops ((List.range' a (b - a)).filterMap (guess ops (s.st []))) (guess ops (s.st [])) (List.range' a (b - a)) s sc with
      | none => none
      | some r =>
        if !r.loud && pieceOk ops a b && guessOk ops (s.st []) a b && flOk ms a r.fl && s.pend.isEmpty then
          match publishA r.st with
          | none => none
          | some p =>
          match runPiecesA T orc named ops ms ps p r.sc with
          | none => none
          | some q => some ⟨q.st, q.sc, r.obs ++ q.obs, false, false, false, [], r.ever || !r.st.pend.isEmpty || q.ever⟩
        else none
structure FinA where
  way : Way
  st : ASt
  sc : Sc
  obs : List Ob
  ever : Bool
/-- The local variables that a code makes. -/
def makes : Code → List Nat
  | .region _ ops _ => ops.toList.filterMap fun o => match o.op with | .box _ _ | .alloc _ => o.dst | _ => none
  | .seq a b => makes a ++ makes b
  | .cond _ a b => makes a ++ makes b
  | .block _ c => makes c
  | .loop c => makes c
  | .scope c => makes c
  | _ => []
def keepMask (drops : List Nat) (tm : List DV) : List Bool := tm.map fun d => match d with | .loc n _ => !drops.contains n | _ => true
def ASt.forget (s : ASt) (drops : List Nat) : ASt := { s with tm := forgetTm (keepMask drops s.tm) s.tm, lo := dropLo drops s.lo, el := dropEl drops s.el }
def loopA (run : ASt → Sc → Option FinA) (drops : List Nat) : Nat → ASt → Sc → Option FinA
  | 0, _, _ => none
  | n + 1, s, sc =>
    if locsOk ((s.forget drops).st []) then
      match run (s.forget drops) sc with
      | none => none
      | some r =>
        if r.way = .normal then
          match loopA run drops n r.st r.sc with
          | none => none
          | some q => some { q with obs := r.obs ++ q.obs, ever := r.ever || q.ever }
        else some r
    else none
def runCodeA (T : TypeId → Option TI) (orc : Orc) (named : Tmp → Bool) (rounds : Nat) : Code → ASt → Sc → Option FinA
  | .skip, s, sc => some ⟨.normal, s, sc, [], false⟩
  | .label _, s, sc => some ⟨.normal, s, sc, [], false⟩
  | .ret, s, sc => some ⟨.ret, s, sc, [], false⟩
  | .exit id, s, sc => some ⟨.exit id, s, sc, [], false⟩
  | .region _ ops draw, s, sc =>
    if draw then
      if edgesOk ops then
        match runPiecesA T orc named ops (masks ops.toList []) (piecesF (masks ops.toList []) ops.size) s sc with
        | some r => some ⟨.normal, r.st, r.sc, r.obs, r.ever⟩
        | none => none
      else none
    else
      match runOpsA T orc named false ops [] (fun _ => none) (List.range ops.size) s sc with
      | some r => some ⟨.normal, r.st, r.sc, r.obs, r.ever⟩
      | none => none
  | .seq a b, s, sc =>
    match runCodeA T orc named rounds a s sc with
    | none => none
    | some r =>
      if r.way = .normal then
        match runCodeA T orc named rounds b r.st r.sc with
        | some q => some { q with obs := r.obs ++ q.obs, ever := r.ever || q.ever }
        | none => none
      else some r
  | .cond c a b, s, sc =>
    match (s.st []).ev c with
    | some (.bool t) =>
      match decideA t sc with
      | (y, ob, r) => (if y then runCodeA T orc named rounds a s r else runCodeA T orc named rounds b s r).map fun q => { q with obs := ob ++ q.obs }
    | _ => none
  | .block id c, s, sc =>
    match runCodeA T orc named rounds c s sc with
    | none => none
    | some r => if r.way = .exit id then some { r with way := .normal } else some r
  | .loop c, s, sc => loopA (runCodeA T orc named rounds c) (makes c) rounds s sc
  | _, _, _ => none
/-- The functions: each one's text, and which of its variables bear names. -/
abbrev Fns := FuncId → Option (Func × List Tmp)
def runBodyA (T : TypeId → Option TI) (orc : Orc) (rounds : Nat) (fn : Func) (nms : List Tmp) (args : List DV) (mem : Mem) (sc : Sc) : Option (DV × Mem × Bool × Bool × List Ob × Sc) :=
  match fn.body with
  | none => none
  | some c =>
    match runCodeA T orc (fun t => nms.contains t) rounds c { tm := args ++ List.replicate (fn.ntmps - args.length) (.tup []), lo := [], mem := mem } sc with
    | none => none
    | some r =>
      if r.way = .normal ∨ r.way = .ret then
        match resultsOf T (r.st.st []) fn.results.toList with
        | some ds => some (oneOf ds, if r.ever then r.st.mem else mem, r.st.dirty, r.ever, r.obs, r.sc)
        | none => none
      else none
def deep (T : TypeId → Option TI) (fns : Fns) (rounds : Nat) : Nat → Orc
  | 0 => fun _ _ _ _ => none
  | n + 1 => fun f args mem sc =>
    match fns f with
    | some (fn, nms) => runBodyA T (deep T fns rounds n) rounds fn nms args mem sc
    | none => none
end Go.Proofs.YtpckjfncecoibaaGreat.Fun
