/- The evaluator by itself, with quick walks through its lists (printed by wip/funfast.py). -/
import Derived.Test.YtpckjfncecoibaaGreatFunPrim
namespace Go.Proofs.YtpckjfncecoibaaGreat.Fun
open Go
set_option linter.unusedSimpArgs false
set_option linter.unusedVariables false
noncomputable def getF {α : Type} (l : List α) : Nat → Option α := List.rec (motive := fun _ => Nat → Option α) (fun _ => none) (fun x _ ih n => Nat.rec (motive := fun _ => Option α) (some x) (fun m _ => ih m) n) l
noncomputable def setF {α : Type} (l : List α) (a : α) : Nat → List α := List.rec (motive := fun _ => Nat → List α) (fun _ => []) (fun x xs ih n => Nat.rec (motive := fun _ => List α) (a :: xs) (fun m _ => x :: ih m) n) l
noncomputable def hasF {α : Type} (l : List α) : Nat → Bool := List.rec (motive := fun _ => Nat → Bool) (fun _ => false) (fun _ _ ih n => Nat.rec (motive := fun _ => Bool) true (fun m _ => ih m) n) l
theorem getF_eq {α : Type} : ∀ (l : List α) (n : Nat), getF l n = l[n]?
  | [], _ => rfl
  | _ :: _, 0 => rfl
  | _ :: l, n + 1 => by rw [List.getElem?_cons_succ]; exact getF_eq l n
theorem setF_eq {α : Type} (a : α) : ∀ (l : List α) (n : Nat), setF l a n = l.set n a
  | [], _ => rfl
  | _ :: _, 0 => rfl
  | x :: l, n + 1 => by rw [List.set_cons_succ, ← setF_eq a l n]; rfl
theorem hasF_eq {α : Type} : ∀ (l : List α) (n : Nat), hasF l n = decide (n < l.length)
  | [], _ => by simp [hasF]
  | x :: l, 0 => by rw [decide_eq_true (show 0 < (x :: l).length by simp)]; rfl
  | x :: l, n + 1 => by
    have h := hasF_eq l n
    rw [show hasF (x :: l) (n + 1) = hasF l n from rfl, h]
    simp
noncomputable def forceL {α β : Type} (l : List α) : (List α → β) → β := List.rec (motive := fun _ => (List α → β) → β) (fun k => k []) (fun x _ ih k => ih fun ys => k (x :: ys)) l
theorem forceL_eq {α β : Type} : ∀ (l : List α) (k : List α → β), forceL l k = k l
  | [], _ => rfl
  | x :: l, k => forceL_eq l fun ys => k (x :: ys)
noncomputable def evF (s : ASt) : Operand → Option DV
  | .tmp t => getF s.tm t
  | .const v => ofConst v
  | .func f => some (.func f [])
  | .global _ => none
theorem evF_eq (s : ASt) : evF s = (s.st []).ev := by
  funext x
  cases x <;> simp [evF, St.ev, getF_eq, ASt.st]
noncomputable def putF (tm : List DV) (dst : Option Tmp) (d : DV) : List DV := match dst with | some t => setF tm d t | none => tm
theorem putF_eq (tm : List DV) (dst : Option Tmp) (d : DV) : putF tm dst d = putTm tm dst d := by
  cases dst <;> simp [putF, putTm, setF_eq]
theorem freezeIn_nil : ∀ (lo : List (Nat × Bool × List DV)), freezeIn [] lo = lo
  | [] => rfl
  | (m, fr, cs) :: rest => by simp [freezeIn, freezeIn_nil rest]
noncomputable def applyF (s : ASt) (o : Oper) (d : DV) (e : Eff) (dirty : Bool) (mem : Mem) : Option ASt :=
  match dirty, e.new, e.frz with
  | false, none, [] => some { s with tm := putF s.tm o.dst d, mem := mem }
  | _, _, _ => applyA s o d e dirty mem
theorem applyF_eq (s : ASt) (o : Oper) (d : DV) (e : Eff) (dirty : Bool) (mem : Mem) : applyF s o d e dirty mem = applyA s o d e dirty mem := by
  unfold applyF
  split
  · rename_i h1 h2
    simp [applyA, St.apply, h1, h2, ASt.st, freezeIn_nil, putF_eq]
  · rfl
noncomputable def guardF (ops : Array Oper) (tm : List DV) (o : Oper) (sc : Sc) : Option (Bool × List Ob × Sc) :=
  match o.guard with
  | none => some (true, [], sc)
  | some (j, want) =>
    match (getF ops.toList j).bind (·.dst) with
    | none => none
    | some t =>
      match getF tm t with
      | some (.bool b) => (match decideA b sc with | (y, ob, r) => some (y == want, ob, r))
      | some (.tup []) => some (false, [], sc)
      | _ => none
theorem guardF_eq : guardF = guardA := by
  funext ops tm o sc
  unfold guardF guardA
  simp only [getF_eq, Array.getElem?_toList]
  rfl
/-- Is there a row b, with so many cells? -/
def roomF (h : List (List DV)) (b k : Nat) : Bool := match h[b]? with | some row => Nat.ble k row.length | none => Nat.beq k 0
theorem roomF_eq (h : List (List DV)) (b k : Nat) : roomF h b k = (List.range k).all fun o => (rowsMu h b o).isSome := by
  rw [Bool.eq_iff_iff, List.all_eq_true]
  unfold roomF rowsMu
  cases hb : h[b]? with
  | none =>
    simp only [Option.bind_none, List.mem_range]
    constructor
    · intro e x hx; rw [Nat.eq_of_beq_eq_true e] at hx; omega
    · intro e
      cases k with
      | zero => rfl
      | succ k => exact absurd (e 0 (by omega)) (by simp)
  | some row =>
    simp only [Option.bind_some, List.mem_range]
    constructor
    · intro e x hx
      have := Nat.le_of_ble_eq_true e
      rw [List.getElem?_eq_getElem (by omega)]; rfl
    · intro e
      refine Nat.ble_eq_true_of_le (Nat.le_of_not_lt fun hlt => ?_)
      have := e row.length hlt
      rw [List.getElem?_eq_none (Nat.le_refl _)] at this
      cases this
/-- The append of frozen cells to a named row, at once. -/
def appQ (T : TypeId → Option TI) (ev : Operand → Option DV) (mem : Mem) (o : Oper) (say : Option Told) : Option (DV × Eff × List Ob × Bool) :=
  match o.op with
  | .call { callee := .builtin .append, args := args, argTypes := ts } =>
    match args.toList, ts.toList, say with
    | [x, y], [t, t'], some { fresh := [n], pend := false, .. } =>
      if t = t' then
        match T t with
        | some { elem := some e, .. } =>
          match T e with
          | some { zero := some zl, size := sz, room := true, .. } =>
            match ev x, ev y, mem with
            | some (.vec b 0 l sz'), some (.slice cs m), .rows h => if sz' = sz ∧ 0 < sz ∧ zl.length = sz then some (.vec n 0 (l + m) sz, { mu := some (appMu (rowsMu h) b (l * sz) n cs), use := [n] }, [.eq (decide (0 < l ∧ l + m ≤ 1000000000 ∧ cs.length = m * sz)) true, .eq (cs.all DV.one) true, .eq (roomF h b (l * sz)) true], false) else none
            | _, _, _ => none
          | _ => none
        | _ => none
      else none
    | _, _, _ => none
  | _ => none
theorem appQ_ok {T : TypeId → Option TI} {ev : Operand → Option DV} {lc : Nat → Option (List DV)} {le : Nat → Option TypeId} {mem : Mem} {o : Oper} {say : Option Told} {r} (h : appQ T ev mem o say = some r) : monoOp T ev lc le mem.mu o say = some r := by
  unfold appQ at h
  split at h
  · rename_i args ts heq
    unfold monoOp
    rw [heq]
    dsimp only
    split at h <;> first | (cases h; done) | skip
    rename_i hx ht
    rw [hx, ht]
    dsimp only
    split at h <;> first | (cases h; done) | skip
    rename_i he
    rw [if_pos he]
    split at h <;> first | (cases h; done) | skip
    rename_i hT
    rw [hT]
    dsimp only
    split at h <;> first | (cases h; done) | skip
    rename_i hE
    rw [hE]
    dsimp only
    split at h <;> first | (cases h; done) | skip
    rename_i h1 h2
    rw [h1, h2]
    rw [roomF_eq] at h
    exact h
  · cases h
noncomputable def monoF (T : TypeId → Option TI) (ev : Operand → Option DV) (lc : Nat → Option (List DV)) (le : Nat → Option TypeId) (mem : Mem) (o : Oper) (say : Option Told) : Option (DV × Eff × List Ob × Bool) :=
  match appQ T ev mem o say with
  | some r => some r
  | none => monoOp T ev lc le mem.mu o say
theorem monoF_eq {T : TypeId → Option TI} {ev : Operand → Option DV} {lc : Nat → Option (List DV)} {le : Nat → Option TypeId} {mem : Mem} {o : Oper} {say : Option Told} : monoF T ev lc le mem o say = monoOp T ev lc le mem.mu o say := by
  unfold monoF
  split
  · rename_i h; exact (appQ_ok h).symm
  · rfl
noncomputable def stepAF (T : TypeId → Option TI) (orc : Orc) (named : Tmp → Bool) (pd : Bool) (ops : Array Oper) (hide : List Nat) (mine : Option Nat) (i : Nat) (s : ASt) (sc : Sc) : Option OutA :=
  match (getF ops.toList i) with
  | none => none
  | some o =>
    if o.dst.all (fun t => hasF s.tm t) then
      match guardF ops s.tm o sc with
      | none => none
      | some (false, ob, r) => some ⟨{ s with tm := putF s.tm o.dst (.tup []) }, r, ob, false, false, false, [], false⟩
      | some (true, ob, r) =>
        if isStore o.op then
          match storeOp T (s.st []) o, memStore s o with
          | some (s', ob'), some mem' =>
            match ob', r with
            | .eq _ _ :: _, .duty :: r' => some ⟨{ tm := s'.tm, lo := s'.lo, dirty := s'.dirty, mem := mem', el := s'.el, pend := s'.pend }, r', ob ++ ob', !storeFull mine (s.st []) o && !storeAdr (s.st []) o, storeAdr (s.st []) o, storeAdr (s.st []) o, [], storeAdr (s.st []) o⟩
            | _, _ =>
            if eqsOk ob' then some ⟨{ tm := s'.tm, lo := s'.lo, dirty := s'.dirty, mem := mem', el := s'.el, pend := s'.pend }, r, ob, !storeFull mine (s.st []) o && !storeAdr (s.st []) o, storeAdr (s.st []) o, storeAdr (s.st []) o, [], storeAdr (s.st []) o⟩ else none
          | _, _ => none
        else
          match sayA T orc named pd (evF s) s.mem o r with
          | none => none
          | some y =>
            match monoF T (evF s) (lcH hide s.lo) ((s.st []).leH hide) s.mem o y.told with
            | some (d, e, ob', dirty) =>
              match isPick o.op, ob', y.sc with
              | false, .eq _ _ :: _, .duty :: r' => (applyF s o d e dirty y.mem).map fun s' => ⟨s', r', ob ++ (y.obs ++ ob'), dirty, e.wr, sensOp (evF s) o || e.wr, [], e.mu.isSome || !e.use.isEmpty⟩
              | _, _, _ =>
              if isPick o.op || eqsOk ob' then (applyF s o d e dirty y.mem).map fun s' => ⟨s', y.sc, ob ++ y.obs, dirty, e.wr, sensOp (evF s) o || e.wr, [], e.mu.isSome || !e.use.isEmpty⟩
              else none
            | none => none
    else none
theorem stepAF_eq : stepAF = stepA := by
  funext T orc named pd ops hide mine i s sc
  unfold stepAF stepA
  simp only [evF_eq, getF_eq, hasF_eq, putF_eq, applyF_eq, guardF_eq, monoF_eq, Array.getElem?_toList]
  rfl
noncomputable def runOpsAF (T : TypeId → Option TI) (orc : Orc) (named : Tmp → Bool) (pd : Bool) (ops : Array Oper) (hide : List Nat) (g : Nat → Option Nat) : List Nat → ASt → Sc → Option OutA
  | [], s, sc => some ⟨s, sc, [], false, false, false, [], false⟩
  | i :: rest, s, sc =>
    match stepAF T orc named pd ops hide (g i) i s sc with
    | none => none
    | some r =>
      match (forceL r.sc fun sc => runOpsAF T orc named pd ops hide g rest r.st sc) with
      | none => none
      | some q => some ⟨q.st, q.sc, r.obs ++ q.obs, r.loud || q.loud, false, false, (r.wr, r.sens) :: q.fl, r.ever || q.ever⟩
theorem runOpsAF_eq {T : TypeId → Option TI} {orc : Orc} {named : Tmp → Bool} {pd : Bool} {ops : Array Oper} {hide : List Nat} {g : Nat → Option Nat} : ∀ (l : List Nat) (s : ASt) (sc : Sc), runOpsAF T orc named pd ops hide g l s sc = runOpsA T orc named pd ops hide g l s sc
  | [], _, _ => rfl
  | i :: rest, s, sc => by simp only [runOpsAF, runOpsA, stepAF_eq, forceL_eq, runOpsAF_eq rest]; rfl
noncomputable def runPiecesAF (T : TypeId → Option TI) (orc : Orc) (named : Tmp → Bool) (ops : Array Oper) (ms : List Nat) : List (Nat × Nat) → ASt → Sc → Option OutA
  | [], s, sc => some ⟨s, sc, [], false, false, false, [], false⟩
  | (a, b) :: ps, s, sc =>
    if b == a + 1 then
      match runOpsAF T orc named false ops [] (fun _ => none) (List.range' a (b - a)) s sc with
      | none => none
      | some r =>
        match publishA r.st with
        | none => none
        | some p =>
        match (forceL r.sc fun sc => runPiecesAF T orc named ops ms ps p sc) with
        | none => none
        | some q => some ⟨q.st, q.sc, r.obs ++ q.obs, false, false, false, [], r.ever || !r.st.pend.isEmpty || q.ever⟩
    else
      match runOpsAF T orc named true ops ((List.range' a (b - a)).filterMap (guess ops (s.st []))) (guess ops (s.st [])) (List.range' a (b - a)) s sc with
      | none => none
      | some r =>
        if !r.loud && pieceOk ops a b && guessOk ops (s.st []) a b && flOk ms a r.fl && s.pend.isEmpty then
          match publishA r.st with
          | none => none
          | some p =>
          match (forceL r.sc fun sc => runPiecesAF T orc named ops ms ps p sc) with
          | none => none
          | some q => some ⟨q.st, q.sc, r.obs ++ q.obs, false, false, false, [], r.ever || !r.st.pend.isEmpty || q.ever⟩
        else none
theorem runPiecesAF_eq {T : TypeId → Option TI} {orc : Orc} {named : Tmp → Bool} {ops : Array Oper} {ms : List Nat} : ∀ (l : List (Nat × Nat)) (s : ASt) (sc : Sc), runPiecesAF T orc named ops ms l s sc = runPiecesA T orc named ops ms l s sc
  | [], _, _ => rfl
  | (a, b) :: ps, s, sc => by simp only [runPiecesAF, runPiecesA, runOpsAF_eq, forceL_eq, runPiecesAF_eq ps]; rfl
noncomputable def loopAF (run : ASt → Sc → Option FinA) (drops : List Nat) : Nat → ASt → Sc → Option FinA
  | 0, _, _ => none
  | n + 1, s, sc =>
    if locsOk ((s.forget drops).st []) then
      match run (s.forget drops) sc with
      | none => none
      | some r =>
        if r.way = .normal then
          match (forceL r.sc fun sc => loopAF run drops n r.st sc) with
          | none => none
          | some q => some { q with obs := r.obs ++ q.obs, ever := r.ever || q.ever }
        else some r
    else none
theorem loopAF_eq {run : ASt → Sc → Option FinA} {drops : List Nat} : ∀ (n : Nat) (s : ASt) (sc : Sc), loopAF run drops n s sc = loopA run drops n s sc
  | 0, _, _ => rfl
  | n + 1, s, sc => by simp only [loopAF, loopA, forceL_eq, loopAF_eq n]; rfl
noncomputable def runCodeAF (T : TypeId → Option TI) (orc : Orc) (named : Tmp → Bool) (rounds : Nat) : Code → ASt → Sc → Option FinA
  | .skip, s, sc => some ⟨.normal, s, sc, [], false⟩
  | .label _, s, sc => some ⟨.normal, s, sc, [], false⟩
  | .ret, s, sc => some ⟨.ret, s, sc, [], false⟩
  | .exit id, s, sc => some ⟨.exit id, s, sc, [], false⟩
  | .region _ ops draw, s, sc =>
    if draw then
      if edgesOk ops then
        match runPiecesAF T orc named ops (masks ops.toList []) (piecesF (masks ops.toList []) ops.size) s sc with
        | some r => some ⟨.normal, r.st, r.sc, r.obs, r.ever⟩
        | none => none
      else none
    else
      match runOpsAF T orc named false ops [] (fun _ => none) (List.range ops.size) s sc with
      | some r => some ⟨.normal, r.st, r.sc, r.obs, r.ever⟩
      | none => none
  | .seq a b, s, sc =>
    match runCodeAF T orc named rounds a s sc with
    | none => none
    | some r =>
      if r.way = .normal then
        match (forceL r.sc fun sc => runCodeAF T orc named rounds b r.st sc) with
        | some q => some { q with obs := r.obs ++ q.obs, ever := r.ever || q.ever }
        | none => none
      else some r
  | .cond c a b, s, sc =>
    match (evF s) c with
    | some (.bool t) =>
      match decideA t sc with
      | (y, ob, r) => (if y then runCodeAF T orc named rounds a s r else runCodeAF T orc named rounds b s r).map fun q => { q with obs := ob ++ q.obs }
    | _ => none
  | .block id c, s, sc =>
    match runCodeAF T orc named rounds c s sc with
    | none => none
    | some r => if r.way = .exit id then some { r with way := .normal } else some r
  | .loop c, s, sc => loopAF (runCodeAF T orc named rounds c) (makes c) rounds s sc
  | _, _, _ => none
theorem runCodeAF_eq {T : TypeId → Option TI} {orc : Orc} {named : Tmp → Bool} {rounds : Nat} : ∀ (c : Code), runCodeAF T orc named rounds c = runCodeA T orc named rounds c := by
  intro c
  induction c with
  | region id ops draw => funext s sc; (simp only [runCodeAF, runCodeA, runOpsAF_eq, runPiecesAF_eq]; try rfl)
  | seq a b iha ihb => funext s sc; (simp only [runCodeAF, runCodeA, forceL_eq, iha, ihb]; try rfl)
  | cond c a b iha ihb => funext s sc; (simp only [runCodeAF, runCodeA, iha, ihb, evF_eq]; try rfl)
  | block id c ih => funext s sc; (simp only [runCodeAF, runCodeA, loopAF_eq, ih]; try rfl)
  | loop c ih => funext s sc; (simp only [runCodeAF, runCodeA, loopAF_eq, ih]; try rfl)
  | _ => funext s sc; rfl
noncomputable def runBodyAF (T : TypeId → Option TI) (orc : Orc) (rounds : Nat) (fn : Func) (nms : List Tmp) (args : List DV) (mem : Mem) (sc : Sc) : Option (DV × Mem × Bool × Bool × List Ob × Sc) :=
  match fn.body with
  | none => none
  | some c =>
    match runCodeAF T orc (fun t => nms.contains t) rounds c { tm := args ++ List.replicate (fn.ntmps - args.length) (.tup []), lo := [], mem := mem } sc with
    | none => none
    | some r =>
      if r.way = .normal ∨ r.way = .ret then
        match resultsOf T (r.st.st []) fn.results.toList with
        | some ds => some (oneOf ds, if r.ever then r.st.mem else mem, r.st.dirty, r.ever, r.obs, r.sc)
        | none => none
      else none
theorem runBodyAF_eq : runBodyAF = runBodyA := by
  funext T orc rounds fn nms args mem sc
  simp only [runBodyAF, runBodyA, runCodeAF_eq]
  try rfl
noncomputable def deepF (T : TypeId → Option TI) (fns : Fns) (prims : Prims) (rounds : Nat) : Nat → Orc
  | 0 => fun _ _ _ _ => none
  | n + 1 => fun f args mem sc =>
    match (prims f).bind fun g => g args mem with
    | some r => some (r.1, r.2, false, true, [], sc)
    | none =>
      match fns f with
      | some (fn, nms) => runBodyAF T (deepF T fns prims rounds n) rounds fn nms args mem sc
      | none => none
theorem deepF_eq {T : TypeId → Option TI} {fns : Fns} {prims : Prims} {rounds : Nat} : ∀ n, deepF T fns prims rounds n = deepP T fns prims rounds n
  | 0 => rfl
  | n + 1 => by
    funext f args mem sc
    simp only [deepF, deepP, runBodyAF_eq, deepF_eq n]
    try rfl
theorem deepF_ok {P : Program} {T : TypeId → Option TI} (hT : ∀ t ti, T t = some ti → tiOf P t = some ti) (hm : P.follows .mixedOrders = true) {fns : Fns} (hfns : FnsOk P fns) {prims : Prims} (hp : PrimsOk P prims) (rounds : Nat) (n : Nat) : OrcOk P (deepF T fns prims rounds n) := by
  rw [deepF_eq]; exact deepP_ok hT hm hfns hp rounds n
end Go.Proofs.YtpckjfncecoibaaGreat.Fun
