/- The small evaluator's operations are the model's. -/
import Derived.Test.YtpckjfncecoibaaGreatFunAbs
import Derived.Laws.Cells
import Derived.Laws.Sem
namespace Go.Proofs.YtpckjfncecoibaaGreat.Fun
open Go
set_option linter.unusedSimpArgs false
set_option linter.unusedVariables false

/-- A block of which others' cells are known. -/
def Dom (ρ : Nat → Option Nat) (mu : Mu) (p : Nat) : Prop := ∃ b off d, ρ b = some p ∧ mu b off = some d
/-- What lies at a place of a block: a map's entries, a channel's buffer, or a cell. -/
def Lies (ρ : Nat → Option Nat) (S : Nat → Prop) (w : World) (p off : Nat) : DV → Prop
  | .ents ks vs => off = 0 ∧ ∃ es cl, w.heap[p]? = some (.map es cl) ∧ AbsL ρ S w ks (es.toList.map (·.key)) ∧ AbsL ρ S w vs (es.toList.map (·.val))
  | .boxd cap ds => off = 0 ∧ ∃ buf s r, w.heap[p]? = some (.chan cap buf false s r false) ∧ AbsL ρ S w ds buf.toList
  | d => w.frozen? ⟨p, off, none⟩ = false ∧ ∃ v, w.cell? ⟨p, off, none⟩ = some v ∧ Abs ρ S w d v
/-- Others' cells are as known, and may be written. -/
def MuOk (ρ : Nat → Option Nat) (S : Nat → Prop) (w : World) (mu : Mu) : Prop :=
  ∀ b off d, mu b off = some d → ∃ p, ρ b = some p ∧ ¬ S p ∧ Lies ρ S w p off d
theorem Lies.cell {ρ : Nat → Option Nat} {S : Nat → Prop} {w : World} {p off : Nat} {d : DV} (h : Lies ρ S w p off d) (hd : d.plain = true) : w.frozen? ⟨p, off, none⟩ = false ∧ ∃ v, w.cell? ⟨p, off, none⟩ = some v ∧ Abs ρ S w d v := by
  cases d <;> first | exact h | cases hd
theorem Lies.cell_in {ρ : Nat → Option Nat} {S : Nat → Prop} {w : World} {p off : Nat} {d : DV} {vs : Array Value} {e : TypeId} {fz : Nat × Nat} (h : Lies ρ S w p off d) (hb : w.heap[p]? = some (.cells vs e fz)) : w.frozen? ⟨p, off, none⟩ = false ∧ ∃ v, w.cell? ⟨p, off, none⟩ = some v ∧ Abs ρ S w d v := by
  cases d
  case ents => obtain ⟨_, _, _, h, _⟩ := h; rw [hb] at h; cases h
  case boxd => obtain ⟨_, _, _, _, h, _⟩ := h; rw [hb] at h; cases h
  all_goals exact h
theorem block_of_cell {w : World} {p o : Nat} {v : Value} (h : w.cell? ⟨p, o, none⟩ = some v) : ∃ vs e fz, w.heap[p]? = some (.cells vs e fz) := by
  unfold World.cell? at h
  split at h
  · rename_i h'; exact ⟨_, _, _, h'⟩
  · cases h
theorem Lies.of_cell {ρ : Nat → Option Nat} {S : Nat → Prop} {w : World} {p off : Nat} {d : DV} {v : Value} (hf : w.frozen? ⟨p, off, none⟩ = false) (hc : w.cell? ⟨p, off, none⟩ = some v) (ha : Abs ρ S w d v) : Lies ρ S w p off d := by
  cases d <;> first | exact ⟨hf, v, hc, ha⟩ | (simp only [Abs] at ha)
theorem Abs.plain {ρ : Nat → Option Nat} {S : Nat → Prop} {w : World} {d : DV} {v : Value} (h : Abs ρ S w d v) : d.plain = true := by
  cases d <;> first | rfl | (simp only [Abs] at h)
/-- The names: each block of which cells are known has one name that they are known by; it is there. -/
structure Named (ρ : Nat → Option Nat) (mu : Mu) (w : World) : Prop where
  inj : ∀ n m b o o', ρ n = some b → ρ m = some b → (mu n o).isSome = true → (mu m o').isSome = true → n = m
  lt : ∀ n b, ρ n = some b → b < w.heap.size

theorem lt_of_block {w : World} {b : Nat} {o : Obj} (h : w.heap[b]? = some o) : b < w.heap.size := (Array.getElem?_eq_some_iff.1 h).1
theorem lt_of_cell {w : World} {a : Addr} {v : Value} (h : w.cell? a = some v) : a.block < w.heap.size := by
  unfold World.cell? at h
  cases hb : w.heap[a.block]? with
  | none => rw [hb] at h; cases h
  | some o => exact lt_of_block hb
theorem Lies.lt {ρ : Nat → Option Nat} {S : Nat → Prop} {w : World} {p off : Nat} {d : DV} (h : Lies ρ S w p off d) : p < w.heap.size := by
  cases d
  case ents => obtain ⟨_, _, _, h, _⟩ := h; exact lt_of_block h
  case boxd => obtain ⟨_, _, _, _, h, _⟩ := h; exact lt_of_block h
  all_goals (obtain ⟨_, _, h, _⟩ := h; exact lt_of_cell h)
theorem MuOk.lt {ρ : Nat → Option Nat} {S : Nat → Prop} {w : World} {mu : Mu} (h : MuOk ρ S w mu) {b : Nat} (hb : Dom ρ mu b) : b < w.heap.size := by
  obtain ⟨n, off, d, hn, hd⟩ := hb
  obtain ⟨p, hp, _, hl⟩ := h n off d hd
  rw [hn] at hp; cases hp
  exact hl.lt
theorem MuOk.notS {ρ : Nat → Option Nat} {S : Nat → Prop} {w : World} {mu : Mu} (h : MuOk ρ S w mu) {b : Nat} (hb : Dom ρ mu b) : ¬ S b := by
  obtain ⟨n, off, d, hn, hd⟩ := hb
  obtain ⟨p, hp, hS, _⟩ := h n off d hd
  rw [hn] at hp; cases hp
  exact hS
theorem cell_same {w w' : World} {a : Addr} (h : w'.heap[a.block]? = w.heap[a.block]?) : w'.cell? a = w.cell? a := by
  unfold World.cell?; rw [h]
theorem frozen_same {w w' : World} {a : Addr} (h : w'.heap[a.block]? = w.heap[a.block]?) : w'.frozen? a = w.frozen? a := by
  unfold World.frozen?; rw [h]
theorem Lies.mono {ρ ρ' : Nat → Option Nat} {S S' : Nat → Prop} {w w' : World} {p off : Nat} {d : DV} (h : Lies ρ S w p off d) (hE : Ext ρ w ρ' w') (hw : ∀ b, S b → w'.heap[b]? = w.heap[b]?) (hS : ∀ b, S b → S' b) (hD : w'.heap[p]? = w.heap[p]?) : Lies ρ' S' w' p off d := by
  cases d
  case ents => obtain ⟨h0, es, cl, h, h1, h2⟩ := h; exact ⟨h0, es, cl, hD.trans h, AbsL.mono hE hw hS _ _ h1, AbsL.mono hE hw hS _ _ h2⟩
  case boxd => obtain ⟨h0, buf, s, r, h, h1⟩ := h; exact ⟨h0, buf, s, r, hD.trans h, AbsL.mono hE hw hS _ _ h1⟩
  all_goals
    obtain ⟨hf, v, hv, ha⟩ := h
    exact ⟨by rw [frozen_same hD]; exact hf, v, by rw [cell_same hD]; exact hv, Abs.mono hE hw hS _ v ha⟩
/-- Others' cells stay known while their blocks, and the area's, stay, and the area does not grow into them. -/
theorem MuOk.mono {ρ : Nat → Option Nat} {S S' : Nat → Prop} {w w' : World} {mu : Mu} (h : MuOk ρ S w mu) (hE : Ext ρ w ρ w') (hw : ∀ b, S b → w'.heap[b]? = w.heap[b]?) (hD : ∀ b, Dom ρ mu b → w'.heap[b]? = w.heap[b]?) (hS : ∀ b, S b → S' b) (hn : ∀ b, Dom ρ mu b → ¬ S' b) : MuOk ρ S' w' mu := by
  intro b off d hd
  obtain ⟨p, hp, _, hl⟩ := h b off d hd
  have hdom : Dom ρ mu p := ⟨b, off, d, hp, hd⟩
  exact ⟨p, hp, hn p hdom, hl.mono hE hw hS (hD p hdom)⟩

/-- What a call leaves: streams, what is outside the area and others' blocks D, the area grown. -/
structure Post (S D : Nat → Prop) (w w' : World) (S' : Nat → Prop) (dirty : Bool) : Prop where
  os : w'.os = w.os
  tape : w'.tape = w.tape
  output : w'.output = w.output
  size : w.heap.size ≤ w'.heap.size
  old : ∀ b, b < w.heap.size → ¬ S b → ¬ D b → w'.heap[b]? = w.heap[b]?
  clean : dirty = false → ∀ b, b < w.heap.size → ¬ D b → w'.heap[b]? = w.heap[b]?
  up : ∀ b, S b → S' b
  from_ : ∀ b, S' b → S b ∨ (w.heap.size ≤ b ∧ b < w'.heap.size)

/-- A call of function f with arguments that read as ds, where others' cells are as mu says, comes to a value that reads as d, and others' cells are as mu' says; 'fresh': the names that blocks of its own may bear. -/
structure CallOk (P : Program) (f : FuncId) (ds : List DV) (mu : Mu) (d : DV) (mu' : Mu) (dirty : Bool) (fresh : List Nat) : Prop where
  enters : ∃ fn, P.funcs[f]? = some fn ∧ (fn.name == "runtime.NumGoroutine") = false ∧ fn.body.isNone = false
  runs : ∀ ρ S w vs, Named ρ mu w → (∀ n ∈ fresh, ρ n = none) → (∀ b, S b → b < w.heap.size) → MuOk ρ S w mu → AbsL ρ S w ds vs → Calls P f vs.toArray w fun e w' => ∃ v S' ρ', e = .returned v ∧ Post S (Dom ρ mu) w w' S' dirty ∧
    Named ρ' mu' w' ∧ Ext ρ w ρ' w' ∧ (∀ n b, ρ' n = some b → ρ n = some b ∨ n ∈ fresh) ∧ MuOk ρ' S' w' mu' ∧ (∀ b, Dom ρ' mu' b → Dom ρ mu b ∨ w.heap.size ≤ b) ∧ Abs ρ' S' w' d v

/-- A temporary's value: a local variable's address, or what reads as d. -/
def TAbs (ι ρ : Nat → Option Nat) (S : Nat → Prop) (w : World) : DV → Value → Prop
  | .loc n off, v => ∃ b, ι n = some b ∧ v = .pointer (some ⟨b, off, none⟩)
  | d, v => Abs ρ S w d v

theorem TAbs.abs {ι ρ : Nat → Option Nat} {S : Nat → Prop} {w : World} {d : DV} {v : Value} (h : TAbs ι ρ S w d v) (hd : d.noLoc = true) : Abs ρ S w d v := by
  cases d <;> first | exact h | (simp [DV.noLoc] at hd)
theorem TAbs.of_abs {ι ρ : Nat → Option Nat} {S : Nat → Prop} {w : World} {d : DV} {v : Value} (h : Abs ρ S w d v) : TAbs ι ρ S w d v := by
  cases d <;> first | exact h | (simp only [Abs] at h)
theorem TAbs.mono {ι ι' ρ ρ' : Nat → Option Nat} {S S' : Nat → Prop} {w w' : World} (hρ : Ext ρ w ρ' w') (hw : ∀ b, S b → w'.heap[b]? = w.heap[b]?) (hS : ∀ b, S b → S' b)
    (hι : ∀ n b, ι n = some b → ι' n = some b) {d : DV} {v : Value} (h : TAbs ι ρ S w d v) : TAbs ι' ρ' S' w' d v := by
  cases d <;> first | exact Abs.mono hρ hw hS _ _ h | (obtain ⟨b, hb, rfl⟩ := h; exact ⟨b, hι _ _ hb, rfl⟩)

/-- What is kept of the world at the activation's beginning. -/
structure Kept (w0 : World) (S0 D0 : Nat → Prop) (S : Nat → Prop) (w : World) (dirty : Bool) : Prop where
  os : w.os = w0.os
  tape : w.tape = w0.tape
  output : w.output = w0.output
  size : w0.heap.size ≤ w.heap.size
  old : ∀ b, b < w0.heap.size → ¬ S0 b → ¬ D0 b → w.heap[b]? = w0.heap[b]?
  clean : dirty = false → ∀ b, b < w0.heap.size → ¬ D0 b → w.heap[b]? = w0.heap[b]?
  up : ∀ b, S0 b → S b
  from_ : ∀ b, S b → S0 b ∨ w0.heap.size ≤ b
  sane : ∀ b, S b → b < w.heap.size

/-- The evaluator's state and the model's. -/
structure Rel (w0 : World) (S0 D0 : Nat → Prop) (ρ0 : Nat → Option Nat) (F0 : List Nat) (ι ρ : Nat → Option Nat) (S : Nat → Prop) (w : World) (s : St) (a : Act) : Prop where
  len : a.tmps.size = s.tm.length
  tm : ∀ (t : Nat) (d : DV), s.tm[t]? = some d → ∃ v, a.tmps[t]? = some v ∧ TAbs ι ρ S w d v
  lo : ∀ n b, ι n = some b → ∃ fr cs vs elem, look s.lo n = some (fr, cs) ∧ w.heap[b]? = some (.cells vs elem (0, 0)) ∧ AbsL ρ S w cs vs.toList ∧ (fr = false → ¬ S b) ∧ w0.heap.size ≤ b ∧ ¬ Dom ρ s.mu b ∧ ∀ t, elOf s.el n = some t → elem = t
  inj : ∀ n m b, ι n = some b → ι m = some b → n = m
  defers : a.defers = []
  kept : Kept w0 S0 D0 S w s.dirty
  mu : MuOk ρ S w s.mu
  dom : ∀ b, Dom ρ s.mu b → D0 b ∨ w0.heap.size ≤ b
  named : Named ρ s.mu w
  free : ∀ n ∈ s.free, ρ n = none ∧ n ∈ F0
  older : Ext ρ0 w0 ρ w
  newer : ∀ n b, ρ n = some b → ρ0 n = some b ∨ n ∈ F0
  link : ∀ n g, (n, g) ∈ s.pend → (look s.lo n).isSome = true → ∃ b, ι n = some b ∧ ρ g = some b

def Way.toExit : Way → Exit
  | .normal => .normal
  | .ret => .ret
  | .exit id => .exit id
/-- A code leads from one state to another. -/
def CodeOk (P : Program) (c : Code) (s : St) (way : Way) (s' : St) : Prop :=
  ∀ {w0 : World} {S0 D0 : Nat → Prop} {ρ0 : Nat → Option Nat} {F0 : List Nat} {Q : Exit → Act → World → Prop} {ι ρ : Nat → Option Nat} {S : Nat → Prop} {w : World} {a : Act}, Rel w0 S0 D0 ρ0 F0 ι ρ S w s a →
    (∀ ι' ρ' S' w' a', Rel w0 S0 D0 ρ0 F0 ι' ρ' S' w' s' a' → Q way.toExit a' w') → c.wp P Q a w
def Ob.ok (P : Program) : Ob → Prop
  | .call f args mu d mu' dirty fresh => CallOk P f args mu d mu' dirty fresh
  | .eq a b => a = b
  | .part x d => x = some d
  | .code c s w s' => CodeOk P c s w s'

structure MonoPost (ι ρ : Nat → Option Nat) (S : Nat → Prop) (mu : Mu) (w : World) (o : Oper) (d : DV) (e : Eff) (dirty : Bool) (v : Value) (w' : World) (ι' ρ' : Nat → Option Nat) (S' : Nat → Prop) : Prop where
  os : w'.os = w.os
  tape : w'.tape = w.tape
  output : w'.output = w.output
  size : w.heap.size ≤ w'.heap.size
  old : ∀ b, b < w.heap.size → ¬ S b → ¬ Dom ρ mu b → w'.heap[b]? = w.heap[b]?
  clean : dirty = false → ∀ b, b < w.heap.size → ¬ Dom ρ mu b → w'.heap[b]? = w.heap[b]?
  up : ∀ b, S b → S' b
  from_ : ∀ b, S' b → S b ∨ (w.heap.size ≤ b ∧ b < w'.heap.size) ∨ ∃ n ∈ e.frz, ι n = some b
  val : TAbs ι' ρ' S' w' d v
  cells : MuOk ρ' S' w' (e.mu.getD mu)
  dom : ∀ b, Dom ρ' (e.mu.getD mu) b → Dom ρ mu b ∨ w.heap.size ≤ b
  same : e.new = none → ι' = ι
  new : ∀ cs, e.new = some cs → ∃ b vs, (∀ m, ι' m = if m = o.dst.getD 0 then some b else ι m) ∧ w.heap.size ≤ b ∧ b < w'.heap.size ∧ w'.heap[b]? = some (.cells vs e.el (0, 0)) ∧ AbsL ρ' S' w' cs vs.toList ∧ ¬ S' b ∧ ¬ Dom ρ' (e.mu.getD mu) b
  named : Named ρ' (e.mu.getD mu) w'
  grow : Ext ρ w ρ' w'
  back : ∀ n b, ρ' n = some b → ρ n = some b ∨ n ∈ e.use
  pend : ∀ g, e.pend = some g → ∃ b, ι' (o.dst.getD 0) = some b ∧ ρ' g = some b

theorem Named.mono {ρ : Nat → Option Nat} {mu : Mu} {w w' : World} (h : Named ρ mu w) (hs : w.heap.size ≤ w'.heap.size) : Named ρ mu w' := ⟨h.inj, fun n b hn => Nat.lt_of_lt_of_le (h.lt n b hn) hs⟩
/-- An operation that turns nothing. -/
theorem MonoPost.plain {ι ρ : Nat → Option Nat} {S : Nat → Prop} {mu : Mu} {w : World} {o : Oper} {d : DV} {v : Value} (hn : Named ρ mu w) (hm : MuOk ρ S w mu) (h : TAbs ι ρ S w d v) : MonoPost ι ρ S mu w o d {} false v w ι ρ S :=
  ⟨rfl, rfl, rfl, Nat.le_refl _, fun _ _ _ _ => rfl, fun _ _ _ _ => rfl, fun _ h => h, fun _ h => .inl h, h, hm, fun _ h => .inl h, fun _ => rfl, fun _ h => by simp at h, hn, .refl ρ w, fun _ _ h => .inl h, fun _ h => by simp at h⟩

section
variable {P : Program} {T : TypeId → Option TI} (hT : ∀ t ti, T t = some ti → tiOf P t = some ti)

theorem tiOf_spec {t : TypeId} {ti : TI} (h : tiOf P t = some ti) : ∃ i u, P.info? t = some i ∧ P.underlying t = some u ∧ ti.size = i.size ∧ ti.agg = isAggD u ∧
    ti.zero = i.zero.map (fun v => v.cells.toList) ∧ ti.fields = (match u with | .struct fs => some (fs.toList.map fun f => (f.offset, f.type)) | _ => none) ∧
    ti.elem = (match u with | .slice e => some e | _ => none) ∧ ti.kind = (match u with | .int k => some k | _ => none) ∧ ti.ptr = (match u with | .pointer _ => true | _ => false) ∧ ti.bool = (match u with | .bool => true | _ => false) ∧ ti.bytes = (decide (P.cellsOf t = i.size) && (List.range i.size).all fun k => (byteOfCell P P.depth t k).isSome) ∧ ti.room = decide (i.bytes ≤ 1024) ∧ ti.arr = (match u with | .array n e => some (n, e) | _ => none) ∧ ti.cmp = clsOf u (if P.eqGuardType P.depth t then none else cmpOf P 8 t) ∧ ti.mp = (match u with | .map k e => ((P.info? e).bind (·.zero)).map fun z => (k, z) | _ => none) := by
  unfold tiOf at h
  split at h
  · rename_i i u hi hu
    cases h
    exact ⟨i, u, hi, hu, rfl, rfl, rfl, rfl, rfl, rfl, rfl, rfl, rfl, rfl, rfl, rfl, rfl⟩
  · cases h

theorem run_under {t : TypeId} {u : TypeDesc} (h : P.underlying t = some u) (w : World) : (underlying t).run P w = .ok u w := by
  simp [underlying, program, Sem.run, h]
theorem run_info {t : TypeId} {i : TypeInfo} (h : P.info? t = some i) (w : World) : (typeInfo t).run P w = .ok i w := by
  simp [typeInfo, program, Sem.run, h]
theorem run_size {t : TypeId} {i : TypeInfo} (h : P.info? t = some i) (w : World) : (sizeOf t).run P w = .ok i.size w := by
  simp [sizeOf, run_info h]
theorem run_agg {t : TypeId} {u : TypeDesc} (h : P.underlying t = some u) (w : World) : (isAgg t).run P w = .ok (isAggD u) w := by
  unfold isAgg
  simp only [Sem.run_bind, run_under h, Result.andThen]
  cases u <;> rfl
theorem addr_add (b off j : Nat) : (⟨b, off, none⟩ : Addr).add j = ⟨b, off + j, none⟩ := by
  unfold Addr.add; split
  · subst_vars; rfl
  · rfl

theorem CellsAt.drop {w : World} {b off : Nat} {vs : List Value} (h : CellsAt w b off vs) (n : Nat) : CellsAt w b (off + n) (vs.drop n) := by
  intro j u hj
  rw [List.getElem?_drop] at hj
  rw [Nat.add_assoc]
  exact h _ _ hj
theorem CellsAt.of_block {w : World} {b : Nat} {vs : Array Value} {elem : TypeId} {fr : Nat × Nat} (h : w.heap[b]? = some (.cells vs elem fr)) : CellsAt w b 0 vs.toList := by
  intro j u hj
  simp only [World.cell?, h, Nat.zero_add]
  simpa using hj

/-- A load. -/
theorem run_loadAt {t : TypeId} {ti : TI} (ht : tiOf P t = some ti) {ρ : Nat → Option Nat} {S : Nat → Prop} {w : World} {b off : Nat} {cs : List DV} {vs : List Value} {d : DV}
    (hc : CellsAt w b off vs) (ha : AbsL ρ S w cs vs) (hp : partOf ti cs 0 = some d) :
    ∃ v, (Instr.loadAt t (.pointer (some ⟨b, off, none⟩))).run P w = .ok v w ∧ Abs ρ S w d v := by
  obtain ⟨i, u, hi, hu, hsz, hag, _⟩ := tiOf_spec ht
  unfold partOf at hp
  simp only [Instr.loadAt, Instr.sureAddr, Sem.run_bind, Sem.run_pure, Result.andThen, loadVar, run_agg hu]
  rw [hag] at hp
  cases hA : isAggD u <;> rw [hA] at hp
  · simp only [Bool.false_eq_true, if_false] at hp ⊢
    obtain ⟨v, hv, hd⟩ := ha.get hp
    have := hc _ _ hv
    exact ⟨v, by simp only [load, Sem.run, Nat.add_zero] at this ⊢; simp [this], hd⟩
  · simp only [if_true] at hp ⊢
    split at hp
    · rename_i hle
      cases hp
      refine ⟨.agg (vs.take ti.size).toArray, ?_, by simp only [Abs]; exact ⟨_, rfl, by simpa using ha.take ti.size⟩⟩
      have hl : (vs.take i.size).length = i.size := by
        rw [List.length_take, ha.length]; omega
      have := run_loadCells_list (P := P) w (⟨b, off, none⟩ : Addr) (vs.take i.size) (fun j v hj => by
        rw [addr_add]
        rw [List.getElem?_take] at hj
        split at hj
        · exact hc _ _ hj
        · cases hj)
      rw [hl] at this
      simp only [Sem.run_bind, run_size hi, Result.andThen, this, Sem.run_pure, hsz]
    · cases hp

theorem partOf_drop (ti : TI) (cs : List DV) (off : Nat) (d : DV) (h : partOf ti cs off = some d) : partOf ti (cs.drop off) 0 = some d := by
  unfold partOf at *
  split
  · rename_i hA
    rw [if_pos hA] at h
    split at h
    · rename_i hle
      cases h
      rw [if_pos (by simp; omega)]; simp
    · cases h
  · rename_i hA
    rw [if_neg hA] at h
    simpa using h
end
end Go.Proofs.YtpckjfncecoibaaGreat.Fun
