/- An operation that writes no variable: what the evaluator says of it is what the model does. -/
import Derived.Test.YtpckjfncecoibaaGreatFunOps
import Derived.Laws.AppendOwn
import Derived.Laws.MakeOwn
namespace Go.Proofs.YtpckjfncecoibaaGreat.Fun
open Go
set_option linter.unusedSimpArgs false
set_option linter.unusedVariables false
section
variable {P : Program} {T : TypeId → Option TI}

theorem updMu_get (b : Nat) : ∀ (ds : List DV) (off : Nat) (mu : Mu) (b' o : Nat), updMu mu b off ds b' o = if b' = b ∧ off ≤ o ∧ o < off + ds.length then ds[o - off]? else mu b' o
  | [], off, mu, b', o => by simp [updMu]; omega
  | d :: ds, off, mu, b', o => by
    rw [updMu, updMu_get b ds (off + 1)]
    by_cases hb : b' = b
    · subst hb
      by_cases ho : o = off
      · subst ho
        rw [if_neg (fun h => by have := h.2.1; omega), if_pos ⟨rfl, rfl⟩, if_pos ⟨rfl, Nat.le_refl _, by simp⟩]; simp
      · by_cases h1 : off + 1 ≤ o ∧ o < off + 1 + ds.length
        · rw [if_pos ⟨rfl, h1⟩, if_pos ⟨rfl, by omega, by simp; omega⟩, show o - off = (o - (off + 1)) + 1 by omega]; simp
        · rw [if_neg (fun h => h1 h.2), if_neg (fun h => ho h.2), if_neg (fun h => h1 (by have := h.2; simp at this; omega))]
    · rw [if_neg (fun h => hb h.1), if_neg (fun h => hb h.1), if_neg (fun h => hb h.1)]
def oneC : Value → Bool
  | .agg _ | .tuple _ => false
  | _ => true
theorem run_storeCells (b off : Nat) (elem : TypeId) : ∀ (us : List Value) (i : Nat) (w : World) (vs : Array Value), w.heap[b]? = some (.cells vs elem (0, 0)) → (∀ u ∈ us, oneC u = true) → off + i + us.length ≤ vs.size →
    ∃ w' vs', (storeCells (⟨b, off, none⟩ : Addr) us i).run P w = .ok () w' ∧ w'.heap[b]? = some (.cells vs' elem (0, 0)) ∧ vs'.toList = (us.zipIdx (off + i)).foldl (fun cs (x : Value × Nat) => cs.set x.2 x.1) vs.toList ∧
      (∀ k, k ≠ b → w'.heap[k]? = w.heap[k]?) ∧ w'.heap.size = w.heap.size ∧ w'.os = w.os ∧ w'.tape = w.tape ∧ w'.output = w.output
  | [], i, w, vs, h, _, _ => ⟨w, vs, rfl, h, rfl, fun _ _ => rfl, rfl, rfl, rfl, rfl⟩
  | u :: us, i, w, vs, h, hone, hl => by
    simp only [List.length_cons] at hl
    have hcell : w.cell? ⟨b, off + i, none⟩ = some (vs[off + i]'(by omega)) := by
      simp only [World.cell?, h, Option.isSome_none, Bool.false_eq_true, if_false]
      simp
    have hfz : w.frozen? ⟨b, off + i, none⟩ = false := by simp [World.frozen?, h]
    let w1 := w.setCell ⟨b, off + i, none⟩ u
    have hb : b < w.heap.size := lt_of_block h
    have h1 : w1.heap[b]? = some (.cells (vs.setIfInBounds (off + i) u) elem (0, 0)) := by
      simp only [w1, World.setCell, Array.getElem?_modify, if_true, h]
      simp
    obtain ⟨w', vs', hr, hh, hv, hk, hs, ho, ht, hp⟩ := run_storeCells b off elem us (i + 1) w1 _ h1 (fun x hx => hone x (List.mem_cons_of_mem _ hx)) (by simp; omega)
    refine ⟨w', vs', ?_, hh, ?_, fun k hk' => ?_, ?_, ho, ht, hp⟩
    · have hstore : (store (Addr.add ⟨b, off, none⟩ i) u).run P w = .ok () w1 := by
        rw [addr_add]
        have hu := hone u (by simp)
        unfold store
        cases u <;> first | (simp [oneC] at hu; done) | (simp only [Sem.run, hcell, hfz, Bool.false_eq_true, if_false]; rfl)
      simp only [storeCells, Sem.run_bind, hstore, Result.andThen]
      exact hr
    · rw [hv]
      simp only [List.zipIdx_cons, List.foldl_cons, Array.toList_setIfInBounds, Nat.add_assoc]
    · rw [hk k hk']
      simp only [w1, World.setCell, Array.getElem?_modify]
      rw [if_neg (Ne.symm hk')]
    · rw [hs]; simp [w1, World.setCell]

theorem foldl_set_length {α : Type} : ∀ (us : List (α × Nat)) (cs : List α), (us.foldl (fun cs (x : α × Nat) => cs.set x.2 x.1) cs).length = cs.length
  | [], cs => rfl
  | u :: us, cs => by rw [List.foldl_cons, foldl_set_length us]; simp
theorem Abs.oneCell {ρ : Nat → Option Nat} {S : Nat → Prop} {w : World} {d : DV} {v : Value} (h : Abs ρ S w d v) (hd : d.one = true) : oneC v = true := by
  cases d <;> simp only [Abs] at h <;> first | (simp [DV.one] at hd; done) | skip
  case ptr => obtain ⟨_, _, _, rfl, _⟩ := h; rfl
  case func => obtain ⟨_, rfl, _⟩ := h; rfl
  case bnd => obtain ⟨_, rfl, _⟩ := h; rfl
  case slice => obtain ⟨_, _, _, rfl, _⟩ := h; rfl
  case vec => obtain ⟨_, _, rfl, _⟩ := h; rfl
  case adr => obtain ⟨_, _, rfl⟩ := h; rfl
  case mref => obtain ⟨_, _, rfl⟩ := h; rfl
  case emap => obtain ⟨_, rfl, _⟩ := h; rfl
  case miter => obtain ⟨_, _, _, _, rfl, _⟩ := h; rfl
  case cref => obtain ⟨_, _, rfl⟩ := h; rfl
  case spot => obtain ⟨_, rfl⟩ := h; rfl
  case nils => obtain ⟨_, rfl⟩ := h; rfl
  all_goals (subst h; rfl)
theorem AbsL.oneCell {ρ : Nat → Option Nat} {S : Nat → Prop} {w : World} : ∀ {ds : List DV} {vs : List Value}, AbsL ρ S w ds vs → ds.all DV.one = true → ∀ v ∈ vs, oneC v = true
  | [], _, h, _, v, hv => by rw [h.nil_inv] at hv; cases hv
  | d :: ds, _, h, hd, v, hv => by
    obtain ⟨u, rest, rfl, hu, hr⟩ := h.cons_inv
    simp only [List.all_cons, Bool.and_eq_true] at hd
    cases hv with
    | head => exact hu.oneCell hd.1
    | tail _ hv => exact AbsL.oneCell hr hd.2 v hv

theorem evAll_get {ev : Operand → Option DV} : ∀ {xs : List Operand} {ds : List DV}, evAll ev xs = some ds → ds.length = xs.length ∧ ∀ (i : Nat) (d : DV), ds[i]? = some d → ∃ x, xs[i]? = some x ∧ ev x = some d
  | [], ds, h => by simp only [evAll, Option.some.injEq] at h; subst h; exact ⟨rfl, fun i d hd => by simp at hd⟩
  | x :: xs, ds, h => by
    simp only [evAll] at h
    split at h
    · rename_i d es hx hes
      cases h
      obtain ⟨hl, hg⟩ := evAll_get hes
      refine ⟨by simp [hl], fun i e he => ?_⟩
      cases i with
      | zero => simp at he; subst he; exact ⟨x, rfl, hx⟩
      | succ i => exact hg i e (by simpa using he)
    · cases h
theorem evAll_abs {ev : Operand → Option DV} {ι ρ : Nat → Option Nat} {S : Nat → Prop} {w : World} {η : Operand → Value} {xs : List Operand} {ds : List DV}
    (h : evAll ev xs = some ds) (hev : ∀ x ∈ xs, ∀ d, ev x = some d → TAbs ι ρ S w d (η x)) (hn : ds.all DV.noLoc = true) : AbsL ρ S w ds (xs.map η) := by
  obtain ⟨hl, hg⟩ := evAll_get h
  refine .of_get (by simp [hl]) fun i d v hd hv => ?_
  obtain ⟨x, hx, he⟩ := hg i d hd
  rw [List.getElem?_map, hx] at hv
  cases hv
  exact (hev x (List.mem_of_getElem? hx) d he).abs (by rw [List.all_eq_true] at hn; exact hn d (List.mem_of_getElem? hd))

theorem mapM_const {ρ : Nat → Option Nat} {w : World} {S : Nat → Prop} : ∀ {vs : List Value} {ds : List DV}, vs.mapM ofConst = some ds → AbsL ρ S w ds vs := by
  have one : ∀ (v : Value) (d : DV), ofConst v = some d → Abs ρ S w d v := by
    intro v d h
    unfold ofConst at h
    split at h <;> cases h <;> first | (simp only [Abs]; done) | exact ⟨none, rfl⟩
  intro vs
  induction vs with
  | nil => intro ds h; simp at h; subst h; exact .nil
  | cons v vs ih =>
    intro ds h
    simp only [List.mapM_cons, Option.bind_eq_bind, Option.pure_def, Option.bind_eq_some_iff, Option.some.injEq] at h
    obtain ⟨d, hd, es, hes, rfl⟩ := h
    exact .cons (one v d hd) (ih hes)
theorem const_abs {ρ : Nat → Option Nat} {w : World} {S : Nat → Prop} {v : Value} {d : DV} (h : ofConst v = some d) : Abs ρ S w d v := by
  have := mapM_const (ρ := ρ) (w := w) (S := S) (vs := [v]) (ds := [d]) (by simp [h])
  obtain ⟨_, _, e, h, _⟩ := this.cons_inv
  cases e; exact h

/-- The captured variables. -/
theorem captures_abs {lc : Nat → Option (List DV)} {ι ρ : Nat → Option Nat} {S : Nat → Prop} {w : World}
    (hlo : ∀ n b cs, ι n = some b → lc n = some cs → ∃ vs elem, w.heap[b]? = some (.cells vs elem (0, 0)) ∧ AbsL ρ S w cs vs.toList) :
    ∀ {ds cs : List DV} {ls : List Nat} {vs : List Value}, captures lc ds = some (cs, ls) → vs.length = ds.length → (∀ (i : Nat) d v, ds[i]? = some d → vs[i]? = some v → TAbs ι ρ S w d v) →
      AbsL ρ (fun b => S b ∨ ∃ n ∈ ls, ι n = some b) w cs vs
  | [], cs, ls, vs, h, hl, _ => by
    simp only [captures, Option.some.injEq, Prod.mk.injEq] at h
    obtain ⟨rfl, rfl⟩ := h
    cases vs with
    | nil => exact .nil
    | cons => simp at hl
  | d :: ds, cs, ls, vs, h, hl, hv => by
    cases vs with
    | nil => simp at hl
    | cons v vs =>
    simp only [captures] at h
    split at h
    · rename_i c l es ms hc hes
      simp only [Option.some.injEq, Prod.mk.injEq] at h
      obtain ⟨rfl, rfl⟩ := h
      have ih := captures_abs hlo hes (by simpa using hl) (fun i d u hd hu => hv (i + 1) d u (by simpa using hd) (by simpa using hu))
      refine .cons ?_ (AbsL.mono (.refl ρ w) (fun _ _ => rfl) (fun b hb => ?_) _ _ ih)
      · have h0 := hv 0 d v rfl rfl
        cases d <;> simp only [captureOf, Option.some.injEq, Prod.mk.injEq] at hc
        case loc n off =>
          cases off with
          | succ => simp [captureOf] at hc
          | zero =>
            simp only [Option.map_eq_some_iff, Prod.mk.injEq] at hc
            obtain ⟨ks, hks, rfl, rfl⟩ := hc
            obtain ⟨b, hb, rfl⟩ := h0
            obtain ⟨us, elem, hheap, hab⟩ := hlo n b ks hb hks
            simp only [Abs]
            refine ⟨b, 0, us.toList, rfl, .inr ⟨n, by simp, hb⟩, .of_block hheap, AbsL.mono (.refl ρ w) (fun _ _ => rfl) (fun _ h => .inl h) _ _ hab⟩
        all_goals (obtain ⟨rfl, rfl⟩ := hc; exact Abs.mono (.refl ρ w) (fun _ _ => rfl) (fun _ h => .inl h) _ _ h0)
      · rcases hb with hb | ⟨n, hn, hb⟩
        · exact .inl hb
        · exact .inr ⟨n, by simp [hn], hb⟩
    · cases h

/-- A call of a function by its value. -/
theorem run_callFunc {f : FuncId} {args : Array Value} {w : World} (h : ∃ fn, P.funcs[f]? = some fn ∧ (fn.name == "runtime.NumGoroutine") = false ∧ fn.body.isNone = false) :
    (callFunc f args).run P w = .ok (.enter f args) w := by
  obtain ⟨fn, hf, hn, hb⟩ := h
  unfold callFunc
  simp only [Sem.run_bind, program, Sem.run, Result.andThen, hf, hn, hb, Bool.false_eq_true, if_false]
  rfl

theorem fill_spec (hT : ∀ t ti, T t = some ti → tiOf P t = some ti) {ρ : Nat → Option Nat} {fs : List (Nat × TypeId)} {S : Nat → Prop} {w : World} (places : Array (Nat × Nat))
    (hp : ∀ (i off : Nat) (t : TypeId) (ti : TI), fs[i]? = some (off, t) → tiOf P t = some ti → places[i]? = some (off, ti.size)) :
    ∀ {ps : List (Nat × DV)} {cs ds : List DV} {us : List (Nat × Value)} {vs : List Value}, fillIn T fs cs ps = some ds → AbsL ρ S w cs vs → us.length = ps.length →
      (∀ (k : Nat) (i : Nat) (d : DV) (j : Nat) (v : Value), ps[k]? = some (i, d) → us[k]? = some (j, v) → i = j ∧ (d.noLoc = true → Abs ρ S w d v)) →
      ∃ out : Array Value, Instr.fill (places[·]?) vs.toArray us = some out ∧ AbsL ρ S w ds out.toList
  | [], cs, ds, us, vs, h, hc, hl, _ => by
    simp only [fillIn, Option.some.injEq] at h; subst h
    cases us with
    | nil => exact ⟨vs.toArray, rfl, by simpa using hc⟩
    | cons => simp at hl
  | (i, d) :: ps, cs, ds, us, vs, h, hc, hl, hv => by
    cases us with
    | nil => simp at hl
    | cons ju us =>
    obtain ⟨j, v⟩ := ju
    obtain ⟨rfl, hdv⟩ := hv 0 i d j v rfl rfl
    simp only [fillIn] at h
    split at h
    · cases h
    · rename_i off t hfi
      split at h
      · cases h
      · rename_i ti hti
        split at h
        · rename_i hcond
          simp only [Bool.and_eq_true, beq_iff_eq, decide_eq_true_eq] at hcond
          obtain ⟨⟨hfirm, hsz⟩, hle⟩ := hcond
          have hnl : d.noLoc = true := by cases d <;> first | rfl | simp [DV.firm] at hfirm
          have hany : d ≠ .any := by rintro rfl; simp [DV.firm] at hfirm
          have hcells := (hdv hnl).cells hany
          have hpl := hp i off t ti hfi (hT t ti hti)
          have hlen : v.cells.size = ti.size := by have := hcells.length; rw [Array.length_toList] at this; omega
          have hvl : vs.length = cs.length := hc.length
          have hset := AbsL.fill hcells (off := off) hc
          have e : (v.cells.zipIdx.foldl (fun cs (c, j) => cs.setIfInBounds (off + j) c) vs.toArray).toList = (v.cells.toList.zipIdx off).foldl (fun cs (c, j) => cs.set j c) vs := by
            rw [← Array.foldl_toList, Array.toList_zipIdx]
            have gen : ∀ (l : List Value) (k : Nat) (xs : Array Value), ((l.zipIdx k).foldl (fun (cs : Array Value) (x : Value × Nat) => cs.setIfInBounds (off + x.2) x.1) xs).toList = (l.zipIdx (off + k)).foldl (fun cs (x : Value × Nat) => cs.set x.2 x.1) xs.toList := by
              intro l
              induction l with
              | nil => intro k xs; rfl
              | cons a l ih => intro k xs; simp only [List.zipIdx_cons, List.foldl_cons]; rw [ih]; simp [Nat.add_assoc]
            simpa using gen v.cells.toList 0 vs.toArray
          obtain ⟨out, ho, hab⟩ := fill_spec hT places hp h hset (by simpa using hl) (fun k i' d' j' v' h1 h2 => hv (k + 1) i' d' j' v' (by simpa using h1) (by simpa using h2))
          refine ⟨out, ?_, hab⟩
          rw [Instr.fill]
          simp only [hpl]
          rw [if_neg (by simp [hlen]; omega)]
          rw [← ho]
          congr 1
          apply Array.ext'
          rw [e]
        · cases h

theorem mapM_places (w : World) : ∀ (fields : List Field), (∀ f ∈ fields, ∃ ti, P.info? f.type = some ti) →
    ∃ places : List (Nat × Nat), (fields.mapM fun f => do pure (f.offset, ← sizeOf f.type) : Sem (List (Nat × Nat))).run P w = .ok places w ∧
      ∀ (i : Nat) f, fields[i]? = some f → ∃ ti, P.info? f.type = some ti ∧ places[i]? = some (f.offset, ti.size)
  | [], _ => ⟨[], by simp [Sem.run_pure], fun i f hf => by simp at hf⟩
  | f :: fs, h => by
    obtain ⟨places, hp, hg⟩ := mapM_places w fs fun g hg => h g (List.mem_cons_of_mem _ hg)
    obtain ⟨ti, hti⟩ := h f (by simp)
    refine ⟨(f.offset, ti.size) :: places, ?_, ?_⟩
    · simp only [List.mapM_cons, Sem.run_bind, run_size hti, Sem.run_pure, Result.andThen, hp]
    · intro i g hg'
      cases i with
      | zero => simp at hg'; subst hg'; exact ⟨ti, hti, rfl⟩
      | succ i => exact hg i g (by simpa using hg')
end
end Go.Proofs.YtpckjfncecoibaaGreat.Fun
