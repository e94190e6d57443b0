/- Operations on maps. -/
import Derived.Test.YtpckjfncecoibaaGreatFunPre
namespace Go.Proofs.YtpckjfncecoibaaGreat.Fun
open Go
set_option linter.unusedSimpArgs false
set_option linter.unusedVariables false
theorem run_getMap {P : Program} {w : World} {r : Nat} {es : Array MapEntry} {clock : Nat} (hb : w.heap[r]? = some (.map es clock)) : (getObj r).run P w = .ok (.map es clock) w := by
  simp [getObj, Sem.run, hb]
theorem run_setMap {P : Program} {w : World} {r : Nat} {es : Array MapEntry} {clock : Nat} (o : Obj) (hb : w.heap[r]? = some (.map es clock)) : (setObj r o).run P w = .ok () { w with heap := w.heap.setIfInBounds r o } := by
  simp [setObj, Sem.run, hb]
theorem map_modify {α β : Type} (f : α → β) (g : α → α) (b : β) : ∀ (l : List α) (j : Nat), (∀ x, f (g x) = b) → (l.modify j g).map f = (l.map f).set j b
  | [], _, _ => by simp
  | x :: l, 0, h => by simp [h]
  | x :: l, j + 1, h => by simp [map_modify f g b l j h]
theorem ofVal_abs {ρ : Nat → Option Nat} {S : Nat → Prop} {w : World} {v : Value} {d : DV} (h : ofVal v = some d) : Abs ρ S w d v := by
  unfold ofVal at h
  split at h
  · simp only [Option.map_eq_some_iff] at h
    obtain ⟨ds, hd, rfl⟩ := h
    simp only [Abs]
    exact ⟨_, rfl, mapM_const hd⟩
  · have := mapM_const (ρ := ρ) (S := S) (w := w) (vs := [v]) (ds := [d]) (by simp [h])
    obtain ⟨u, rest, e, ha, _⟩ := this.cons_inv
    cases e; exact ha
theorem run_checkKey1 {P : Program} {t : TypeId} {kk : IntKind} (h : P.underlying t = some (.int kk)) (w : World) (e : Bool) (v : Value) : (Instr.checkKey e 10000 t v).run P w = .ok () w := by
  unfold Instr.checkKey
  simp only [Sem.run_bind, run_under h, Result.andThen]
  cases v <;> rfl
theorem keyAt_find {ρ : Nat → Option Nat} {S : Nat → Prop} {w : World} (kk k : IntKind) (n : Int) : ∀ {ks : List DV} {es : List MapEntry} {i : Nat} {r : Option Nat}, AbsL ρ S w ks (es.map (·.key)) → keyAt k n ks i = some r →
    ∃ q, Instr.findNow (.int kk) (.int k n) es i = some q ∧ ((r = none ∧ q = none) ∨ ∃ j e, r = some j ∧ i ≤ j ∧ es[j - i]? = some e ∧ q = some (j, e.val) ∧ e.key = .int k n)
  | [], es, i, r, h, hk => by
    have := h.nil_inv
    have : es = [] := by simpa using this
    subst this
    cases hk
    exact ⟨none, rfl, .inl ⟨rfl, rfl⟩⟩
  | d :: ks, [], i, r, h, hk => by obtain ⟨v, rest, e, _⟩ := h.cons_inv; cases e
  | d :: ks, e :: es, i, r, h, hk => by
    obtain ⟨v, rest, e1, hv, hr⟩ := h.cons_inv
    cases e1
    cases d <;> simp only [keyAt] at hk <;> first | (cases hk; done) | skip
    rename_i k' m
    simp only [Abs] at hv
    split at hk
    · rename_i hkk; subst hkk
      split at hk
      · rename_i hnm
        cases hk
        have hnm' := eq_of_beq hnm
        refine ⟨_, by simp only [Instr.findNow, hv, Instr.sameNow, if_true, hnm], .inr ⟨i, e, rfl, Nat.le_refl _, by simp, rfl, by rw [hv, hnm']⟩⟩
      · rename_i hnm
        obtain ⟨q, h1, h2⟩ := keyAt_find kk k n hr hk
        have hnm' : (n == m) = false := by simpa using hnm
        refine ⟨q, by simp only [Instr.findNow, hv, Instr.sameNow, if_true, hnm']; exact h1, ?_⟩
        rcases h2 with ⟨h3, h4⟩ | ⟨j, e', h3, h4, h5, h6, h7⟩
        · exact .inl ⟨h3, h4⟩
        · exact .inr ⟨j, e', h3, by omega, by rw [show j - i = (j - (i + 1)) + 1 by omega]; simpa using h5, h6, h7⟩
    · cases hk
theorem tiOf_chan {P : Program} {t : TypeId} {ti : TI} (h : tiOf P t = some ti) (hm : ti.ch = true) : ∃ dir e i, P.underlying t = some (.chan dir e) ∧ P.info? e = some i ∧ i.bytes ≤ 1024 := by
  unfold tiOf at h
  split at h
  · rename_i i u hi hu
    cases h
    dsimp only at hm
    split at hm
    · rename_i dir e
      cases he : P.info? e with
      | none => rw [he] at hm; cases hm
      | some j =>
        rw [he] at hm
        exact ⟨dir, e, j, hu, he, of_decide_eq_true hm⟩
    · cases hm
  · cases h
theorem tiOf_map {P : Program} {t kt : TypeId} {ti : TI} {zv : Value} (h : tiOf P t = some ti) (hm : ti.mp = some (kt, zv)) : ∃ e i, P.underlying t = some (.map kt e) ∧ P.info? e = some i ∧ i.zero = some zv := by
  obtain ⟨_, u, _, hu, _, _, _, _, _, _, _, _, _, _, _, _, hmp⟩ := tiOf_spec h
  rw [hm] at hmp
  cases u with
  | map k e =>
    simp only [] at hmp
    cases hi : P.info? e with
    | none => rw [hi] at hmp; simp at hmp
    | some i =>
      rw [hi] at hmp
      simp only [Option.bind_some] at hmp
      cases hz : i.zero with
      | none => rw [hz] at hmp; simp at hmp
      | some z =>
        rw [hz] at hmp
        simp only [Option.map_some, Option.some.injEq, Prod.mk.injEq] at hmp
        obtain ⟨rfl, rfl⟩ := hmp
        exact ⟨e, i, hu, hi, hz⟩
  | _ => cases hmp
theorem tiOf_int {P : Program} {t : TypeId} {ti : TI} {k : IntKind} (h : tiOf P t = some ti) (hk : ti.kind = some k) : P.underlying t = some (.int k) := by
  obtain ⟨_, u, _, hu, _, _, _, _, _, hkd, _⟩ := tiOf_spec h
  rw [hk] at hkd
  cases u <;> simp only [] at hkd <;> first | (cases hkd; done) | skip
  cases hkd; exact hu
theorem MuOk.ents {ρ : Nat → Option Nat} {S : Nat → Prop} {w : World} {mu : Mu} (h : MuOk ρ S w mu) {n p : Nat} {ks vs : List DV} (hm : mu n 0 = some (.ents ks vs)) (hp : ρ n = some p) :
    ¬ S p ∧ ∃ es cl, w.heap[p]? = some (.map es cl) ∧ AbsL ρ S w ks (es.toList.map (·.key)) ∧ AbsL ρ S w vs (es.toList.map (·.val)) := by
  obtain ⟨p', hp', h1, _, h2⟩ := h n 0 _ hm
  rw [hp] at hp'; cases hp'
  exact ⟨h1, h2⟩
theorem lookup_eff {T : TypeId → Option TI} {ev : Operand → Option DV} {mu : Mu} {t : TypeId} {x i : Operand} {ok : Bool} {n : Nat} {ks vs : List DV} {r d : DV} {e : Eff} {ob : List Ob} (hx : ev x = some (.mref n)) (h : mapOp T ev mu (.lookup t x i ok) (some { d := .tup [.ents ks vs, r] }) = some (d, e, ob)) :
    e.mu = none ∧ e.use = [] ∧ ∃ kt zv k key z, ev i = some (.int k key) ∧ (T t).bind (·.mp) = some (kt, zv) ∧ ofVal zv = some z ∧ ob = [.part (mu n 0) (.ents ks vs), .part (lookD ok z ks vs k key) r] := by
  unfold mapOp at h
  simp only [hx] at h
  cases hT : T t with
  | none => rw [hT] at h; cases h
  | some ti =>
  rw [hT] at h
  obtain ⟨_, mp, _⟩ := ti
  cases mp with
  | none => cases h
  | some p =>
  cases hi : ev i with
  | none => rw [hi] at h; cases h
  | some di =>
  rw [hi] at h
  cases di <;> first | (cases h; done) | skip
  simp only at h
  split at h
  · rename_i hz h1
    cases h1
    simp only [Option.some.injEq, Prod.mk.injEq] at h
    obtain ⟨_, rfl, rfl⟩ := h
    exact ⟨rfl, rfl, _, _, _, _, _, rfl, rfl, hz, rfl⟩
  · cases h
theorem update_eff {T : TypeId → Option TI} {ev : Operand → Option DV} {mu : Mu} {t : TypeId} {x i v : Operand} {n : Nat} {k : IntKind} {key : Int} {ks vs ks' vs' : List DV} {d0 d : DV} {e : Eff} {ob : List Ob} (hx : ev x = some (.mref n)) (hi : ev i = some (.int k key)) (hv : ev v = some d0)
    (h : mapOp T ev mu (.mapUpdate t x i v) (some { d := .tup [.ents ks vs, .ents ks' vs'] }) = some (d, e, ob)) : e.mu = some (updMu mu n 0 [.ents ks' vs']) ∧ e.use = [] ∧ ob = [.part (mu n 0) (.ents ks vs), .part (putD ks vs k key d0) (.ents ks' vs')] := by
  unfold mapOp at h
  simp only [hx, hi, hv] at h
  cases hT : T t with
  | none => rw [hT] at h; cases h
  | some ti =>
  rw [hT] at h
  obtain ⟨_, mp, _⟩ := ti
  cases mp with
  | none => cases h
  | some p =>
  simp only at h
  split at h
  · split at h
    · rename_i h2
      cases h2
      simp only [Option.some.injEq, Prod.mk.injEq] at h
      obtain ⟨_, rfl, rfl⟩ := h
      exact ⟨rfl, rfl, rfl⟩
    · cases h
  · cases h
theorem make_eff {T : TypeId → Option TI} {ev : Operand → Option DV} {mu : Mu} {t : TypeId} {r : Option Operand} {n : Nat} {d : DV} {e : Eff} {ob : List Ob} (h : mapOp T ev mu (.makeMap t r) (some { d := .any, fresh := [n] }) = some (d, e, ob)) :
    e.mu = some (updMu mu n 0 [.ents [] []]) ∧ e.use = [n] ∧ ob = [] := by
  cases r with
  | some r => unfold mapOp at h; cases h
  | none =>
  unfold mapOp at h
  simp only at h
  cases hT : T t with
  | none => rw [hT] at h; cases h
  | some ti =>
  rw [hT] at h
  obtain ⟨_, mp, _⟩ := ti
  cases mp with
  | none => cases h
  | some p =>
  simp only [Option.some.injEq, Prod.mk.injEq] at h
  obtain ⟨_, rfl, rfl⟩ := h
  exact ⟨rfl, rfl, rfl⟩
theorem chan_eff {T : TypeId → Option TI} {ev : Operand → Option DV} {mu : Mu} {t : TypeId} {x : Operand} {n : Nat} {d : DV} {e : Eff} {ob : List Ob} (h : mapOp T ev mu (.makeChan t x) (some { d := .any, fresh := [n] }) = some (d, e, ob)) :
    ∃ k c, ev x = some (.int k c) ∧ e.mu = some (updMu mu n 0 [.boxd c.toNat []]) ∧ e.use = [n] ∧ ob = [.eq (decide (0 ≤ c ∧ c ≤ 1000000000)) true] := by
  unfold mapOp at h
  simp only at h
  split at h
  · rename_i k c _ _ _ n' ht hx hs
    simp only [Option.some.injEq, Prod.mk.injEq, Told.mk.injEq, List.cons.injEq] at h hs
    obtain ⟨_, rfl, rfl⟩ := h
    obtain ⟨_, _, _, ⟨rfl, _⟩, _⟩ := hs
    exact ⟨k, c, hx, rfl, rfl, rfl⟩
  · cases h
theorem mapOp_none {T : TypeId → Option TI} {ev : Operand → Option DV} {mu : Mu} {op : Op} {d : DV} {e : Eff} {ob : List Ob} (h : mapOp T ev mu op none = some (d, e, ob)) : e = {} ∧ ob = [] := by
  cases op <;> simp only [mapOp] at h <;> first | (cases h; done) | skip
  case makeMap t r =>
    cases r with
    | some r => cases h
    | none =>
      simp only at h
      cases hT : T t with
      | none => rw [hT] at h; cases h
      | some ti =>
        rw [hT] at h
        obtain ⟨_, mp, _⟩ := ti
        cases mp with
        | none => cases h
        | some p => simp only [Option.some.injEq, Prod.mk.injEq] at h; exact ⟨h.2.1.symm, h.2.2.symm⟩
  case makeChan t x =>
    split at h
    · rename_i hs; cases hs
    · cases h
  case lookup t x i ok =>
    cases hT : T t with
    | none => rw [hT] at h; cases h
    | some ti =>
    rw [hT] at h
    obtain ⟨_, mp, _⟩ := ti
    cases mp with
    | none => cases h
    | some p =>
    cases hx : ev x with
    | none => rw [hx] at h; cases h
    | some dx =>
    cases hi : ev i with
    | none => rw [hx, hi] at h; cases dx <;> cases h
    | some di =>
    rw [hx, hi] at h
    cases dx <;> first | (cases h; done) | skip
    all_goals
      cases di <;> first | (cases h; done) | skip
      simp only at h
      split at h <;> first
        | (cases h; done)
        | (rename_i h1; cases h1; done)
        | (simp only [Option.some.injEq, Prod.mk.injEq] at h; exact ⟨h.2.1.symm, h.2.2.symm⟩)
  case mapUpdate t x i v =>
    cases hT : T t with
    | none => rw [hT] at h; cases h
    | some ti =>
    rw [hT] at h
    obtain ⟨_, mp, _⟩ := ti
    cases mp with
    | none => cases h
    | some p =>
    cases hx : ev x with
    | none => rw [hx] at h; cases h
    | some dx =>
    rw [hx] at h
    cases dx <;> first | (cases h; done) | skip
    cases hi : ev i with
    | none => rw [hi] at h; cases h
    | some di =>
    rw [hi] at h
    cases di <;> first | (cases h; done) | skip
    cases hv : ev v with
    | none => rw [hv] at h; cases h
    | some dv =>
    rw [hv] at h
    simp only at h
    split at h
    · split at h
      · rename_i h1; cases h1
      · cases h
    · cases h
  case range t x =>
    cases hT : T t with
    | none => rw [hT] at h; cases h
    | some ti =>
    rw [hT] at h
    obtain ⟨_, mp, _⟩ := ti
    cases mp with
    | none => cases h
    | some p =>
    cases hx : ev x with
    | none => rw [hx] at h; cases h
    | some dx =>
    rw [hx] at h
    cases dx <;> first | (cases h; done) | skip
    simp only [Option.some.injEq, Prod.mk.injEq] at h; exact ⟨h.2.1.symm, h.2.2.symm⟩
  case next x b =>
    cases b with
    | true => cases h
    | false =>
      simp only at h
      cases hx : ev x with
      | none => rw [hx] at h; cases h
      | some dx =>
      rw [hx] at h
      cases dx <;> first | (cases h; done) | skip
      simp only [Option.some.injEq, Prod.mk.injEq] at h; exact ⟨h.2.1.symm, h.2.2.symm⟩
theorem mapOp_eff {T : TypeId → Option TI} {ev : Operand → Option DV} {mu : Mu} {op : Op} {say : Option Told} {d : DV} {e : Eff} {ob : List Ob} (h : mapOp T ev mu op say = some (d, e, ob)) :
    e.frz = [] ∧ e.new = none ∧ e.pend = none := by
  cases op <;> simp only [mapOp] at h <;> first | (cases h; done) | skip
  case makeMap t r =>
    cases r with
    | some r => cases h
    | none =>
      simp only [] at h
      split at h <;> first
        | (cases h; done)
        | (simp only [Option.some.injEq, Prod.mk.injEq] at h; obtain ⟨rfl, rfl, rfl⟩ := h; exact ⟨rfl, rfl, rfl⟩)
  case next x b =>
    cases b with
    | true => cases h
    | false =>
      simp only [] at h
      split at h <;> first
        | (cases h; done)
        | (simp only [Option.some.injEq, Prod.mk.injEq] at h; obtain ⟨rfl, rfl, rfl⟩ := h; exact ⟨rfl, rfl, rfl⟩)
  all_goals
    (repeat' split at h) <;> first
    | (cases h; done)
    | (simp only [Option.some.injEq, Prod.mk.injEq] at h; obtain ⟨_, rfl, _⟩ := h; exact ⟨rfl, rfl, rfl⟩)
/-- A new channel, where others' cells are not looked at. -/
theorem makeChan_blind {T : TypeId → Option TI} {ev : Operand → Option DV} {mu : Mu} {t : TypeId} {x : Operand} {say : Option Told} {d : DV} {e : Eff} {ob : List Ob} (h : mapOp T ev mu (.makeChan t x) say = some (d, e, ob)) (hu : e.mu = none) : False := by
  unfold mapOp at h
  simp only at h
  split at h
  · simp only [Option.some.injEq, Prod.mk.injEq] at h
    obtain ⟨_, rfl, _⟩ := h
    cases hu
  · cases h
/-- A new map, where others' cells are not looked at. -/
theorem makeMap_blind {T : TypeId → Option TI} {ev : Operand → Option DV} {mu : Mu} {t : TypeId} {r : Option Operand} {say : Option Told} {d : DV} {e : Eff} {ob : List Ob} (h : mapOp T ev mu (.makeMap t r) say = some (d, e, ob)) (hu : e.mu = none) (mu' : Mu) : mapOp T ev mu' (.makeMap t r) say = some (d, e, ob) := by
  cases r with
  | some r => unfold mapOp at h; cases h
  | none =>
  unfold mapOp at h ⊢
  simp only at h ⊢
  split at h
  · simp only [Option.some.injEq, Prod.mk.injEq] at h
    obtain ⟨rfl, rfl, rfl⟩ := h
    simp at hu
  · exact h
  · cases h
section
variable {P : Program} {T : TypeId → Option TI}
/-- A map's entries are changed. -/
theorem MonoPost.putMap {ι ρ : Nat → Option Nat} {S : Nat → Prop} {mu : Mu} {w : World} {o : Oper} {n p : Nat} {ks vs ks' vs' : List DV} {es' : Array MapEntry} {es : Array MapEntry} {cl cl' : Nat} (hnm : Named ρ mu w) (hmu : MuOk ρ S w mu)
    (hp : ρ n = some p) (hm : mu n 0 = some (.ents ks vs)) (hh : w.heap[p]? = some (.map es cl)) (hk : AbsL ρ S w ks' (es'.toList.map (·.key))) (hv : AbsL ρ S w vs' (es'.toList.map (·.val))) :
    MonoPost ι ρ S mu w o .any { mu := some (updMu mu n 0 [.ents ks' vs']) } false undef { w with heap := w.heap.setIfInBounds p (.map es' cl') } ι ρ S := by
  have hlt := lt_of_block hh
  have hpD : Dom ρ mu p := ⟨n, 0, _, hp, hm⟩
  have hnS := hmu.notS hpD
  have hold : ∀ b, b ≠ p → (w.heap.setIfInBounds p (.map es' cl'))[b]? = w.heap[b]? := fun b hb => by rw [Array.getElem?_setIfInBounds_ne (Ne.symm hb)]
  have hnew : (w.heap.setIfInBounds p (.map es' cl'))[p]? = some (.map es' cl') := by simp [hlt]
  have hE : Ext ρ w ρ { w with heap := w.heap.setIfInBounds p (.map es' cl') } := fun m b hb => ⟨hb, fun us e fz hu => by
    by_cases hbp : b = p
    · subst hbp; rw [hh] at hu; cases hu
    · exact ⟨us, by show (w.heap.setIfInBounds p _)[b]? = _; rw [hold b hbp]; exact hu, rfl⟩⟩
  have hkS : ∀ b, S b → (w.heap.setIfInBounds p (.map es' cl'))[b]? = w.heap[b]? := fun b hb => hold b (by rintro rfl; exact hnS hb)
  have hupd : ∀ k o, updMu mu n 0 [.ents ks' vs'] k o = if k = n ∧ o = 0 then some (.ents ks' vs') else mu k o := fun k o => by
    simp only [updMu]
  have hdom : ∀ b, Dom ρ (updMu mu n 0 [.ents ks' vs']) b → Dom ρ mu b := by
    rintro b ⟨k, o, d, hb, hd⟩
    rw [hupd] at hd
    split at hd
    · rename_i hc; rw [hc.1, hp] at hb; cases hb; exact hpD
    · exact ⟨k, o, d, hb, hd⟩
  have hsome : ∀ k o, (updMu mu n 0 [.ents ks' vs'] k o).isSome = true → ∃ o', (mu k o').isSome = true := fun k o h => by
    rw [hupd] at h
    split at h
    · rename_i hc; rw [hc.1]; exact ⟨0, by rw [hm]; rfl⟩
    · exact ⟨o, h⟩
  refine ⟨rfl, rfl, rfl, by simp, fun b _ _ hD => hold b (by rintro rfl; exact hD hpD), fun _ b _ hD => hold b (by rintro rfl; exact hD hpD), fun _ h => h, fun _ h => .inl h, by simp only [TAbs, Abs], fun k o d hd => ?_, fun b hb => .inl (hdom b hb), fun _ => rfl, fun _ h => by simp at h, ⟨fun a b c o o' ha hb h1 h2 => ?_, fun m b hm => ?_⟩, hE, fun _ _ h => .inl h, fun _ h => by simp at h⟩
  · replace hd : updMu mu n 0 [.ents ks' vs'] k o = some d := hd
    rw [hupd] at hd
    split at hd
    · rename_i hc
      obtain ⟨rfl, rfl⟩ := hc
      cases hd
      exact ⟨p, hp, hnS, rfl, es', cl', hnew, AbsL.mono hE hkS (fun _ h => h) _ _ hk, AbsL.mono hE hkS (fun _ h => h) _ _ hv⟩
    · rename_i hc
      obtain ⟨q, hq, h1, h2⟩ := hmu k o d hd
      refine ⟨q, hq, h1, ?_⟩
      by_cases hqp : q = p
      · subst hqp
        have hkn : k = n := hnm.inj k n q o 0 hq hp (by rw [hd]; rfl) (by rw [hm]; rfl)
        subst hkn
        have ho : o ≠ 0 := fun h => hc ⟨rfl, h⟩
        cases d
        case ents => exact absurd h2.1 ho
        case boxd => exact absurd h2.1 ho
        all_goals
          obtain ⟨_, v, hv', _⟩ := h2
          obtain ⟨_, _, _, hb⟩ := block_of_cell hv'
          rw [hh] at hb; cases hb
      · exact h2.mono hE hkS (fun _ h => h) (hold q hqp)
  · obtain ⟨o1, h1⟩ := hsome a o h1
    obtain ⟨o2, h2⟩ := hsome b o' h2
    exact hnm.inj a b c o1 o2 ha hb h1 h2
  · simp only [Array.size_setIfInBounds]; exact hnm.lt m b hm
/-- A new block of the area, which stays as it is. -/
theorem MonoPost.ofFrozen {ι ρ : Nat → Option Nat} {S : Nat → Prop} {mu : Mu} {w w' : World} {o : Oper} {d : DV} {v : Value} {obj : Obj} (hnm : Named ρ mu w) (hmu : MuOk ρ S w mu) (sane : ∀ b, S b → b < w.heap.size) (hh : w'.heap = w.heap.push obj) (h1 : w'.os = w.os) (h2 : w'.tape = w.tape) (h3 : w'.output = w.output)
    (hv : Abs ρ (fun b => S b ∨ b = w.heap.size) w' d v) : MonoPost ι ρ S mu w o d {} false v w' ι ρ (fun b => S b ∨ b = w.heap.size) := by
  have hold : ∀ b, b < w.heap.size → w'.heap[b]? = w.heap[b]? := fun b hb => by rw [hh, Array.getElem?_push, if_neg (by omega)]
  have hE : Ext ρ w ρ w' := .same fun n b hn => hold b (hnm.lt n b hn)
  have hs : w'.heap.size = w.heap.size + 1 := by rw [hh]; simp
  exact ⟨h1, h2, h3, by omega, fun b hb _ _ => hold b hb, fun _ b hb _ => hold b hb, fun _ h => .inl h, fun b h => h.elim .inl (fun e => .inr (.inl ⟨by omega, by omega⟩)), .of_abs hv,
    hmu.mono hE (fun b hb => hold b (sane b hb)) (fun b hb => hold b (hmu.lt hb)) (fun _ h => .inl h) (fun b hb h => h.elim (hmu.notS hb) (fun e => by have := hmu.lt hb; omega)), fun _ h => .inl h, fun _ => rfl, fun _ h => by simp at h, hnm.mono (by omega), hE, fun _ _ h => .inl h, fun _ h => by simp at h⟩
variable (hT : ∀ t ti, T t = some ti → tiOf P t = some ti)
include hT
theorem mapOp_sound {o : Oper} {ev : Operand → Option DV} {say : Option Told} {mu : Mu} {d : DV} {e : Eff} {ob : List Ob}
    (h : mapOp T ev mu o.op say = some (d, e, ob)) (hob : ∀ x ∈ ob, x.ok P) {a : Act} {w : World} {ι ρ : Nat → Option Nat} {S : Nat → Prop} (hnm : Named ρ mu w)
    (sane : ∀ b, S b → b < w.heap.size) (hmu : MuOk ρ S w mu) (hev : ∀ x ∈ o.op.operands, ∀ d, ev x = some d → TAbs ι ρ S w d (a.eval x))
    (hfresh : ∀ n ∈ e.use, ρ n = none)
    {next : Act → World → Prop} {Q : Exit → Act → World → Prop} (hnext : ∀ v w' ι' ρ' S', MonoPost ι ρ S mu w o d e false v w' ι' ρ' S' → next (a.put o.dst v) w') :
    o.wp P a w next Q := by
  obtain ⟨dst, op, type, pos, after, guard⟩ := o
  have plain : ∀ (x : Operand) (d' : DV), x ∈ op.operands → ev x = some d' → TAbs ι ρ S w d' (a.eval x) := fun x d' hx he => hev x hx d' he
  have fin : ∀ v, (execOp a.eval ⟨dst, op, type, pos, after, guard⟩).run P w = .ok (.value v) w → e = {} → TAbs ι ρ S w d v → Oper.wp P ⟨dst, op, type, pos, after, guard⟩ a w next Q := by
    rintro v hr rfl hv
    exact Oper.wp_value hr (hnext v w ι ρ S (.plain hnm hmu hv))
  cases op <;> simp only [mapOp] at h <;> first | (cases h; done) | skip
  case makeMap t r =>
    cases r with
    | some r => cases h
    | none =>
      simp only [] at h
      split at h
      · rename_i n ht
        simp only [Option.some.injEq, Prod.mk.injEq] at h
        obtain ⟨rfl, rfl, rfl⟩ := h
        have hn : ρ n = none := hfresh n (by simp)
        have hrun : (execOp a.eval ⟨dst, .makeMap t none, type, pos, after, guard⟩).run P w = .ok (.value (.map (some w.heap.size))) { w with heap := w.heap.push (.map #[] 0) } := by
          simp [execOp, Instr.makeMap, newObj, Sem.run_bind, Sem.run, Sem.run_pure, Result.andThen]
        have hnone : ∀ o, mu n o = none := fun o => by
          cases hh : mu n o with
          | none => rfl
          | some e' => obtain ⟨p, hp, _⟩ := hmu n o e' hh; rw [hn] at hp; cases hp
        refine Oper.wp_value hrun (hnext _ _ ι (fun m => if m = n then some w.heap.size else ρ m) S ?_)
        refine .ofNew hnm hmu sane hn (obj := .map #[] 0) rfl rfl rfl rfl (fun b o hb => .inl ?_) (fun o d hd => ?_) ?_
        · simp only [updMu]; rw [if_neg (by rintro ⟨rfl, _⟩; exact hb rfl)]
        · simp only [updMu] at hd
          split at hd
          · rename_i hc; cases hd
            exact ⟨hc.2, #[], 0, by simp, .nil, .nil⟩
          · rw [hnone] at hd; cases hd
        · simp only [Abs]; exact ⟨w.heap.size, by simp, rfl⟩
      · simp only [Option.some.injEq, Prod.mk.injEq] at h
        obtain ⟨rfl, rfl, rfl⟩ := h
        have hrun : (execOp a.eval ⟨dst, .makeMap t none, type, pos, after, guard⟩).run P w = .ok (.value (.map (some w.heap.size))) { w with heap := w.heap.push (.map #[] 0) } := by
          simp [execOp, Instr.makeMap, newObj, Sem.run_bind, Sem.run, Sem.run_pure, Result.andThen]
        refine Oper.wp_value hrun (hnext _ _ ι ρ _ (.ofFrozen hnm hmu sane rfl rfl rfl rfl ?_))
        simp only [Abs]
        exact ⟨_, rfl, .inr rfl, by simp⟩
      · cases h
  case makeChan t x =>
    split at h
    · rename_i k c _ _ _ n ht hx
      simp only [Option.some.injEq, Prod.mk.injEq] at h
      obtain ⟨rfl, rfl, rfl⟩ := h
      have hc : decide (0 ≤ c ∧ c ≤ 1000000000) = true := hob (.eq _ _) (by simp)
      have hc := of_decide_eq_true hc
      have hn : ρ n = none := hfresh n (by simp)
      have hxv := (plain x _ (by simp [Op.operands]) hx).abs rfl
      simp only [Abs] at hxv
      obtain ⟨dir, et, it, hut, hit, hby⟩ := tiOf_chan (hT _ _ ht) rfl
      have hmul : (it.bytes : Int) * c ≤ 1024 * 1000000000 := by
        refine Int.le_trans (Int.mul_le_mul_of_nonneg_right (show (it.bytes : Int) ≤ 1024 by omega) hc.1) (Int.mul_le_mul_of_nonneg_left hc.2 (by decide))
      have h1 : ¬ c < 0 := by omega
      have h2 : ¬ (9223372036854775807 : Int) < c := by omega
      have h3 : ¬ (281474976710544 : Int) < (it.bytes : Int) * c := by omega
      have hrun : (execOp a.eval ⟨dst, .makeChan t x, type, pos, after, guard⟩).run P w = .ok (.value (.chan (some w.heap.size))) { w with heap := w.heap.push (.chan c.toNat #[] false 0 0 false) } := by
        simp [execOp, Instr.makeChan, hxv, asInt, asIntOf, run_underlying hut, typeInfo, hit, h1, h2, h3, newObj, Sem.run_bind, Sem.run, Sem.run_pure, Result.andThen]
      have hnone : ∀ o, mu n o = none := fun o => by
        cases hh : mu n o with
        | none => rfl
        | some e' => obtain ⟨p, hp, _⟩ := hmu n o e' hh; rw [hn] at hp; cases hp
      refine Oper.wp_value hrun (hnext _ _ ι (fun m => if m = n then some w.heap.size else ρ m) S ?_)
      refine .ofNew hnm hmu sane hn (obj := .chan c.toNat #[] false 0 0 false) rfl rfl rfl rfl (fun b o hb => .inl ?_) (fun o d hd => ?_) ?_
      · simp only [updMu]; rw [if_neg (by rintro ⟨rfl, _⟩; exact hb rfl)]
      · simp only [updMu] at hd
        split at hd
        · rename_i hc; cases hd
          exact ⟨hc.2, #[], 0, 0, by simp, .nil⟩
        · rw [hnone] at hd; cases hd
      · simp only [Abs]; exact ⟨w.heap.size, by simp, rfl⟩
    · cases h
  case lookup t x i ok =>
    split at h
    · rename_i kt zv _ _ _ _ _ _ _ _ _ _ _ _ n k key ht hx hi
      split at h
      · rename_i kk _ _ _ _ _ _ z ks vs r _ _ _ _ hkt hz
        simp only [Option.some.injEq, Prod.mk.injEq] at h
        obtain ⟨rfl, rfl, rfl⟩ := h
        have hm : mu n 0 = some (.ents ks vs) := hob (.part _ _) (by simp)
        have hl : lookD ok z ks vs k key = some r := hob (.part _ _) (by simp)
        have hxv := (plain x _ (by simp [Op.operands]) hx).abs rfl
        have hiv := (plain i _ (by simp [Op.operands]) hi).abs rfl
        simp only [Abs] at hxv hiv
        obtain ⟨p, hp, hxv⟩ := hxv
        obtain ⟨_, es, cl, hh, hks, hvs⟩ := hmu.ents hm hp
        obtain ⟨et, it, hut, hit, hzero⟩ := tiOf_map (hT _ _ ht) rfl
        have huk := tiOf_int (hT _ _ hkt) rfl
        unfold lookD at hl
        split at hl
        · rename_i j hkey
          obtain ⟨q, hq, hr⟩ := keyAt_find kk k key hks hkey
          rcases hr with ⟨h1, _⟩ | ⟨j', e', h1, _, h3, h4, _⟩
          · cases h1
          cases h1
          simp only [Option.map_eq_some_iff] at hl
          obtain ⟨d0, hd0, rfl⟩ := hl
          obtain ⟨u, hu, hau⟩ := hvs.get hd0
          rw [Nat.sub_zero] at h3
          rw [List.getElem?_map, h3] at hu
          cases hu
          refine fin (if ok then .tuple #[e'.val, .bool true] else e'.val) ?_ rfl ?_
          · simp only [execOp, hxv, hiv, Instr.lookup, Sem.run_bind, run_under hut, Result.andThen, run_getMap hh, Sem.run_pure, run_checkKey1 huk, Instr.findKey, run_under huk, hq, h4]
          · refine .of_abs ?_
            cases ok
            · exact hau
            · simp only [if_true, Abs]
              exact ⟨[e'.val, .bool true], rfl, .cons hau (.cons (by simp only [Abs]) .nil)⟩
        · rename_i hkey
          obtain ⟨q, hq, hr⟩ := keyAt_find kk k key hks hkey
          rcases hr with ⟨_, h1⟩ | ⟨j', e', h1, _⟩
          rotate_left
          · cases h1
          subst h1
          cases hl
          refine fin (if ok then .tuple #[zv, .bool false] else zv) ?_ rfl ?_
          · simp only [execOp, hxv, hiv, Instr.lookup, Sem.run_bind, run_under hut, Result.andThen, run_getMap hh, Sem.run_pure, run_checkKey1 huk, Instr.findKey, run_under huk, hq, zeroValue, run_info hit, hzero]
          · refine .of_abs ?_
            have hzv : Abs ρ S w z zv := ofVal_abs hz
            cases ok
            · exact hzv
            · simp only [if_true, Abs]
              exact ⟨[zv, .bool false], rfl, .cons hzv (.cons (by simp only [Abs]) .nil)⟩
        · cases hl
      · cases h
    · rename_i kt zv _ _ _ _ _ _ _ _ _ _ _ _ k key ht hx hi
      split at h
      · rename_i kk _ _ _ _ _ _ z hkt hz
        simp only [Option.some.injEq, Prod.mk.injEq] at h
        obtain ⟨rfl, rfl, rfl⟩ := h
        have hxv := (plain x _ (by simp [Op.operands]) hx).abs rfl
        have hiv := (plain i _ (by simp [Op.operands]) hi).abs rfl
        simp only [Abs] at hxv hiv
        obtain ⟨p, hxv, _, hh⟩ := hxv
        obtain ⟨et, it, hut, hit, hzero⟩ := tiOf_map (hT _ _ ht) rfl
        have huk := tiOf_int (hT _ _ hkt) rfl
        refine fin (if ok then .tuple #[zv, .bool false] else zv) ?_ rfl ?_
        · simp only [execOp, hxv, hiv, Instr.lookup, Sem.run_bind, run_under hut, Result.andThen, run_getMap hh, Sem.run_pure, run_checkKey1 huk, Instr.findKey, run_under huk, Instr.findNow, zeroValue, run_info hit, hzero]
        · refine .of_abs ?_
          have hzv : Abs ρ S w z zv := ofVal_abs hz
          cases ok
          · exact hzv
          · simp only [if_true, Abs]
            exact ⟨[zv, .bool false], rfl, .cons hzv (.cons (by simp only [Abs]) .nil)⟩
      · cases h
    · rename_i kt zv _ _ _ _ _ _ _ _ _ _ _ _ k key ht hx hi
      split at h
      · rename_i kk _ _ _ _ _ _ z hkt hz
        simp only [Option.some.injEq, Prod.mk.injEq] at h
        obtain ⟨rfl, rfl, rfl⟩ := h
        have hxv := (plain x _ (by simp [Op.operands]) hx).abs rfl
        have hiv := (plain i _ (by simp [Op.operands]) hi).abs rfl
        simp only [Abs] at hxv hiv
        obtain ⟨et, it, hut, hit, hzero⟩ := tiOf_map (hT _ _ ht) rfl
        have huk := tiOf_int (hT _ _ hkt) rfl
        refine fin (if ok then .tuple #[zv, .bool false] else zv) ?_ rfl ?_
        · simp only [execOp, hxv, hiv, Instr.lookup, Sem.run_bind, run_under hut, Result.andThen, Sem.run_pure, run_checkKey1 huk, Instr.findKey, run_under huk, Instr.findNow, zeroValue, run_info hit, hzero]
        · refine .of_abs ?_
          have hzv : Abs ρ S w z zv := ofVal_abs hz
          cases ok
          · exact hzv
          · simp only [if_true, Abs]
            exact ⟨[zv, .bool false], rfl, .cons hzv (.cons (by simp only [Abs]) .nil)⟩
      · cases h
    · cases h
  case range t x =>
    split at h
    · rename_i ht hx
      simp only [Option.some.injEq, Prod.mk.injEq] at h
      obtain ⟨rfl, rfl, rfl⟩ := h
      have hxv := (plain x _ (by simp [Op.operands]) hx).abs rfl
      simp only [Abs] at hxv
      obtain ⟨p, hxv, hpS, hh⟩ := hxv
      obtain ⟨et, it, hut, hit, hzero⟩ := tiOf_map (hT _ _ ht) rfl
      have hrun : (execOp a.eval ⟨dst, .range t x, type, pos, after, guard⟩).run P w = .ok (.value (.pointer (some ⟨w.heap.size, 0, none⟩))) { w with heap := w.heap.push (.mapIter (some p) 0 #[] 0) } := by
        simp [execOp, Instr.range, newObj, hxv, run_under hut, run_getMap hh, Sem.run_bind, Sem.run, Sem.run_pure, Result.andThen]
      refine Oper.wp_value hrun (hnext _ _ ι ρ _ (.ofFrozen hnm hmu sane rfl rfl rfl rfl ?_))
      simp only [Abs]
      refine ⟨_, p, 0, 0, rfl, .inr rfl, by simp, .inl hpS, ?_⟩
      rw [Array.getElem?_push, if_neg (by have := lt_of_block hh; omega)]; exact hh
    · cases h
  case next x b =>
    cases b with
    | true => cases h
    | false =>
      simp only [] at h
      split at h
      · rename_i hx
        simp only [Option.some.injEq, Prod.mk.injEq] at h
        obtain ⟨rfl, rfl, rfl⟩ := h
        have hxv := (plain x _ (by simp [Op.operands]) hx).abs rfl
        simp only [Abs] at hxv
        obtain ⟨b, p, since, last, hxv, _, hb, _, hh⟩ := hxv
        refine fin (.tuple #[.bool false]) ?_ rfl (.of_abs (by simp only [Abs]; exact ⟨[.bool false], rfl, .cons (by simp only [Abs]) .nil⟩))
        have hgb : (getObj b).run P w = .ok (.mapIter (some p) since #[] last) w := by simp [getObj, Sem.run, hb]
        simp [execOp, Instr.next, hxv, hgb, run_getMap hh, Sem.run_bind, Sem.run, Sem.run_pure, Result.andThen, choose, Question.forced]
      · cases h
  case mapUpdate t x i v =>
    split at h
    · rename_i kt zv _ _ _ _ _ _ _ _ _ _ _ _ n k key d0 ht hx hi hv
      split at h
      · rename_i hfirm
        have hnl : d0.noLoc = true := by cases d0 <;> first | rfl | simp [DV.firm] at hfirm
        have hxv := (plain x _ (by simp [Op.operands]) hx).abs rfl
        have hiv := (plain i _ (by simp [Op.operands]) hi).abs rfl
        have hvv := (plain v _ (by simp [Op.operands]) hv).abs hnl
        simp only [Abs] at hxv hiv
        obtain ⟨p, hp, hxv⟩ := hxv
        obtain ⟨et, it, hut, hit, hzero⟩ := tiOf_map (hT _ _ ht) rfl
        split at h
        · rename_i kk _ _ _ _ _ _ ks vs ks' vs' _ _ _ _ hkt
          simp only [Option.some.injEq, Prod.mk.injEq] at h
          obtain ⟨rfl, rfl, rfl⟩ := h
          have hm : mu n 0 = some (.ents ks vs) := hob (.part _ _) (by simp)
          have hput0 : putD ks vs k key d0 = some (.ents ks' vs') := hob (.part _ _) (by simp)
          obtain ⟨_, es, cl, hh, hks, hvs⟩ := hmu.ents hm hp
          have huk := tiOf_int (hT _ _ hkt) rfl
          unfold putD at hput0
          simp only [Option.map_eq_some_iff] at hput0
          obtain ⟨⟨ka, va⟩, hput, he⟩ := hput0
          simp only [DV.ents.injEq] at he
          obtain ⟨rfl, rfl⟩ := he
          unfold putEnts at hput
          split at hput
          · rename_i j hkey
            simp only [Option.some.injEq, Prod.mk.injEq] at hput
            obtain ⟨rfl, rfl⟩ := hput
            obtain ⟨q, hq, hr⟩ := keyAt_find kk k key hks hkey
            rcases hr with ⟨h1, _⟩ | ⟨j', e', h1, _, h3, h4, h5⟩
            · cases h1
            cases h1
            rw [Nat.sub_zero] at h3
            have h3' : es[j]? = some e' := by simpa using h3
            have hrun : (execOp a.eval ⟨dst, .mapUpdate t x i v, type, pos, after, guard⟩).run P w = .ok .skip { w with heap := w.heap.setIfInBounds p (.map (es.modify j fun e => { e with key := a.eval i, val := a.eval v }) cl) } := by
              simp only [execOp, hxv, hiv, Instr.mapUpdate, Sem.run_bind, run_under hut, Result.andThen, run_getMap hh, Sem.run_pure, run_checkKey1 huk, Instr.findKey, run_under huk, hq, h4, Instr.keyThatStays, h3', Option.map_some, Option.getD_some, h5, Instr.sameBits, beq_self_eq_true, Bool.and_self, if_true, run_setMap _ hh]
            unfold Oper.wp
            rw [hrun]
            refine hnext undef _ ι ρ S (.putMap hnm hmu hp hm hh ?_ ?_)
            · have : (es.modify j fun e => { e with key := a.eval i, val := a.eval v }).toList.map (·.key) = (es.toList.map (·.key)).set j (a.eval i) := by
                rw [Array.toList_modify]; exact map_modify _ _ _ _ _ fun _ => rfl
              rw [this]
              exact hks.set (by rw [hiv]; simp only [Abs])
            · have : (es.modify j fun e => { e with key := a.eval i, val := a.eval v }).toList.map (·.val) = (es.toList.map (·.val)).set j (a.eval v) := by
                rw [Array.toList_modify]; exact map_modify _ _ _ _ _ fun _ => rfl
              rw [this]
              exact hvs.set hvv
          · rename_i hkey
            simp only [Option.some.injEq, Prod.mk.injEq] at hput
            obtain ⟨rfl, rfl⟩ := hput
            obtain ⟨q, hq, hr⟩ := keyAt_find kk k key hks hkey
            rcases hr with ⟨_, h1⟩ | ⟨j', e', h1, _⟩
            rotate_left
            · cases h1
            subst h1
            have hrun : (execOp a.eval ⟨dst, .mapUpdate t x i v, type, pos, after, guard⟩).run P w = .ok .skip { w with heap := w.heap.setIfInBounds p (.map (es.push { key := a.eval i, val := a.eval v, born := cl }) (cl + 1)) } := by
              simp only [execOp, hxv, hiv, Instr.mapUpdate, Sem.run_bind, run_under hut, Result.andThen, run_getMap hh, Sem.run_pure, run_checkKey1 huk, Instr.findKey, run_under huk, hq, run_setMap _ hh]
            unfold Oper.wp
            rw [hrun]
            refine hnext undef _ ι ρ S (.putMap hnm hmu hp hm hh ?_ ?_)
            · rw [Array.toList_push, List.map_append]
              exact hks.append (.cons (by rw [hiv]; simp only [Abs]) .nil)
            · rw [Array.toList_push, List.map_append]
              exact hvs.append (.cons hvv .nil)
          · cases hput
        · cases h
      · cases h
    · cases h
end
end Go.Proofs.YtpckjfncecoibaaGreat.Fun
