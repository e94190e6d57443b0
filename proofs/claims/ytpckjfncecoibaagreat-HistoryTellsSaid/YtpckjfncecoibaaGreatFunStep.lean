/- The small evaluator's operations are the model's: one operation. -/
import Derived.Test.YtpckjfncecoibaaGreatFunMap
namespace Go.Proofs.YtpckjfncecoibaaGreat.Fun
open Go
set_option linter.unusedSimpArgs false
set_option linter.unusedVariables false

section
variable {P : Program} {T : TypeId → Option TI}
variable (hT : ∀ t ti, T t = some ti → tiOf P t = some ti)
include hT

set_option maxHeartbeats 1000000 in
theorem monoOp_sound {o : Oper} {ev : Operand → Option DV} {lc : Nat → Option (List DV)} {le : Nat → Option TypeId} {say : Option Told} {mu : Mu} {d : DV} {e : Eff} {ob : List Ob} {dirty : Bool}
    (h : monoOp T ev lc le mu o say = some (d, e, ob, dirty)) (hob : ∀ x ∈ ob, x.ok P) {a : Act} {w : World} {ι ρ : Nat → Option Nat} {S : Nat → Prop} (hnm : Named ρ mu w)
    (sane : ∀ b, S b → b < w.heap.size) (hmu : MuOk ρ S w mu) (hev : ∀ x ∈ o.op.operands, ∀ d, ev x = some d → TAbs ι ρ S w d (a.eval x))
    (hιlt : ∀ n b, ι n = some b → b < w.heap.size) (hιD : ∀ n b, ι n = some b → ¬ Dom ρ mu b) (hfresh : ∀ n ∈ e.use, ρ n = none)
    (hlo : ∀ n b cs, ι n = some b → lc n = some cs → ∃ vs elem, w.heap[b]? = some (.cells vs elem (0, 0)) ∧ AbsL ρ S w cs vs.toList)
    (hel : ∀ n b t, ι n = some b → le n = some t → ∃ vs, w.heap[b]? = some (.cells vs t (0, 0)))
    {next : Act → World → Prop} {Q : Exit → Act → World → Prop} (hnext : ∀ v w' ι' ρ' S', MonoPost ι ρ S mu w o d e dirty v w' ι' ρ' S' → next (a.put o.dst v) w') :
    o.wp P a w next Q := by
  obtain ⟨dst, op, type, pos, after, guard⟩ := o
  have plain : ∀ (x : Operand) (d' : DV), x ∈ op.operands → ev x = some d' → TAbs ι ρ S w d' (a.eval x) := fun x d' hx he => hev x hx d' he
  -- a plain value
  have done : ∀ (x : Option DV), (x.map fun d => ((d, {}, [], false) : DV × Eff × List Ob × Bool)) = some (d, e, ob, dirty) → x = some d ∧ e = {} ∧ ob = [] ∧ dirty = false := by
    intro x hx
    cases x <;> simp at hx
    obtain ⟨rfl, rfl, rfl, rfl⟩ := hx
    exact ⟨rfl, rfl, rfl, rfl⟩
  have fin : ∀ v, (execOp a.eval ⟨dst, op, type, pos, after, guard⟩).run P w = .ok (.value v) w → e = {} → dirty = false → TAbs ι ρ S w d v → Oper.wp P ⟨dst, op, type, pos, after, guard⟩ a w next Q := by
    rintro v hr rfl rfl hv
    exact Oper.wp_value hr (hnext v w ι ρ S (.plain hnm hmu hv))
  -- a new block
  have newBlock : ∀ (cs : List DV) (vs : Array Value) (elem : TypeId), AbsL ρ S w cs vs.toList → d = .loc (dst.getD 0) 0 → e = { new := some cs, el := elem } → dirty = false →
      (execOp a.eval ⟨dst, op, type, pos, after, guard⟩).run P w = .ok (.value (.pointer (some ⟨w.heap.size, 0, none⟩))) { w with heap := w.heap.push (.cells vs elem) } → Oper.wp P ⟨dst, op, type, pos, after, guard⟩ a w next Q := by
    rintro cs vs elem hab rfl rfl rfl hr
    have hkeep : ∀ b, b < w.heap.size → (w.heap.push (.cells vs elem))[b]? = w.heap[b]? := fun b hb => by
      rw [Array.getElem?_push, if_neg (by omega)]
    have hkeep' : ∀ b, S b → (w.heap.push (.cells vs elem))[b]? = w.heap[b]? := fun b hb => hkeep b (sane b hb)
    refine Oper.wp_value hr (hnext _ { w with heap := w.heap.push (.cells vs elem) } (fun m => if m = dst.getD 0 then some w.heap.size else ι m) ρ S ?_)
    have hE : Ext ρ w ρ { w with heap := w.heap.push (.cells vs elem) } := .same fun n b hn => hkeep b (hnm.lt n b hn)
    refine ⟨rfl, rfl, rfl, by simp, fun b hb _ _ => hkeep b hb, fun _ b hb _ => hkeep b hb, fun _ h => h, fun _ h => .inl h, ⟨w.heap.size, by simp, rfl⟩, hmu.mono hE hkeep' (fun b hb => hkeep b (hmu.lt hb)) (fun _ h => h) (fun b hb => hmu.notS hb), fun _ h => .inl h, fun h => by simp at h, fun cs' h => ?_, hnm.mono (by simp), hE, fun _ _ h => .inl h, fun _ h => by simp at h⟩
    cases h
    exact ⟨w.heap.size, vs, fun m => rfl, Nat.le_refl _, by simp, by simp, AbsL.mono hE hkeep' (fun _ h => h) _ _ hab, fun h => by have := sane _ h; omega, fun h => by have := hmu.lt h; omega⟩
  -- a new block with a name
  have newNamed : ∀ (n : Nat) (cs : List DV) (cells : Array Value) (elem : TypeId), AbsL ρ S w cs cells.toList → d = .adr n 0 → e = { mu := some (updMu mu n 0 cs), use := [n] } → dirty = false →
      (execOp a.eval ⟨dst, op, type, pos, after, guard⟩).run P w = .ok (.value (.pointer (some ⟨w.heap.size, 0, none⟩))) { w with heap := w.heap.push (.cells cells elem) } → Oper.wp P ⟨dst, op, type, pos, after, guard⟩ a w next Q := by
    rintro n cs cells elem hab rfl rfl rfl hr
    refine Oper.wp_value hr (hnext _ { w with heap := w.heap.push (.cells cells elem) } ι (fun m => if m = n then some w.heap.size else ρ m) S ?_)
    have hn : ρ n = none := hfresh n (by simp)
    have hnone : ∀ o, mu n o = none := fun o => by
      cases hh : mu n o with
      | none => rfl
      | some e' => obtain ⟨p, hp, _⟩ := hmu n o e' hh; rw [hn] at hp; cases hp
    refine .ofNamed hnm hmu sane hn (cells := cells) (elem := elem) rfl rfl rfl rfl (fun b o hb => .inl ?_) (fun o d hd => ?_) ?_
    · rw [updMu_get, if_neg (by rintro ⟨rfl, _⟩; exact hb rfl)]
    · rw [updMu_get] at hd
      split at hd
      · obtain ⟨v, hv, ha⟩ := hab.get hd
        exact ⟨v, by simpa using hv, ha⟩
      · rw [hnone] at hd; cases hd
    · simp only [Abs]; exact ⟨w.heap.size, by simp, rfl⟩
  -- a new block that will have a name
  have newPend : ∀ (n : Nat) (cs : List DV) (cells : Array Value) (elem : TypeId), AbsL ρ S w cs cells.toList → d = .adr n 0 → e = { new := some cs, el := elem, use := [n], pend := some n } → dirty = false →
      (execOp a.eval ⟨dst, op, type, pos, after, guard⟩).run P w = .ok (.value (.pointer (some ⟨w.heap.size, 0, none⟩))) { w with heap := w.heap.push (.cells cells elem) } → Oper.wp P ⟨dst, op, type, pos, after, guard⟩ a w next Q := by
    rintro n cs cells elem hab rfl rfl rfl hr
    refine Oper.wp_value hr (hnext _ { w with heap := w.heap.push (.cells cells elem) } (fun m => if m = dst.getD 0 then some w.heap.size else ι m) (fun m => if m = n then some w.heap.size else ρ m) S ?_)
    exact .ofPend hnm hmu sane (hfresh n (by simp)) hab rfl rfl rfl rfl (by simp only [Abs]; exact ⟨w.heap.size, by simp, rfl⟩)
  cases op <;> simp only [monoOp] at h <;> first | (cases h; done) | skip
  case makeMap t r =>
    simp only [Option.map_eq_some_iff, Prod.mk.injEq] at h
    obtain ⟨⟨d1, e1, ob1⟩, hr, rfl, rfl, rfl, rfl⟩ := h
    exact mapOp_sound hT hr hob hnm sane hmu hev hfresh hnext
  case makeChan t x =>
    simp only [Option.map_eq_some_iff, Prod.mk.injEq] at h
    obtain ⟨⟨d1, e1, ob1⟩, hr, rfl, rfl, rfl, rfl⟩ := h
    exact mapOp_sound hT hr hob hnm sane hmu hev hfresh hnext
  case lookup t x i ok =>
    simp only [Option.map_eq_some_iff, Prod.mk.injEq] at h
    obtain ⟨⟨d1, e1, ob1⟩, hr, rfl, rfl, rfl, rfl⟩ := h
    exact mapOp_sound hT hr hob hnm sane hmu hev hfresh hnext
  case mapUpdate t x i v =>
    simp only [Option.map_eq_some_iff, Prod.mk.injEq] at h
    obtain ⟨⟨d1, e1, ob1⟩, hr, rfl, rfl, rfl, rfl⟩ := h
    exact mapOp_sound hT hr hob hnm sane hmu hev hfresh hnext
  case range t x =>
    simp only [Option.map_eq_some_iff, Prod.mk.injEq] at h
    obtain ⟨⟨d1, e1, ob1⟩, hr, rfl, rfl, rfl, rfl⟩ := h
    exact mapOp_sound hT hr hob hnm sane hmu hev hfresh hnext
  case next x b =>
    simp only [Option.map_eq_some_iff, Prod.mk.injEq] at h
    obtain ⟨⟨d1, e1, ob1⟩, hr, rfl, rfl, rfl, rfl⟩ := h
    exact mapOp_sound hT hr hob hnm sane hmu hev hfresh hnext
  case move x =>
    obtain ⟨hx, rfl, rfl, rfl⟩ := done _ h
    exact fin _ (by simp [execOp, Sem.run_pure]) rfl rfl (plain x d (by simp [Op.operands]) hx)
  case assign x =>
    obtain ⟨hx, rfl, rfl, rfl⟩ := done _ h
    exact fin _ (by simp [execOp, Sem.run_pure]) rfl rfl (plain x d (by simp [Op.operands]) hx)
  case pick c x y =>
    split at h
    · rename_i hc
      simp only [Option.map_eq_some_iff, Prod.mk.injEq] at h
      obtain ⟨d0, hx, rfl, rfl, rfl, rfl⟩ := h
      have hty := hob (.eq _ _) (List.mem_singleton.2 rfl)
      simp only [Ob.ok] at hty
      subst hty
      have hcv := (plain c _ (by simp [Op.operands]) hc).abs rfl
      simp only [Abs] at hcv
      refine fin _ (by simp [execOp, hcv, asBool, Sem.run_pure]; rfl) rfl rfl ?_
      split at hx
      · rename_i ht
        rw [if_pos ht]
        exact plain x _ (by simp [Op.operands]) hx
      · rename_i ht
        rw [if_neg ht]
        exact plain y _ (by simp [Op.operands]) hx
    · cases h
  case box elem x =>
    split at h
    · rename_i d' hx
      split at h
      · rename_i hf
        simp only [Option.some.injEq, Prod.mk.injEq] at h
        obtain ⟨rfl, rfl, rfl, rfl⟩ := h
        have hnl : d'.noLoc = true := by cases d' <;> first | rfl | simp [DV.firm] at hf
        have hany : d' ≠ .any := by rintro rfl; simp [DV.firm] at hf
        have hv := (plain x d' (by simp [Op.operands]) hx).abs hnl
        exact newBlock _ (a.eval x).cells elem (hv.cells hany) rfl rfl rfl (by simp [execOp, Instr.box, newVar, newRow, newObj, Sem.run_bind, Sem.run, Sem.run_pure, Result.andThen])
      · cases h
    · rename_i d' _ _ _ n hx
      split at h
      · rename_i hf
        simp only [Option.some.injEq, Prod.mk.injEq] at h
        obtain ⟨rfl, rfl, rfl, rfl⟩ := h
        have hnl : d'.noLoc = true := by cases d' <;> first | rfl | simp [DV.firm] at hf
        have hany : d' ≠ .any := by rintro rfl; simp [DV.firm] at hf
        have hv := (plain x d' (by simp [Op.operands]) hx).abs hnl
        exact newNamed _ _ (a.eval x).cells elem (hv.cells hany) rfl rfl rfl (by simp [execOp, Instr.box, newVar, newRow, newObj, Sem.run_bind, Sem.run, Sem.run_pure, Result.andThen])
      · cases h
    · rename_i d' _ _ _ n hx
      split at h
      · rename_i hf
        simp only [Option.some.injEq, Prod.mk.injEq] at h
        obtain ⟨rfl, rfl, rfl, rfl⟩ := h
        have hnl : d'.noLoc = true := by cases d' <;> first | rfl | simp [DV.firm] at hf
        have hany : d' ≠ .any := by rintro rfl; simp [DV.firm] at hf
        have hv := (plain x d' (by simp [Op.operands]) hx).abs hnl
        exact newPend _ _ (a.eval x).cells elem (hv.cells hany) rfl rfl rfl (by simp [execOp, Instr.box, newVar, newRow, newObj, Sem.run_bind, Sem.run, Sem.run_pure, Result.andThen])
      · cases h
    · cases h
  case alloc t =>
    split at h
    · rename_i _ _ z _ _ _ _ _ _ _ _ _ hz
      obtain ⟨i, u, hi, hu, _, _, hzero, _⟩ := tiOf_spec (hT _ _ hz)
      simp only at hzero
      cases hzi : i.zero with
      | none => rw [hzi] at hzero; simp at hzero
      | some zv =>
      rw [hzi] at hzero
      simp only [Option.map_some, Option.some.injEq] at hzero
      split at h
      · rename_i cs hcs
        simp only [Option.some.injEq, Prod.mk.injEq] at h
        obtain ⟨rfl, rfl, rfl, rfl⟩ := h
        exact newBlock cs zv.cells t (by rw [← hzero]; exact mapM_const hcs) rfl rfl rfl (by
          simp [execOp, Instr.alloc, zeroValue, newVar, newRow, newObj, run_info hi, hzi, Sem.run_bind, Sem.run, Sem.run_pure, Result.andThen])
      · rename_i cs _ _ _ n hcs
        simp only [Option.some.injEq, Prod.mk.injEq] at h
        obtain ⟨rfl, rfl, rfl, rfl⟩ := h
        exact newNamed _ cs zv.cells t (by rw [← hzero]; exact mapM_const hcs) rfl rfl rfl (by
          simp [execOp, Instr.alloc, zeroValue, newVar, newRow, newObj, run_info hi, hzi, Sem.run_bind, Sem.run, Sem.run_pure, Result.andThen])
      · rename_i cs _ _ _ n hcs
        simp only [Option.some.injEq, Prod.mk.injEq] at h
        obtain ⟨rfl, rfl, rfl, rfl⟩ := h
        exact newPend _ cs zv.cells t (by rw [← hzero]; exact mapM_const hcs) rfl rfl rfl (by
          simp [execOp, Instr.alloc, zeroValue, newVar, newRow, newObj, run_info hi, hzi, Sem.run_bind, Sem.run, Sem.run_pure, Result.andThen])
      · cases h
    · cases h
  case buildSlice t len parts =>
    split at h
    · rename_i _ _ _ _ el _ _ _ _ _ _ _ ps ht hps
      split at h
      · rename_i sz _ zl _ _ _ _ _ _ _ _ _ hte
        split at h
        · rename_i hle
          have hle : len * sz ≤ 16777216 := of_decide_eq_true hle
          split at h
          case h_2 => cases h
          rename_i cs hfill
          obtain ⟨_, ut, _, hut, _, _, _, _, hel', _⟩ := tiOf_spec (hT _ _ ht)
          simp only at hel'
          cases ut <;> simp only [] at hel' <;> first | (cases hel'; done) | skip
          simp only [Option.some.injEq] at hel'
          subst hel'
          obtain ⟨it, _, hit, _, hst, _, hzero, _⟩ := tiOf_spec (hT _ _ hte)
          simp only at hst hzero
          subst hst
          cases hzi : it.zero with
          | none => rw [hzi] at hzero; simp at hzero
          | some zv =>
          obtain ⟨hl, hg⟩ := evPairs_get hps
          let zero : Array Value := if len * it.size = 0 then #[] else zv.cells
          let cells0 : Array Value := (Array.range (len * it.size)).map (zero[· % zero.size]!)
          obtain ⟨out, hout, hab⟩ := fillRow_spec (ρ := ρ) (S := S) (w := w) it.size (us := parts.toList.map fun (i, x) => (i, a.eval x)) hfill (vs := cells0.toList) (.of_get (by simp [cells0]) fun i d v hd _ => by
              rw [List.getElem?_replicate] at hd
              split at hd
              · cases hd; simp only [Abs]
              · cases hd) (by simp [hl]) (fun k i d' j v hk hu' => by
            obtain ⟨x, hxk, hex⟩ := hg k i d' hk
            rw [List.getElem?_map, hxk] at hu'
            simp only [Option.map_some, Option.some.injEq, Prod.mk.injEq] at hu'
            obtain ⟨rfl, rfl⟩ := hu'
            refine ⟨rfl, fun hn => (plain x d' ?_ hex).abs hn⟩
            simp only [Op.operands, List.mem_toArray, List.mem_map]
            exact ⟨(i, x), List.mem_of_getElem? hxk, rfl⟩)
          rw [Array.toArray_toList] at hout
          have hrun : (execOp a.eval ⟨dst, .buildSlice t len parts, type, pos, after, guard⟩).run P w = .ok (.value (.slice (some ⟨w.heap.size, 0, none⟩) len len)) { w with heap := w.heap.push (.cells out el) } := by
            have e3 : (Array.map (fun (x : Nat × Operand) => match x with | (i, x) => (i, a.eval x)) parts).toList = parts.toList.map fun (i, x) => (i, a.eval x) := by simp
            simp only [execOp, Instr.buildSlice, Sem.run_bind, run_under hut, run_size hit, Result.andThen]
            rw [if_neg (by omega)]
            have hout2 : Instr.fill (fun i => some (i * it.size, it.size)) cells0 (parts.toList.map fun (i, x) => (i, a.eval x)) = some out := hout
            simp only [cells0, zero] at hout2
            by_cases h0 : len * it.size = 0
            · rw [if_pos h0] at hout2
              rw [if_pos h0]
              simp only [Sem.run_bind, Sem.run_pure, Result.andThen]
              rw [e3, hout2]
              rfl
            · rw [if_neg h0] at hout2
              rw [if_neg h0]
              simp only [zeroValue, run_info hit, hzi, Sem.run_bind, Sem.run_pure, Result.andThen]
              rw [e3, hout2]
              rfl
          have hkeep : ∀ b, b < w.heap.size → (w.heap.push (.cells out el))[b]? = w.heap[b]? := fun b hb => by
            rw [Array.getElem?_push, if_neg (by omega)]
          have hE : Ext ρ w ρ { w with heap := w.heap.push (.cells out el) } := .same fun n b hn => hkeep b (hnm.lt n b hn)
          split at h
          · rename_i n
            simp only [Option.some.injEq, Prod.mk.injEq] at h
            obtain ⟨rfl, rfl, rfl, rfl⟩ := h
            have hcl : decide (cs.length = len * it.size) = true := hob (.eq _ _) (by simp)
            have hcl := of_decide_eq_true hcl
            have hol := hab.length
            rw [Array.length_toList] at hol
            have hn : ρ n = none := hfresh n (by simp)
            have hnone : ∀ o, mu n o = none := fun o => by
              cases hh : mu n o with
              | none => rfl
              | some e' => obtain ⟨p, hp, _⟩ := hmu n o e' hh; rw [hn] at hp; cases hp
            refine Oper.wp_value hrun (hnext _ { w with heap := w.heap.push (.cells out el) } ι (fun m => if m = n then some w.heap.size else ρ m) S ?_)
            refine .ofNamed hnm hmu sane hn (cells := out) (elem := el) rfl rfl rfl rfl (fun b o hb => .inl (by rw [updMu_get, if_neg (by rintro ⟨rfl, _⟩; exact hb rfl)])) (fun o d hd => ?_) ?_
            · rw [updMu_get] at hd
              split at hd
              · obtain ⟨v, hv, ha⟩ := hab.get hd
                exact ⟨v, by simpa using hv, ha⟩
              · rw [hnone] at hd; cases hd
            · simp only [Abs]
              exact ⟨_, len, rfl, Nat.le_refl _, .inr ⟨w.heap.size, by simp, rfl, out, el, by show (w.heap.push _)[w.heap.size]? = _; simp, by omega⟩⟩
          · rename_i n
            simp only [Option.some.injEq, Prod.mk.injEq] at h
            obtain ⟨rfl, rfl, rfl, rfl⟩ := h
            have hcl : decide (cs.length = len * it.size) = true := hob (.eq _ _) (by simp)
            have hcl := of_decide_eq_true hcl
            have hol := hab.length
            rw [Array.length_toList] at hol
            refine Oper.wp_value hrun (hnext _ { w with heap := w.heap.push (.cells out el) } (fun m => if m = dst.getD 0 then some w.heap.size else ι m) (fun m => if m = n then some w.heap.size else ρ m) S ?_)
            refine .ofPend hnm hmu sane (hfresh n (by simp)) hab rfl rfl rfl rfl ?_
            simp only [Abs]
            exact ⟨_, len, rfl, Nat.le_refl _, .inr ⟨w.heap.size, by simp, rfl, out, el, by show (w.heap.push _)[w.heap.size]? = _; simp, by omega⟩⟩
          simp only [Option.some.injEq, Prod.mk.injEq] at h
          obtain ⟨rfl, rfl, rfl, rfl⟩ := h
          refine Oper.wp_value hrun (hnext _ { w with heap := w.heap.push (.cells out el) } ι ρ (fun b => S b ∨ b = w.heap.size) ?_)
          refine ⟨rfl, rfl, rfl, by simp, fun b hb _ _ => hkeep b hb, fun _ b hb _ => hkeep b hb, fun _ h => .inl h, fun b h => ?_, ?_, hmu.mono hE (fun b hb => hkeep b (sane b hb)) (fun b hb => hkeep b (hmu.lt hb)) (fun _ h => .inl h) (fun b hb hS => ?_), fun _ h => .inl h, fun _ => rfl, fun _ h => by simp at h, hnm.mono (by simp), hE, fun _ _ h => .inl h, fun _ h => by simp at h⟩
          · rcases h with h | h
            · exact .inl h
            · exact .inr (.inl ⟨by omega, by subst h; simp⟩)
          · by_cases h0 : len = 0
            · rw [if_pos h0]
              simp only [TAbs, Abs, h0]
              exact ⟨_, rfl⟩
            · rw [if_neg h0]
              simp only [TAbs, Abs]
              refine ⟨_, _, out.toList, rfl, Nat.le_refl _, AbsL.mono hE (fun b hb => hkeep b (sane b hb)) (fun _ h => .inl h) _ _ hab, .inr ⟨w.heap.size, 0, rfl, .inr rfl, CellsAt.of_block (elem := el) (show (w.heap.push (Obj.cells out el))[w.heap.size]? = some (.cells out el (0, 0)) by simp)⟩⟩
          · rcases hS with h | h
            · exact hmu.notS hb h
            · have := hmu.lt hb; omega
        · cases h
      · cases h
    · cases h
  case makeSlice t x y =>
    split at h
    · rename_i _ _ _ _ el _ _ _ _ _ _ _ kl l kc c _ _ _ n pd ht hx hy
      split at h
      · rename_i sz _ zl _ _ _ _ _ _ _ _ hte
        split at h
        · rename_i zs hzs
          split at h
          case isFalse => cases h
          rename_i hzl
          have hd1 : decide (0 ≤ l ∧ l = c ∧ l ≤ 1000000000) = true := hob (.eq _ _) (by split at h <;> (simp only [Option.some.injEq, Prod.mk.injEq] at h; obtain ⟨_, _, rfl, _⟩ := h; simp))
          obtain ⟨h0, hlc, hle⟩ := of_decide_eq_true hd1
          subst hlc
          obtain ⟨_, ut, _, hut, _, _, _, _, hel', _⟩ := tiOf_spec (hT _ _ ht)
          simp only at hel'
          cases ut <;> simp only [] at hel' <;> first | (cases hel'; done) | skip
          simp only [Option.some.injEq] at hel'
          subst hel'
          obtain ⟨it, _, hit, _, hst, _, hzero, _, _, _, _, _, _, hroomb, _, _⟩ := tiOf_spec (hT _ _ hte)
          simp only at hst hzero hroomb
          subst hst
          have hbytes : it.bytes ≤ 1024 := of_decide_eq_true hroomb.symm
          cases hzi : it.zero with
          | none => rw [hzi] at hzero; simp at hzero
          | some zv =>
          rw [hzi] at hzero
          simp only [Option.map_some, Option.some.injEq] at hzero
          have hxv := (plain x _ (by simp [Op.operands]) hx).abs rfl
          have hyv := (plain y _ (by simp [Op.operands]) hy).abs rfl
          simp only [Abs] at hxv hyv
          have hb2 : (it.bytes : Int) * l ≤ 281474976710656 := by
            have := Int.mul_le_mul (show (it.bytes : Int) ≤ 1024 by omega) hle h0 (by omega)
            omega
          have hr := run_make (P := P) w t el it zv hut hit hzi kl kc l l h0 (Int.le_refl _) hb2 (by omega)
          have hcell : ∀ o, o < l.toNat * it.size → ∀ d, zs[o % it.size]? = some d → ∃ v, (madeCells zv.cells (l.toNat * it.size))[o]? = some v ∧ Abs ρ S w d v := by
            intro o ho d hd
            have hzab := mapM_const (ρ := ρ) (w := w) (S := S) hzs
            obtain ⟨v, hv, ha⟩ := hzab.get hd
            refine ⟨v, ?_, ha⟩
            have hzc : zv.cells.toList = zl := by rw [hzero]
            have hlt := (List.getElem?_eq_some_iff.1 hv).1
            have hzsz : zv.cells.size = it.size := by rw [← hzl, ← hzc]; simp
            have hget : (madeCells zv.cells (l.toNat * it.size))[o]? = some (zv.cells[o % zv.cells.size]!) := by
              unfold madeCells
              simp [ho]
            rw [hget, hzsz]
            have h2 : zv.cells[o % it.size]? = some v := by rw [← Array.getElem?_toList, hzc]; exact hv
            rw [getElem!_def, h2]
          have hexec : (execOp a.eval ⟨dst, .makeSlice t x y, type, pos, after, guard⟩).run P w = .ok (.value (.slice (some ⟨w.heap.size, 0, none⟩) l.toNat l.toNat)) (w.alloc (.cells (madeCells zv.cells (l.toNat * it.size)) el)) := by
            simp only [execOp, hxv, hyv, hr, Sem.run_bind, Result.andThen, Sem.run_pure]
          split at h
          · simp only [Option.some.injEq, Prod.mk.injEq] at h
            obtain ⟨rfl, rfl, rfl, rfl⟩ := h
            refine Oper.wp_value (v := .slice (some ⟨w.heap.size, 0, none⟩) l.toNat l.toNat) (w' := w.alloc (.cells (madeCells zv.cells (l.toNat * it.size)) el)) hexec (hnext _ _ (fun m => if m = dst.getD 0 then some w.heap.size else ι m) (fun m => if m = n then some w.heap.size else ρ m) S ?_)
            refine .ofPend hnm hmu sane (hfresh n (by simp)) (cells := madeCells zv.cells (l.toNat * it.size)) (.of_get ?_ fun i d v hd hv => ?_) rfl rfl rfl rfl ?_
            · have hzl2 : zs.length = it.size := by rw [← hzl]; exact (mapM_const (ρ := ρ) (w := w) (S := S) hzs).length.symm
              rw [freshRow_length, Array.length_toList, size_madeCells, hzl2]
            · have hzl2 : zs.length = it.size := by rw [← hzl]; exact (mapM_const (ρ := ρ) (w := w) (S := S) hzs).length.symm
              have hlt := (List.getElem?_eq_some_iff.1 hd).1
              rw [freshRow_length, hzl2] at hlt
              rw [freshRow_get, hzl2, if_pos hlt] at hd
              obtain ⟨u, hu, ha⟩ := hcell i hlt d hd
              rw [Array.getElem?_toList, hu] at hv
              cases hv; exact ha
            · simp only [Abs]
              refine ⟨_, l.toNat, rfl, Nat.le_refl _, .inr ⟨w.heap.size, by simp, rfl, madeCells zv.cells (l.toNat * it.size), el, ?_, by rw [size_madeCells]; omega⟩⟩
              show (w.heap.push _)[w.heap.size]? = _
              simp
          simp only [Option.some.injEq, Prod.mk.injEq] at h
          obtain ⟨rfl, rfl, rfl, rfl⟩ := h
          have hn : ρ n = none := hfresh n (by simp)
          refine Oper.wp_value (v := .slice (some ⟨w.heap.size, 0, none⟩) l.toNat l.toNat) (w' := w.alloc (.cells (madeCells zv.cells (l.toNat * it.size)) el)) (by simp only [execOp, hxv, hyv, hr, Sem.run_bind, Result.andThen, Sem.run_pure]) (hnext _ _ ι (fun m => if m = n then some w.heap.size else ρ m) S ?_)
          refine .ofNamed hnm hmu sane hn (cells := madeCells zv.cells (l.toNat * it.size)) (elem := el) rfl rfl rfl rfl (fun b o hb => .inl (if_neg hb)) (fun o d hd => ?_) ?_
          · rw [if_pos rfl] at hd
            split at hd
            · rename_i ho
              have hzab := mapM_const (ρ := ρ) (w := w) (S := S) hzs
              obtain ⟨v, hv, ha⟩ := hzab.get hd
              refine ⟨v, ?_, ha⟩
              have hlz := hzab.length
              have hzc : zv.cells.toList = zl := by rw [hzero]
              have hlt := (List.getElem?_eq_some_iff.1 hv).1
              have hpos : o < l.toNat * it.size := ho
              have hzsz : zv.cells.size = it.size := by rw [← hzl, ← hzc]; simp
              have hget : (madeCells zv.cells (l.toNat * it.size))[o]? = some (zv.cells[o % zv.cells.size]!) := by
                unfold madeCells
                simp [hpos]
              rw [hget, hzsz]
              have h2 : zv.cells[o % it.size]? = some v := by rw [← Array.getElem?_toList, hzc]; exact hv
              rw [getElem!_def, h2]
            · cases hd
          · simp only [Abs]
            refine ⟨_, l.toNat, rfl, Nat.le_refl _, .inr ⟨w.heap.size, by simp, rfl, madeCells zv.cells (l.toNat * it.size), el, ?_, by rw [size_madeCells]; omega⟩⟩
            show (w.heap.push _)[w.heap.size]? = _
            simp
        · cases h
      · cases h
    · cases h
  case build t parts =>
    split at h
    · rename_i _ _ z fs _ _ _ _ _ _ _ _ hz
      split at h
      · rename_i cs ps hcs hps
        split at h
        · rename_i hall
          obtain ⟨hx, rfl, rfl, rfl⟩ := done _ h
          simp only [Option.map_eq_some_iff] at hx
          obtain ⟨ds, hfill, rfl⟩ := hx
          obtain ⟨i, u, hi, hu, h1, h2, hzero, hfields, h3⟩ := tiOf_spec (hT _ _ hz)
          clear h1 h2 h3
          simp only at hzero hfields
          cases hzi : i.zero with
          | none => rw [hzi] at hzero; simp at hzero
          | some zv =>
          rw [hzi] at hzero
          simp only [Option.map_some, Option.some.injEq] at hzero
          cases u <;> simp only [] at hfields <;> first | (cases hfields; done) | skip
          rename_i fields
          simp only [Option.some.injEq] at hfields
          obtain ⟨places, hpl, hplg⟩ := mapM_places (P := P) w fields.toList (fun f hf => by
            rw [List.all_eq_true] at hall
            have := hall (f.offset, f.type) (by rw [hfields]; exact List.mem_map.2 ⟨f, hf, rfl⟩)
            cases hTf : T f.type with
            | none => rw [hTf] at this; simp at this
            | some ti => obtain ⟨i', _, hi', _⟩ := tiOf_spec (hT _ _ hTf); exact ⟨i', hi'⟩)
          obtain ⟨hl, hg⟩ := evPairs_get hps
          obtain ⟨out, hout, hab⟩ := fill_spec (P := P) hT places.toArray (fun i off t ti hfi hti => by
              rw [hfields, List.getElem?_map] at hfi
              cases hff : fields.toList[i]? with
              | none => rw [hff] at hfi; cases hfi
              | some f =>
                rw [hff] at hfi
                simp only [Option.map_some, Option.some.injEq, Prod.mk.injEq] at hfi
                obtain ⟨rfl, rfl⟩ := hfi
                obtain ⟨info, hinfo, hpi⟩ := hplg i f hff
                obtain ⟨i', _, hi', _, hs', _⟩ := tiOf_spec hti
                rw [hinfo] at hi'; cases hi'
                rw [hs']; simpa using hpi)
            (S := S) (w := w) (us := parts.toList.map fun (i, x) => (i, a.eval x)) hfill (mapM_const hcs) (by simp [hl])
            (fun k i d' j v hk hu' => by
              obtain ⟨x, hxk, hex⟩ := hg k i d' hk
              rw [List.getElem?_map, hxk] at hu'
              simp only [Option.map_some, Option.some.injEq, Prod.mk.injEq] at hu'
              obtain ⟨rfl, rfl⟩ := hu'
              refine ⟨rfl, fun hn => (plain x d' ?_ hex).abs hn⟩
              simp only [Op.operands, List.mem_toArray, List.mem_map]
              exact ⟨(i, x), List.mem_of_getElem? hxk, rfl⟩)
          refine fin (.agg out) ?_ rfl rfl (by simp only [TAbs, Abs]; exact ⟨out.toList, rfl, hab⟩)
          have e1 : (fields.mapM fun f => do pure (f.offset, ← sizeOf f.type) : Sem (Array (Nat × Nat))).run P w = .ok places.toArray w := by
            rw [Array.mapM_eq_mapM_toList, Sem.run_map, hpl]; rfl
          have e2 : zv.cells = z.toArray := by rw [hzero]
          simp only [execOp, Instr.build, zeroValue, run_info hi, hzi, Sem.run_bind, Sem.run_pure, Result.andThen, run_under hu, e1]
          rw [e2]
          have e3 : (Array.map (fun (x : Nat × Operand) => match x with | (i, x) => (i, a.eval x)) parts).toList = parts.toList.map fun (i, x) => (i, a.eval x) := by simp
          rw [e3, hout]
          rfl
        · cases h
      · cases h
    · rename_i z _ _ _ _ _ _ _ m el _ hfn hz
      split at h
      · rename_i te cs ps hte hcs hps
        obtain ⟨hx, rfl, rfl, rfl⟩ := done _ h
        simp only [Option.map_eq_some_iff] at hx
        obtain ⟨ds, hfill, rfl⟩ := hx
        obtain ⟨i, u, hi, hu, h1, h2, hzero, h3⟩ := tiOf_spec (hT _ _ hz)
        have hut := tiOf_arr (hT _ _ hz) rfl hu
        clear h1 h2 h3
        simp only at hzero
        cases hzi : i.zero with
        | none => rw [hzi] at hzero; simp at hzero
        | some zv =>
        rw [hzi] at hzero
        simp only [Option.map_some, Option.some.injEq] at hzero
        subst hut
        obtain ⟨ie, _, hie, _, hse, _⟩ := tiOf_spec (hT _ _ hte)
        obtain ⟨hl, hg⟩ := evPairs_get hps
        obtain ⟨out, hout, hab⟩ := fillRow_spec (ρ := ρ) (S := S) (w := w) te.size (us := parts.toList.map fun (i, x) => (i, a.eval x)) hfill (mapM_const hcs) (by simp [hl])
          (fun k i d' j v hk hu' => by
            obtain ⟨x, hxk, hex⟩ := hg k i d' hk
            rw [List.getElem?_map, hxk] at hu'
            simp only [Option.map_some, Option.some.injEq, Prod.mk.injEq] at hu'
            obtain ⟨rfl, rfl⟩ := hu'
            refine ⟨rfl, fun hn => (plain x d' ?_ hex).abs hn⟩
            simp only [Op.operands, List.mem_toArray, List.mem_map]
            exact ⟨(i, x), List.mem_of_getElem? hxk, rfl⟩)
        refine fin (.agg out) ?_ rfl rfl (by simp only [TAbs, Abs]; exact ⟨out.toList, rfl, hab⟩)
        have e2 : zv.cells = z.toArray := by rw [hzero]
        simp only [execOp, Instr.build, zeroValue, run_info hi, hzi, Sem.run_bind, Sem.run_pure, Result.andThen, run_under hu, run_size hie]
        rw [e2]
        have e3 : (Array.map (fun (x : Nat × Operand) => match x with | (i, x) => (i, a.eval x)) parts).toList = parts.toList.map fun (i, x) => (i, a.eval x) := by simp
        rw [e3, ← hse, hout]
        rfl
      · cases h
    · cases h
  case load t x =>
    split at h
    · rename_i ti hti hx
      split at h
      · rename_i hc
        simp only [Bool.and_eq_true, beq_iff_eq] at hc
        obtain ⟨hp, rfl, rfl, rfl⟩ := done _ h
        cases hp
        have hv := (plain x _ (by simp [Op.operands]) hx).abs rfl
        simp only [Abs] at hv
        obtain ⟨a0, hv⟩ := hv
        obtain ⟨i, u, hi, hu, hsz, hag, _⟩ := tiOf_spec (hT _ _ hti)
        exact fin (.agg #[]) (by
          simp only [execOp, hv, Instr.loadAt, Instr.sureAddr, Sem.run_bind, Sem.run_pure, Result.andThen, loadVar, run_agg hu, ← hag, hc.1, if_true, run_size hi, ← hsz, hc.2, loadCells, loadCellsFrom]) rfl rfl (by simp only [TAbs, Abs]; exact ⟨[], rfl, .nil⟩)
      · cases h
    · rename_i ti n off hti hx
      split at h
      · rename_i cs hcs
        obtain ⟨hp, rfl, rfl, rfl⟩ := done _ h
        obtain ⟨b, hb, hv⟩ := plain x _ (by simp [Op.operands]) hx
        obtain ⟨vs, elem, hheap, hab⟩ := hlo n b cs hb hcs
        obtain ⟨v, hr, hd⟩ := run_loadAt (hT _ _ hti) (off := off) (by have := (CellsAt.of_block hheap).drop off; rwa [Nat.zero_add] at this) (hab.drop off) (partOf_drop _ _ _ _ hp)
        exact fin v (by simp [execOp, hv, hr, Sem.run_bind, Result.andThen, Sem.run_pure]) rfl rfl (.of_abs hd)
      · cases h
    · rename_i ti cs hti hx
      obtain ⟨hp, rfl, rfl⟩ : partOf ti cs 0 = some d ∧ e = {} ∧ dirty = false := by
        split at h
        · rename_i x0
          simp only [Option.some.injEq, Prod.mk.injEq] at h
          obtain ⟨rfl, rfl, rfl, rfl⟩ := h
          exact ⟨hob (.part _ _) (by simp), rfl, rfl⟩
        · obtain ⟨hp, rfl, rfl, rfl⟩ := done _ h
          exact ⟨hp, rfl, rfl⟩
      have hv := (plain x _ (by simp [Op.operands]) hx).abs rfl
      simp only [Abs] at hv
      obtain ⟨b, off, vs, hv, _, hc, hab⟩ := hv
      obtain ⟨v, hr, hd⟩ := run_loadAt (hT _ _ hti) hc hab hp
      exact fin v (by simp [execOp, hv, hr, Sem.run_bind, Result.andThen, Sem.run_pure]) rfl rfl (.of_abs hd)
    · rename_i ti b off hti hx
      split at h
      · rename_i x0
        by_cases hcond : (x0.d.firm && (ti.agg == x0.d.isAgg) && x0.d.cells.length == ti.size && x0.d.cells.all DV.plain) = true
        · rw [if_pos hcond] at h
          simp only [Bool.and_eq_true, beq_iff_eq] at hcond
          obtain ⟨⟨⟨hfirm, hag⟩, hsz⟩, hpla⟩ := hcond
          simp only [Option.some.injEq, Prod.mk.injEq] at h
          obtain ⟨rfl, rfl, rfl, rfl⟩ := h
          have hv := (plain x _ (by simp [Op.operands]) hx).abs rfl
          simp only [Abs] at hv
          obtain ⟨p, hpn, hv⟩ := hv
          obtain ⟨vs, hc, hab⟩ := hmu.row hpn (off := off) (.inl hpla) (cellObs_get hob)
          have hp : partOf ti x0.d.cells 0 = some x0.d := by
            unfold partOf
            rw [hag, ← hsz]
            cases x0.d <;> simp [DV.cells, DV.isAgg]
          obtain ⟨v, hr, hd⟩ := run_loadAt (hT _ _ hti) hc hab hp
          exact fin v (by simp [execOp, hv, hr, Sem.run_bind, Result.andThen, Sem.run_pure]) rfl rfl (.of_abs hd)
        · rw [if_neg hcond] at h; cases h
      · cases h
    · cases h
  case nilCheck x =>
    split at h
    · rename_i b off hx
      obtain ⟨hd, rfl, rfl, rfl⟩ := done _ h
      cases hd
      have hv := (plain x _ (by simp [Op.operands]) hx).abs rfl
      simp only [Abs] at hv
      obtain ⟨p, hpn, hv⟩ := hv
      exact fin (.pointer (some ⟨p, off, none⟩)) (by simp only [execOp, hv, Sem.run_pure]) rfl rfl (by simp only [TAbs, Abs]; exact ⟨p, hpn, rfl⟩)
    · rename_i cs hx
      obtain ⟨hd, rfl, rfl, rfl⟩ := done _ h
      cases hd
      have hv := (plain x _ (by simp [Op.operands]) hx).abs rfl
      simp only [Abs] at hv
      obtain ⟨b, off, vs, hv, hrest⟩ := hv
      exact fin (.pointer (some ⟨b, off, none⟩)) (by simp only [execOp, hv, Sem.run_pure]) rfl rfl (by simp only [TAbs, Abs]; exact ⟨b, off, vs, rfl, hrest⟩)
    · cases h
  case binOp op t x y t' =>
    split at h
    · rename_i b hnil
      obtain ⟨hd, rfl, rfl, rfl⟩ := done _ h
      cases hd
      obtain ⟨d0, hx, hl, rfl, hrun⟩ := nilD_run hT hnil
      have hxv := (plain x _ (by simp [Op.operands]) hx).abs hl
      exact fin (.bool b) (by
        simp only [execOp, Sem.run_bind, Result.andThen]
        have := hrun ρ S w _ hxv
        simp only [Sem.run_bind, Result.andThen, Act.eval] at this ⊢
        rw [this]; rfl) rfl rfl (.of_abs (by simp only [Abs]))
    rename_i hno
    clear hno
    have hdone : binD T ev op t x y = some d ∧ e = {} ∧ dirty = false := by
      split at h
      · rename_i d0 b0 hdv
        simp only [Option.some.injEq, Prod.mk.injEq] at h
        obtain ⟨rfl, rfl, rfl, rfl⟩ := h
        have hb0 : b0 = true := hob (.eq _ _) (by simp)
        subst hb0
        refine ⟨?_, rfl, rfl⟩
        unfold divD at hdv
        split at hdv
        all_goals first
          | (cases hdv; done)
          | (rename_i k a k' b hx hy
             split at hdv
             · rename_i hk
               subst hk
               simp only [Option.some.injEq, Prod.mk.injEq, decide_eq_true_eq] at hdv
               obtain ⟨rfl, hb⟩ := hdv
               simp only [binD, isShift, Bool.false_eq_true, if_false, hx, hy, if_true, binInt, if_neg hb]
             · cases hdv)
      · obtain ⟨q1, q2, q3, q4⟩ := done _ h
        exact ⟨q1, q2, q4⟩
    obtain ⟨hb, rfl, rfl⟩ := hdone
    obtain ⟨dx, dy, hx, hnx, hny, hy, hr⟩ := binD_spec (P := P) hT hb
    have hxv := (plain x _ (by simp [Op.operands]) hx).abs hnx
    obtain ⟨hgd, hr, hd⟩ := hr (a.eval x) (a.eval y) ρ S w hxv (fun he => (plain y _ (by simp [Op.operands]) he).abs hny) (fun v hv => by rw [hv]; rfl)
    exact fin (toV d) (by simp only [execOp, Sem.run_bind, hgd, Result.andThen, hr, Sem.run_pure]) rfl rfl (.of_abs (hd ρ S))
  case unOp op t x =>
    split at h
    · rename_i d' hx
      obtain ⟨hu, rfl, rfl, rfl⟩ := done _ h
      cases d' <;> simp only [unOf] at hu <;> first | (cases hu; done) | skip
      rename_i b
      cases op <;> simp only [Option.some.injEq] at hu <;> first | (cases hu; done) | skip
      subst hu
      have hxv := (plain x _ (by simp [Op.operands]) hx).abs rfl
      simp only [Abs] at hxv
      exact fin (.bool !b) (by simp only [execOp, hxv, Op.unary, Sem.run_bind, Sem.run_pure, Result.andThen]) rfl rfl (by simp only [TAbs, Abs])
    · cases h
  case convert s t x =>
    split at h
    · rename_i ts _ _ _ _ _ k _ _ _ _ _ _ n hs ht hx
      obtain ⟨hd, rfl, rfl, rfl⟩ := done _ h
      cases hd
      have hxv := (plain x _ (by simp [Op.operands]) hx).abs rfl
      simp only [Abs] at hxv
      obtain ⟨_, us, _, hus, _⟩ := tiOf_spec (hT _ _ hs)
      obtain ⟨_, ut, _, hut, _, _, _, _, _, hk, _⟩ := tiOf_spec (hT _ _ ht)
      simp only at hk
      cases ut <;> simp only [] at hk <;> first | (cases hk; done) | skip
      cases hk
      exact fin (.int _ (IntKind.wrap _ n)) (by
        simp only [execOp, hxv, Go.convert, Sem.run_bind, run_under hus, run_under hut, Result.andThen]
        rfl) rfl rfl (by simp only [TAbs, Abs])
    · rename_i hs ht hx
      split at h
      · rename_i ns hte hns
        split at h
        · rename_i hlen
          obtain ⟨hd, rfl, rfl, rfl⟩ := done _ h
          cases hd
          have hxv := (plain x _ (by simp [Op.operands]) hx).abs rfl
          simp only [Abs] at hxv
          obtain ⟨a0, cap, vs, hxv, _, hab, hc⟩ := hxv
          obtain ⟨_, us, _, hus, _, _, _, _, hel, _⟩ := tiOf_spec (hT _ _ hs)
          have hut := tiOf_str (hT _ _ ht) rfl rfl
          obtain ⟨_, ue, _, hue, _, _, _, _, _, hk, _⟩ := tiOf_spec (hT _ _ hte)
          simp only at hel hk
          cases us <;> simp only [] at hel <;> first | (cases hel; done) | skip
          cases hel
          cases ue <;> simp only [] at hk <;> first | (cases hk; done) | skip
          cases hk
          refine fin (.string (strOf ns)) ?_ rfl rfl (by simp only [TAbs, Abs])
          have hr := str_run (P := P) hus hue hut (w := w) (a := a0) (cap := cap) (vs := vs.take _) (hc.imp id fun ⟨b, off, h1, _, h3⟩ => ⟨b, off, h1, fun j u hj => by
            rw [List.getElem?_take] at hj
            split at hj
            · exact h3 j u hj
            · cases hj⟩) (u8s_abs hns (hab.take _)) hlen
          simp only [execOp, hxv, hr, Sem.run_bind, Result.andThen, Sem.run_pure]
        · cases h
      · cases h
    · rename_i hs ht hx
      split at h
      · rename_i hte
        split at h
        · rename_i ns hns
          split at h
          · rename_i hlen
            simp only [Option.some.injEq, Prod.mk.injEq] at h
            obtain ⟨rfl, rfl, rfl, rfl⟩ := h
            have hxv := (plain x _ (by simp [Op.operands]) hx).abs rfl
            simp only [Abs] at hxv
            obtain ⟨a0, cap, hxv, _, hc⟩ := hxv
            obtain ⟨_, us, _, hus, _, _, _, _, hel, _⟩ := tiOf_spec (hT _ _ hs)
            have hut := tiOf_str (hT _ _ ht) rfl rfl
            obtain ⟨_, ue, _, hue, _, _, _, _, _, hk, _⟩ := tiOf_spec (hT _ _ hte)
            simp only at hel hk
            cases us <;> simp only [] at hel <;> first | (cases hel; done) | skip
            cases hel
            cases ue <;> simp only [] at hk <;> first | (cases hk; done) | skip
            cases hk
            refine fin (.string (strOf ns)) ?_ rfl rfl (by simp only [TAbs, Abs])
            rcases hc with h0 | ⟨p, hpn, ha, vs0, e0, hb, hle⟩
            · have hr := str_run (P := P) hus hue hut (w := w) (a := a0) (cap := cap) (ns := ns) (.inl h0) rfl hlen
              simp only [execOp, hxv, hr, Sem.run_bind, Result.andThen, Sem.run_pure]
            · obtain ⟨vs, hcl, hab⟩ := hmu.row hpn (.inr ⟨_, _, _, hb⟩) (cellObs_get hob)
              have hr := str_run (P := P) hus hue hut (w := w) (a := a0) (cap := cap) (vs := vs) (.inr ⟨p, _, ha, hcl⟩) (u8s_abs hns hab) hlen
              simp only [execOp, hxv, hr, Sem.run_bind, Result.andThen, Sem.run_pure]
          · cases h
        · cases h
      · cases h
    · rename_i hs ht hx
      split at h
      · rename_i hte
        obtain ⟨hd, rfl, rfl, rfl⟩ := done _ h
        cases hd
        have hxv := (plain x _ (by simp [Op.operands]) hx).abs rfl
        simp only [Abs] at hxv
        obtain ⟨a0, hxv⟩ := hxv
        obtain ⟨_, us, _, hus, _, _, _, _, hel, _⟩ := tiOf_spec (hT _ _ hs)
        have hut := tiOf_str (hT _ _ ht) rfl rfl
        obtain ⟨_, ue, _, hue, _, _, _, _, _, hk, _⟩ := tiOf_spec (hT _ _ hte)
        simp only at hel hk
        cases us <;> simp only [] at hel <;> first | (cases hel; done) | skip
        cases hel
        cases ue <;> simp only [] at hk <;> first | (cases hk; done) | skip
        cases hk
        refine fin (.string (strOf [])) ?_ rfl rfl (by simp only [TAbs, Abs])
        have hr := str_run (P := P) hus hue hut (w := w) (a := a0) (cap := 0) (n := 0) (vs := []) (ns := []) (.inl rfl) rfl rfl
        simp only [execOp, hxv, hr, Sem.run_bind, Result.andThen, Sem.run_pure]
      · cases h
    · cases h
  case makeFunc fn first captured =>
    cases fn <;> simp only [] at h <;> first | (cases h; done) | skip
    rename_i f
    split at h
    · rename_i hf0
      split at h
      · rename_i ds hds
        split at h
        · rename_i cs ls hcs
          simp only [Option.some.injEq, Prod.mk.injEq] at h
          obtain ⟨rfl, rfl, rfl, rfl⟩ := h
          obtain ⟨hl, hg⟩ := evAll_get hds
          have hab := captures_abs (ι := ι) (S := S) (w := w) hlo (vs := captured.toList.map a.eval) hcs (by simp [hl]) (fun i d v hd hv => by
            obtain ⟨x, hx, he⟩ := hg i d hd
            rw [List.getElem?_map, hx] at hv
            cases hv
            exact plain x d (by simp only [Op.operands, Array.mem_append]; right; exact Array.mem_toList_iff.1 (List.mem_of_getElem? hx)) he)
          have hf : first = #[] := by simpa using hf0
          refine Oper.wp_value (w' := w) (v := .func (.func f) #[] (captured.toList.map a.eval).toArray) ?_ (hnext _ w ι ρ (fun b => S b ∨ ∃ n ∈ ls, ι n = some b) ?_)
          · have e : (captured.toList.map a.eval).toArray = captured.map a.eval := by apply Array.ext'; simp
            rw [e]
            simp only [execOp, Instr.makeFunc, Sem.run_bind, Sem.run_pure, Result.andThen, hf, List.map_toArray, List.map_nil]
          · refine ⟨rfl, rfl, rfl, Nat.le_refl _, fun _ _ _ _ => rfl, fun _ _ _ _ => rfl, fun _ h => .inl h, fun b hb => ?_, ?_, hmu.mono (.refl ρ w) (fun _ _ => rfl) (fun _ _ => rfl) (fun _ h => .inl h) (fun b hb hS => ?_), fun _ h => .inl h, fun _ => rfl, fun _ h => by simp at h, hnm, .refl ρ w, fun _ _ h => .inl h, fun _ h => by simp at h⟩
            · rcases hb with hb | ⟨n, hn, hb⟩
              · exact .inl hb
              · exact .inr (.inr ⟨n, hn, hb⟩)
            · simp only [TAbs, Abs]
              exact ⟨_, rfl, hab⟩
            · rcases hS with hS | ⟨n, _, hS⟩
              · exact hmu.notS hb hS
              · exact hιD n b hS hb
        · cases h
      · cases h
    · split at h
      · rename_i hc0
        split at h
        · rename_i ds hds
          split at h
          · rename_i hnl
            obtain ⟨hd, rfl, rfl, rfl⟩ := done (some (.bnd f ds)) (by simpa using h)
            cases hd
            have hargs := evAll_abs (ι := ι) (S := S) (w := w) (η := a.eval) hds (fun x hx d' hd' => plain x d' (by simp only [Op.operands, Array.mem_append]; left; exact Array.mem_toList_iff.1 hx) hd') hnl
            have hc : captured = #[] := by simpa using hc0
            exact fin (.func (.func f) (first.toList.map a.eval).toArray #[]) (by
              have e : (first.toList.map a.eval).toArray = first.map a.eval := by apply Array.ext'; simp
              rw [e]
              simp only [execOp, Instr.makeFunc, Sem.run_bind, Sem.run_pure, Result.andThen, hc, List.map_toArray, List.map_nil]) rfl rfl (by simp only [TAbs, Abs]; exact ⟨_, rfl, hargs⟩)
          · cases h
        · cases h
      · cases h
  case fieldAddr s x i =>
    split at h
    · rename_i _ _ _ fs _ _ _ _ _ _ _ d' hs hx
      split at h
      · rename_i off t hfi
        split at h
        · rename_i ti hti
          split at h
          · rename_i hsz0
            split at h
            · rename_i n o
              split at h
              · rename_i te hte
                split at h
                · rename_i hcond
                  simp only [Bool.and_eq_true, bne_iff_ne, ne_eq] at hcond
                  obtain ⟨hd, rfl, rfl, rfl⟩ := done _ h
                  cases hd
                  simp only [Option.bind_eq_some_iff] at hte
                  obtain ⟨el, hel0, hte⟩ := hte
                  obtain ⟨_, us, _, hus, h1, h2, h3, hfields, h4⟩ := tiOf_spec (hT _ _ hs)
                  clear h1 h2 h3 h4
                  simp only at hfields
                  cases us <;> simp only [] at hfields <;> first | (cases hfields; done) | skip
                  rename_i fields
                  simp only [Option.some.injEq] at hfields
                  rw [hfields, List.getElem?_map] at hfi
                  cases hff : fields.toList[i]? with
                  | none => rw [hff] at hfi; cases hfi
                  | some f =>
                  rw [hff] at hfi
                  simp only [Option.map_some, Option.some.injEq, Prod.mk.injEq] at hfi
                  obtain ⟨rfl, rfl⟩ := hfi
                  obtain ⟨it, _, hit, _, hst, _⟩ := tiOf_spec (hT _ _ hti)
                  obtain ⟨ie, _, hie, _, hse, _, _, _, _, _, _, _, hby, _⟩ := tiOf_spec (hT _ _ hte)
                  rw [hby] at hcond
                  simp only [Bool.and_eq_true, decide_eq_true_eq, List.all_eq_true, List.mem_range] at hcond
                  obtain ⟨⟨hcells, hbytes⟩, hne⟩ := hcond
                  obtain ⟨b, hb, hv⟩ := plain x _ (by simp [Op.operands]) hx
                  obtain ⟨vs, hheap⟩ := hel n b el hb hel0
                  have hby1 : ∀ (o' : Nat), ∃ k, (byteOf ⟨b, o', none⟩).run P w = .ok k w := fun o' => run_byteOf hheap (by rw [hcells, ← hse]; omega) (hbytes _ (by rw [hcells]; exact Nat.mod_lt _ (by rw [← hse]; omega)))
                  obtain ⟨k1, hk1⟩ := hby1 o
                  obtain ⟨k2, hk2⟩ := hby1 (o + f.offset)
                  have hfa : fields[i]? = some f := by simpa using hff
                  exact fin (.pointer (some (if k2 = k1 + f.byteOffset then ⟨b, o + f.offset, none⟩ else ⟨b, o + f.offset, some (k1 + f.byteOffset)⟩))) (by
                    simp only [execOp, hv, Instr.fieldAt, Sem.run_bind, run_under hus, Result.andThen, hfa, Instr.sureAddr, Sem.run_pure, fieldPlace, run_size hit]
                    rw [if_pos (by omega)]
                    simp only [partAt, Sem.run_bind, hk1, hk2, Result.andThen, Sem.run_pure]) rfl rfl (by simp only [TAbs, Abs]; exact ⟨_, rfl⟩)
                · cases h
              · cases h
            · cases h
          · rename_i hsz
            obtain ⟨_, us, _, hus, h1, h2, h3, hfields, h4⟩ := tiOf_spec (hT _ _ hs)
            clear h1 h2 h3 h4
            simp only at hfields
            cases us <;> simp only [] at hfields <;> first | (cases hfields; done) | skip
            rename_i fields
            simp only [Option.some.injEq] at hfields
            rw [hfields, List.getElem?_map] at hfi
            cases hff : fields.toList[i]? with
            | none => rw [hff] at hfi; cases hfi
            | some f =>
            rw [hff] at hfi
            simp only [Option.map_some, Option.some.injEq, Prod.mk.injEq] at hfi
            obtain ⟨rfl, rfl⟩ := hfi
            obtain ⟨it, _, hit, _, hst, _⟩ := tiOf_spec (hT _ _ hti)
            have run : ∀ (b o : Nat), (Instr.fieldAt s (.pointer (some ⟨b, o, none⟩)) i).run P w = .ok (.pointer (some ⟨b, o + f.offset, none⟩)) w := fun b o => by
              have hfa : fields[i]? = some f := by simpa using hff
              simp only [Instr.fieldAt, Sem.run_bind, run_under hus, Result.andThen, hfa, Instr.sureAddr, Sem.run_pure, fieldPlace, run_size hit]
              rw [if_neg (by omega)]
              simp only [Sem.run_pure, Result.andThen, addr_add]
            have hv := plain x d' (by simp [Op.operands]) hx
            cases d' <;> simp only [] at h <;> first | (cases h; done) | skip
            case loc n o =>
              obtain ⟨hd, rfl, rfl, rfl⟩ := done _ h
              cases hd
              obtain ⟨b, hb, hv⟩ := hv
              exact fin (.pointer (some ⟨b, o + f.offset, none⟩)) (by simp only [execOp, hv, run, Sem.run_bind, Result.andThen, Sem.run_pure]) rfl rfl ⟨b, hb, rfl⟩
            case ptr cs =>
              obtain ⟨hd, rfl, rfl, rfl⟩ := done _ h
              cases hd
              simp only [TAbs, Abs] at hv
              obtain ⟨b, o, vs, hv, hb, hc, hab⟩ := hv
              exact fin (.pointer (some ⟨b, o + f.offset, none⟩)) (by simp only [execOp, hv, run, Sem.run_bind, Result.andThen, Sem.run_pure]) rfl rfl (by
                simp only [TAbs, Abs]
                exact ⟨b, o + f.offset, vs.drop f.offset, rfl, hb, hc.drop _, hab.drop _⟩)
            case adr b o =>
              obtain ⟨hd, rfl, rfl, rfl⟩ := done _ h
              cases hd
              simp only [TAbs, Abs] at hv
              obtain ⟨p, hpn, hv⟩ := hv
              exact fin (.pointer (some ⟨p, o + f.offset, none⟩)) (by simp only [execOp, hv, run, Sem.run_bind, Result.andThen, Sem.run_pure]) rfl rfl (by simp only [TAbs, Abs]; exact ⟨p, hpn, rfl⟩)
        · cases h
      · cases h
    · cases h
  case field s x i =>
    split at h
    · rename_i _ _ _ fs _ _ _ _ _ _ _ cs hs hx
      split at h
      · rename_i off t hfi
        split at h
        · rename_i ti hti
          obtain ⟨hp, rfl, rfl, rfl⟩ := done _ h
          obtain ⟨_, us, _, hus, h1, h2, h3, hfields, h4⟩ := tiOf_spec (hT _ _ hs)
          clear h1 h2 h3 h4
          simp only at hfields
          cases us <;> simp only [] at hfields <;> first | (cases hfields; done) | skip
          rename_i fields
          simp only [Option.some.injEq] at hfields
          rw [hfields, List.getElem?_map] at hfi
          cases hff : fields.toList[i]? with
          | none => rw [hff] at hfi; cases hfi
          | some f =>
          rw [hff] at hfi
          simp only [Option.map_some, Option.some.injEq, Prod.mk.injEq] at hfi
          obtain ⟨rfl, rfl⟩ := hfi
          obtain ⟨it, ut, hit, hut, hst, hag, _⟩ := tiOf_spec (hT _ _ hti)
          have hv := (plain x _ (by simp [Op.operands]) hx).abs rfl
          simp only [Abs] at hv
          obtain ⟨vs, hv, hab⟩ := hv
          have hfa : fields[i]? = some f := by simpa using hff
          unfold partOf at hp
          rw [hag] at hp
          cases hA : isAggD ut <;> rw [hA] at hp
          · simp only [Bool.false_eq_true, if_false] at hp
            obtain ⟨v, hvv, hd⟩ := hab.get hp
            exact fin v (by
              simp only [execOp, hv, Instr.field, Sem.run_bind, run_under hus, Result.andThen, hfa, asAgg, Sem.run_pure, part, run_agg hut, hA, Bool.false_eq_true, if_false, List.getElem?_toArray, hvv]) rfl rfl (.of_abs hd)
          · simp only [if_true] at hp
            split at hp
            · rename_i hle
              cases hp
              exact fin (.agg ((vs.drop f.offset).take it.size).toArray) (by
                simp only [execOp, hv, Instr.field, Sem.run_bind, run_under hus, Result.andThen, hfa, asAgg, Sem.run_pure, part, run_agg hut, hA, if_true, run_size hit]
                congr 3
                apply Array.ext'
                simp [List.extract_eq_take_drop]) rfl rfl (by
                  simp only [TAbs, Abs]
                  exact ⟨_, rfl, by rw [← hst]; exact (hab.drop _).take _⟩)
            · cases hp
        · cases h
      · cases h
    · cases h
  case indexAddr t x i =>
    split at h
    · rename_i _ _ _ _ el _ _ _ _ _ _ cs n k0 k ht hx hi
      split at h
      · rename_i te hte
        by_cases hk0 : True
        · simp only [Option.some.injEq, Prod.mk.injEq] at h
          obtain ⟨rfl, rfl, rfl, rfl⟩ := h
          have hk : decide (0 ≤ k ∧ k < (n : Int)) = true := hob (.eq _ _) (by simp)
          have hk : 0 ≤ k ∧ k < (n : Int) := of_decide_eq_true hk
          obtain ⟨_, ut, _, hut, _, _, _, _, hel, _⟩ := tiOf_spec (hT _ _ ht)
          simp only at hel
          cases ut <;> simp only [] at hel <;> first | (cases hel; done) | skip
          simp only [Option.some.injEq] at hel
          subst hel
          obtain ⟨it, _, hit, _, hst, _⟩ := tiOf_spec (hT _ _ hte)
          have hv := (plain x _ (by simp [Op.operands]) hx).abs rfl
          have hiv := (plain i _ (by simp [Op.operands]) hi).abs rfl
          simp only [Abs] at hv hiv
          obtain ⟨ad, cap, vs, hv, hcap, hab, hor⟩ := hv
          rcases hor with h0 | ⟨b, off, rfl, hb, hc⟩
          · omega
          · exact fin (.pointer (some ⟨b, off + k.toNat * it.size, none⟩)) (by
              simp only [execOp, hv, hiv, Instr.indexAt, asIntOf, Sem.run_bind, Sem.run_pure, run_under hut, Result.andThen]
              have hk2 : 0 ≤ k ∧ k < ↑n := hk
              by_cases hn1 : n ≤ 1 <;> simp [hk2, hn1, Sem.run_pure, Result.andThen, run_under hut, run_size hit, addr_add]) rfl rfl (by
                simp only [TAbs, Abs]
                exact ⟨b, off + k.toNat * it.size, vs.drop (k.toNat * it.size), rfl, hb, hc.drop _, by rw [hst]; exact hab.drop _⟩)
        · exact absurd trivial hk0
      · cases h
    · rename_i _ _ _ _ el _ _ _ _ _ _ b off n sz k0 k ht hx hi
      split at h
      · rename_i te hte
        simp only [Option.some.injEq, Prod.mk.injEq] at h
        obtain ⟨rfl, rfl, rfl, rfl⟩ := h
        have hk : decide (0 ≤ k ∧ k < (n : Int)) = true := hob (.eq _ _) (by simp)
        have hk : 0 ≤ k ∧ k < (n : Int) := of_decide_eq_true hk
        obtain ⟨_, ut, _, hut, _, _, _, _, hel, _⟩ := tiOf_spec (hT _ _ ht)
        simp only at hel
        cases ut <;> simp only [] at hel <;> first | (cases hel; done) | skip
        simp only [Option.some.injEq] at hel
        subst hel
        obtain ⟨it, _, hit, _, hst, _⟩ := tiOf_spec (hT _ _ hte)
        have hv := (plain x _ (by simp [Op.operands]) hx).abs rfl
        have hiv := (plain i _ (by simp [Op.operands]) hi).abs rfl
        simp only [Abs] at hv hiv
        obtain ⟨ad, cap, hv, hcap, hor⟩ := hv
        obtain ⟨p, hpn, rfl, _⟩ := hor.resolve_left (by omega)
        exact fin (.pointer (some ⟨p, off + k.toNat * it.size, none⟩)) (by
          simp only [execOp, hv, hiv, Instr.indexAt, asIntOf, Sem.run_bind, Sem.run_pure, run_under hut, Result.andThen]
          have hk2 : 0 ≤ k ∧ k < ↑n := hk
          by_cases hn1 : n ≤ 1 <;> simp [hk2, hn1, Sem.run_pure, Result.andThen, run_under hut, run_size hit, addr_add]) rfl rfl (by
            simp only [TAbs, Abs, hst]; exact ⟨p, hpn, rfl⟩)
      · cases h
    · rename_i m el _ n off k0 k ht hx hi
      split at h
      · rename_i te hte
        simp only [Option.some.injEq, Prod.mk.injEq] at h
        obtain ⟨rfl, rfl, rfl, rfl⟩ := h
        have hk : decide (0 ≤ k ∧ k < (m : Int)) = true := hob (.eq _ _) (by simp)
        have hk : 0 ≤ k ∧ k < (m : Int) := of_decide_eq_true hk
        obtain ⟨_, ut, _, hut, _, _, _, _, _, _, _, _, _, _, harr, _⟩ := tiOf_spec (hT _ _ ht)
        simp only at harr
        cases ut <;> simp only [] at harr <;> first | (cases harr; done) | skip
        simp only [Option.some.injEq, Prod.mk.injEq] at harr
        obtain ⟨rfl, rfl⟩ := harr
        obtain ⟨it, _, hit, _, hst, _⟩ := tiOf_spec (hT _ _ hte)
        have hv := plain x _ (by simp [Op.operands]) hx
        have hiv := (plain i _ (by simp [Op.operands]) hi).abs rfl
        simp only [TAbs] at hv
        simp only [Abs] at hiv
        obtain ⟨b, hb, hv⟩ := hv
        exact fin (.pointer (some ⟨b, off + k.toNat * it.size, none⟩)) (by
          simp only [execOp, hv, hiv, Instr.indexAt, asIntOf, Sem.run_bind, Sem.run_pure, run_under hut, Result.andThen, Instr.sureAddr]
          by_cases hn1 : m ≤ 1 <;> simp [hk, hn1, Sem.run_pure, Result.andThen, run_under hut, run_size hit, addr_add]) rfl rfl (by
            simp only [TAbs]; exact ⟨b, hb, by rw [hst]⟩)
      · cases h
    · cases h
  case index t x i =>
    split at h
    · rename_i m el _ cs k0 k ht hx hi
      split at h
      · rename_i te hte
        simp only [Option.map_eq_some_iff, Prod.mk.injEq] at h
        obtain ⟨d0, hp, rfl, rfl, rfl, rfl⟩ := h
        have hk : decide (0 ≤ k ∧ k < (m : Int)) = true := hob (.eq _ _) (by simp)
        have hk : 0 ≤ k ∧ k < (m : Int) := of_decide_eq_true hk
        obtain ⟨_, ut0, _, hut0, _, _, _, _, _, _, _, _, _, _, harr, _⟩ := tiOf_spec (hT _ _ ht)
        simp only at harr
        cases ut0 <;> simp only [] at harr <;> first | (cases harr; done) | skip
        simp only [Option.some.injEq, Prod.mk.injEq] at harr
        obtain ⟨rfl, rfl⟩ := harr
        obtain ⟨it, ut, hit, hut, hst, hag, _⟩ := tiOf_spec (hT _ _ hte)
        have hv := (plain x _ (by simp [Op.operands]) hx).abs rfl
        have hiv := (plain i _ (by simp [Op.operands]) hi).abs rfl
        simp only [Abs] at hv hiv
        obtain ⟨vs, hv, hab⟩ := hv
        unfold partOf at hp
        rw [hag] at hp
        cases hA : isAggD ut <;> rw [hA] at hp
        · simp only [Bool.false_eq_true, if_false] at hp
          obtain ⟨v, hvv, hd⟩ := hab.get hp
          rw [hst] at hvv
          exact fin v (by
            simp only [execOp, hv, hiv, Instr.index, asIntOf, Sem.run_bind, Sem.run_pure, run_under hut0, Result.andThen]
            simp [hk, part, run_agg hut, hA, run_size hit, Sem.run_bind, Sem.run_pure, Result.andThen, hvv]) rfl rfl (.of_abs hd)
        · simp only [if_true] at hp
          split at hp
          · rename_i hle
            cases hp
            exact fin (.agg ((vs.drop (k.toNat * it.size)).take it.size).toArray) (by
              simp only [execOp, hv, hiv, Instr.index, asIntOf, Sem.run_bind, Sem.run_pure, run_under hut0, Result.andThen]
              simp [hk, part, run_agg hut, hA, run_size hit, Sem.run_bind, Sem.run_pure, Result.andThen]) rfl rfl (by
                simp only [TAbs, Abs]
                exact ⟨_, rfl, by rw [← hst]; exact (hab.drop _).take _⟩)
          · cases hp
      · cases h
    · rename_i s k0 k ht hx hi
      simp only [Option.some.injEq, Prod.mk.injEq] at h
      obtain ⟨rfl, rfl, rfl, rfl⟩ := h
      have hk : decide (0 ≤ k ∧ k < (lenS s : Int)) = true := hob (.eq _ _) (by simp)
      have hk : 0 ≤ k ∧ k < (lenS s : Int) := of_decide_eq_true hk
      have hu := tiOf_str (hT _ _ ht) rfl rfl
      have hv := (plain x _ (by simp [Op.operands]) hx).abs rfl
      have hiv := (plain i _ (by simp [Op.operands]) hi).abs rfl
      simp only [Abs] at hv hiv
      obtain ⟨b, hb, hbd⟩ := byteD_eq s (k := k.toNat) (by omega)
      exact fin (.int .u8 (byteD s k.toNat)) (by
        simp only [execOp, hv, hiv, Instr.index, asIntOf, Sem.run_bind, Sem.run_pure, run_under hu, Result.andThen]
        rw [if_pos hk.1, hb, hbd]; rfl) rfl rfl (.of_abs (by simp only [Abs]))
    · cases h
  case slice t x lo hi mx =>
    split at h
    · rename_i d0 n hsl
      simp only [Option.some.injEq, Prod.mk.injEq] at h
      obtain ⟨rfl, rfl, rfl, rfl⟩ := h
      obtain ⟨ti, m, el, off, te, cs, rfl, rfl, rfl, ht, har, hx, hte, hlc, rfl⟩ := sliceA_spec hsl
      obtain ⟨it, ut, _, hut, _, _, _, _, _, hrest⟩ := tiOf_spec (hT _ _ ht)
      have hut' := tiOf_arr (hT _ _ ht) har hut
      obtain ⟨ie, _, hie, _, hse, _⟩ := tiOf_spec (hT _ _ hte)
      have hv := plain x _ (by simp [Op.operands]) hx
      simp only [TAbs] at hv
      obtain ⟨b, hb, hv⟩ := hv
      obtain ⟨vs, elem, hheap, hab⟩ := hlo n b cs hb hlc
      subst hut'
      refine Oper.wp_value (w' := w) (v := .slice (some (if m = 0 then ⟨b, off, none⟩ else ⟨b, off + 0, none⟩)) m m) ?_ (hnext _ w ι ρ (fun b' => S b' ∨ ι n = some b') ?_)
      · simp only [execOp, Option.map_none, Instr.sliceAt, Sem.run_bind, run_under hut, Result.andThen, hv, Instr.sureAddr, Sem.run_pure, Instr.sliceBounds, run_size hie, addr_add, Nat.zero_mul, Nat.sub_zero]
      · refine ⟨rfl, rfl, rfl, Nat.le_refl _, fun _ _ _ _ => rfl, fun _ _ _ _ => rfl, fun _ h => .inl h, fun b' hb' => ?_, ?_, hmu.mono (.refl ρ w) (fun _ _ => rfl) (fun _ _ => rfl) (fun _ h => .inl h) (fun b' hb' hS => ?_), fun _ h => .inl h, fun _ => rfl, fun _ h => by simp at h, hnm, .refl ρ w, fun _ _ h => .inl h, fun _ h => by simp at h⟩
        · rcases hb' with hb' | hb'
          · exact .inl hb'
          · exact .inr (.inr ⟨n, by simp, hb'⟩)
        · simp only [TAbs, Abs]
          refine ⟨_, m, (vs.toList.drop off).take (m * te.size), rfl, Nat.le_refl _, AbsL.mono (.refl ρ w) (fun _ _ => rfl) (fun _ h => .inl h) _ _ ((hab.drop off).take _), ?_⟩
          by_cases hm0 : m = 0
          · exact .inl hm0
          · right
            rw [if_neg hm0]
            refine ⟨b, off, by simp, .inr hb, fun j u hu => ?_⟩
            have hu' : (vs.toList.drop off)[j]? = some u := by
              rw [List.getElem?_take] at hu
              split at hu
              · exact hu
              · cases hu
            have := (CellsAt.of_block hheap).drop off
            rw [Nat.zero_add] at this
            exact this j u hu'
        · rcases hS with hS | hS
          · exact hmu.notS hb' hS
          · exact hιD n b' hS hb'
    rename_i hnsl
    simp only [Option.map_eq_some_iff, Prod.mk.injEq] at h
    obtain ⟨⟨d0, bb⟩, hs, rfl, rfl, rfl, rfl⟩ := h
    have hbb : bb = true := hob (.eq _ _) (by simp)
    subst hbb
    rw [Option.or_eq_some_iff] at hs
    rcases hs with hs | ⟨_, hs⟩
    case' inr =>
      rw [Option.or_eq_some_iff] at hs
      rcases hs with hs | ⟨_, hs⟩
      case' inr =>
        rw [Option.or_eq_some_iff] at hs
        rcases hs with hs | ⟨_, hs⟩
        case' inr =>
          obtain ⟨ti, el, te, y, cs, n, l, k, h, m, rfl, ht, hel, hx, hte, hl, hy, hm, rfl, hk0, hk1, hk2, hk3⟩ := sliceF_spec hs
          obtain ⟨_, ut, _, hut, _, _, _, _, hel', _⟩ := tiOf_spec (hT _ _ ht)
          rw [hel] at hel'
          cases ut <;> simp only [] at hel' <;> first | (cases hel'; done) | skip
          simp only [Option.some.injEq] at hel'
          subst hel'
          obtain ⟨it, _, hit, _, hst, _⟩ := tiOf_spec (hT _ _ hte)
          have hv := (plain x _ (by simp [Op.operands]) hx).abs rfl
          have hyv := (plain y _ (by simp [Op.operands]) hy).abs rfl
          simp only [Abs] at hyv
          have hlo : lo.map a.eval = none ∧ l = 0 ∨ ∃ k, lo.map a.eval = some (.int k l) := by
            cases lo with
            | none => simp only [boundD, Option.some.injEq] at hl; exact .inl ⟨rfl, hl.symm⟩
            | some z =>
              simp only [boundD] at hl
              split at hl
              · rename_i k' r' hz
                cases hl
                have := (plain z _ (by simp [Op.operands]) hz).abs rfl
                simp only [Abs] at this
                exact .inr ⟨k', by rw [Option.map_some, this]⟩
              · cases hl
          have hmx : mx.map a.eval = none ∧ m = h ∨ ∃ k, mx.map a.eval = some (.int k m) := by
            cases mx with
            | none => simp only [maxD, Option.some.injEq] at hm; exact .inl ⟨rfl, hm.symm⟩
            | some z =>
              simp only [maxD] at hm
              split at hm
              · rename_i k' r' hz
                cases hm
                have := (plain z _ (by simp [Op.operands]) hz).abs rfl
                simp only [Abs] at this
                exact .inr ⟨k', by rw [Option.map_some, this]⟩
              · cases hm
          obtain ⟨u, hr, hab⟩ := slice_run2 (hh := some (a.eval y)) hut hit hv hlo ⟨k, by rw [hyv]⟩ hmx hk0 hk1 hk2 hk3
          exact fin u (by simp only [execOp, Option.map_some, hr, Sem.run_bind, Result.andThen, Sem.run_pure]) rfl rfl (.of_abs (by rw [hst]; exact hab))
        obtain ⟨ti, s, l, h, rfl, ht, hcm, hag, hx, hl, hh, rfl, hk0, hk1, hk2⟩ := sliceS_spec hs
        have hu := tiOf_str (hT _ _ ht) hag hcm
        have hv := (plain x _ (by simp [Op.operands]) hx).abs rfl
        simp only [Abs] at hv
        have bnd : ∀ (els : Int) (o : Option Operand) (r : Int), (∀ y, o = some y → y ∈ (Op.slice t x lo hi none).operands) → boundD ev els o = some r → (o.map a.eval = none ∧ r = els ∨ ∃ k, o.map a.eval = some (.int k r)) := by
          intro els o r hm hr
          cases o with
          | none => simp only [boundD, Option.some.injEq] at hr; exact .inl ⟨rfl, hr.symm⟩
          | some y =>
            simp only [boundD] at hr
            split at hr
            · rename_i k r' hy
              cases hr
              have := (plain y _ (hm y rfl) hy).abs rfl
              simp only [Abs] at this
              exact .inr ⟨k, by rw [Option.map_some, this]⟩
            · cases hr
        have hr := slice_str_run hu (w := w) (bnd 0 lo l (fun y hy => by subst hy; simp [Op.operands]) hl) (bnd _ hi h (fun y hy => by subst hy; simp [Op.operands]) hh) hk0 hk1 hk2
        exact fin (.string (cutS s l.toNat h.toNat)) (by simp only [execOp, Option.map_none, hv, hr, Sem.run_bind, Result.andThen, Sem.run_pure]) rfl rfl (.of_abs (by simp only [Abs]))
      obtain ⟨ti, el, te, b, off, n, l, h, rfl, ht, hel, hx, hte, hl, hh, rfl, hk0, hk1, hk2⟩ := sliceV_spec hs
      obtain ⟨_, ut, _, hut, _, _, _, _, hel', _⟩ := tiOf_spec (hT _ _ ht)
      rw [hel] at hel'
      cases ut <;> simp only [] at hel' <;> first | (cases hel'; done) | skip
      simp only [Option.some.injEq] at hel'
      subst hel'
      obtain ⟨it, _, hit, _, hst, _⟩ := tiOf_spec (hT _ _ hte)
      have hv := (plain x _ (by simp [Op.operands]) hx).abs rfl
      rw [hst] at hv
      have bnd : ∀ (els : Int) (o : Option Operand) (r : Int), (∀ y, o = some y → y ∈ (Op.slice t x lo hi none).operands) → boundD ev els o = some r → (o.map a.eval = none ∧ r = els ∨ ∃ k, o.map a.eval = some (.int k r)) := by
        intro els o r hm hr
        cases o with
        | none => simp only [boundD, Option.some.injEq] at hr; exact .inl ⟨rfl, hr.symm⟩
        | some y =>
          simp only [boundD] at hr
          split at hr
          · rename_i k r' hy
            cases hr
            have := (plain y _ (hm y rfl) hy).abs rfl
            simp only [Abs] at this
            exact .inr ⟨k, by rw [Option.map_some, this]⟩
          · cases hr
      obtain ⟨u, hr, hab⟩ := slice_vec_run hut hit hv (bnd 0 lo l (fun y hy => by subst hy; simp [Op.operands]) hl) (bnd n hi h (fun y hy => by subst hy; simp [Op.operands]) hh) hk0 hk1 hk2
      exact fin u (by simp only [execOp, Option.map_none, hr, Sem.run_bind, Result.andThen, Sem.run_pure]) rfl rfl (.of_abs (by rw [hst]; exact hab))
    obtain ⟨k, l, rfl, rfl, rfl, hs⟩ : ∃ k l, lo = some (.const (.int k l)) ∧ hi = none ∧ mx = none ∧ sliceD T ev t x (some (.const (.int k l))) none none = some (d0, true) := by
      unfold sliceD at hs
      split at hs
      · rename_i k l
        exact ⟨k, l, rfl, rfl, rfl, by simpa only [sliceD] using hs⟩
      · cases hs
    simp only [sliceD] at hs
    split at hs
    · rename_i _ _ _ _ el _ _ _ _ _ _ cs n ht hx
      split at hs
      · rename_i te hte
        by_cases hk0 : True
        · simp only [Option.some.injEq, Prod.mk.injEq, decide_eq_true_eq] at hs
          obtain ⟨rfl, hk⟩ := hs
          obtain ⟨_, ut, _, hut, _, _, _, _, hel, _⟩ := tiOf_spec (hT _ _ ht)
          simp only at hel
          cases ut <;> simp only [] at hel <;> first | (cases hel; done) | skip
          simp only [Option.some.injEq] at hel
          subst hel
          obtain ⟨it, _, hit, _, hst, _⟩ := tiOf_spec (hT _ _ hte)
          have hv := (plain x _ (by simp [Op.operands]) hx).abs rfl
          obtain ⟨u, hr, hab⟩ := slice_run (te := te) hut hit (k := k) hv hk.1 hk.2
          exact fin u (by
            have e : a.eval (.const (.int k l)) = .int k l := rfl
            simp only [execOp, Option.map_some, Option.map_none, e, hr, Sem.run_bind, Result.andThen, Sem.run_pure]) rfl rfl (.of_abs (by rw [hst]; exact hab))
        · exact absurd trivial hk0
      · cases hs
    · cases hs
  case extract x i =>
    split at h
    · rename_i ds hx
      obtain ⟨hd, rfl, rfl, rfl⟩ := done _ h
      have hv := (plain x _ (by simp [Op.operands]) hx).abs rfl
      simp only [Abs] at hv
      obtain ⟨vs, hv, hab⟩ := hv
      obtain ⟨v, hvv, hdv⟩ := hab.get hd
      exact fin v (by simp only [execOp, hv, Instr.extract, List.getElem?_toArray, hvv, Sem.run_bind, Sem.run_pure, Result.andThen]) rfl rfl (.of_abs hdv)
    · cases h
  case call c =>
    obtain ⟨callee, args, argTypes⟩ := c
    cases callee <;> (try simp only [] at h) <;> first | (cases h; done) | skip
    case value f =>
      split at h
      · rename_i g caps ds x0 hf hds
        split at h
        · rename_i hnl
          simp only [Bool.and_eq_true] at hnl
          simp only [Option.some.injEq, Prod.mk.injEq] at h
          obtain ⟨rfl, rfl, rfl, rfl⟩ := h
          have hok : CallOk P _ _ _ _ _ _ _ := hob _ (List.mem_singleton.2 rfl)
          have hfv := (plain f _ (by simp [Op.operands, Call.operands]) hf).abs rfl
          simp only [Abs] at hfv
          obtain ⟨vs, hfv, hcaps⟩ := hfv
          have hargs := evAll_abs (ι := ι) (S := S) (w := w) (η := a.eval) hds (fun x hx d' hd' => plain x d' (by simp only [Op.operands, Call.operands, Array.mem_append]; right; exact Array.mem_toList_iff.1 hx) hd') hnl.1
          have hr : (execOp a.eval ⟨dst, .call ⟨.value f, args, argTypes⟩, type, pos, after, guard⟩).run P w = .ok (.enter g (args.toList.map a.eval ++ vs).toArray) w := by
            simp only [execOp, resolve, hfv, Deferred.ofValue, Sem.run_bind, Sem.run_pure, Result.andThen, invoke, run_callFunc hok.enters]
            congr 2
            apply Array.ext'
            simp
          unfold Oper.wp
          rw [hr]
          refine (hok.runs ρ S w _ hnm hfresh sane hmu (hargs.append hcaps)).mono ?_
          rintro e' w' ⟨v, S', ρ', rfl, hpost, hnm', hgrow, hback, hm', hdom, hd⟩
          exact hnext v w' ι ρ' S' (hpost.monoPost hnm' hgrow hback hm' hdom hd)
        · cases h
      · rename_i g fs ds x0 hf hds
        split at h
        · rename_i hnl
          simp only [Bool.and_eq_true] at hnl
          simp only [Option.some.injEq, Prod.mk.injEq] at h
          obtain ⟨rfl, rfl, rfl, rfl⟩ := h
          have hok : CallOk P _ _ _ _ _ _ _ := hob _ (List.mem_singleton.2 rfl)
          have hfv := (plain f _ (by simp [Op.operands, Call.operands]) hf).abs rfl
          simp only [Abs] at hfv
          obtain ⟨vs, hfv, hfs⟩ := hfv
          have hargs := evAll_abs (ι := ι) (S := S) (w := w) (η := a.eval) hds (fun x hx d' hd' => plain x d' (by simp only [Op.operands, Call.operands, Array.mem_append]; right; exact Array.mem_toList_iff.1 hx) hd') hnl.1
          have hr : (execOp a.eval ⟨dst, .call ⟨.value f, args, argTypes⟩, type, pos, after, guard⟩).run P w = .ok (.enter g (vs ++ args.toList.map a.eval).toArray) w := by
            simp only [execOp, resolve, hfv, Deferred.ofValue, Sem.run_bind, Sem.run_pure, Result.andThen, invoke, run_callFunc hok.enters]
            congr 2
            apply Array.ext'
            simp
          unfold Oper.wp
          rw [hr]
          refine (hok.runs ρ S w _ hnm hfresh sane hmu (hfs.append hargs)).mono ?_
          rintro e' w' ⟨v, S', ρ', rfl, hpost, hnm', hgrow, hback, hm', hdom, hd⟩
          exact hnext v w' ι ρ' S' (hpost.monoPost hnm' hgrow hback hm' hdom hd)
        · cases h
      · cases h
    case builtin b =>
      cases b <;> (try simp only [] at h) <;> first | (cases h; done) | skip
      case max =>
        split at h
        · rename_i k x ds hds
          obtain ⟨hd, rfl, rfl, rfl⟩ := done _ h
          obtain ⟨v, rest, hvs, hv, hr⟩ := (evAll_abs (ι := ι) (S := S) (w := w) (η := a.eval) hds (fun y hy d' hd' => plain y d' (by simp only [Op.operands, Call.operands, Array.mem_append]; right; exact Array.mem_toList_iff.1 hy) hd') (by
            have : ∀ (ds : List DV) (x : Int) (d : DV), foldInt (fun x y => if y > x then y else x) k x ds = some d → ds.all DV.noLoc = true := by
              intro ds
              induction ds with
              | nil => intro _ _ _; rfl
              | cons e ds ih =>
                intro x d h
                cases e <;> simp only [foldInt] at h <;> first | (cases h; done) | skip
                split at h
                · simp only [List.all_cons, DV.noLoc, Bool.true_and]; exact ih _ _ h
                · cases h
            simp only [List.all_cons, DV.noLoc, Bool.true_and]; exact this ds x d hd)).cons_inv
          simp only [Abs] at hv
          subst hv
          obtain ⟨h1, h2⟩ := foldMax (P := P) hd hr
          exact fin (toV d) (by
            simp only [execOp, resolve, Sem.run_bind, Sem.run_pure, Result.andThen, invoke, builtin, Builtin.max_, Array.toList_map, hvs, h1]) rfl rfl (.of_abs (h2 ρ S))
        · cases h
      case min =>
        split at h
        · rename_i k x ds hds
          obtain ⟨hd, rfl, rfl, rfl⟩ := done _ h
          obtain ⟨v, rest, hvs, hv, hr⟩ := (evAll_abs (ι := ι) (S := S) (w := w) (η := a.eval) hds (fun y hy d' hd' => plain y d' (by simp only [Op.operands, Call.operands, Array.mem_append]; right; exact Array.mem_toList_iff.1 hy) hd') (by
            have : ∀ (ds : List DV) (x : Int) (d : DV), foldInt (fun x y => if y < x then y else x) k x ds = some d → ds.all DV.noLoc = true := by
              intro ds
              induction ds with
              | nil => intro _ _ _; rfl
              | cons e ds ih =>
                intro x d h
                cases e <;> simp only [foldInt] at h <;> first | (cases h; done) | skip
                split at h
                · simp only [List.all_cons, DV.noLoc, Bool.true_and]; exact ih _ _ h
                · cases h
            simp only [List.all_cons, DV.noLoc, Bool.true_and]; exact this ds x d hd)).cons_inv
          simp only [Abs] at hv
          subst hv
          obtain ⟨h1, h2⟩ := foldMin (P := P) hd hr
          exact fin (toV d) (by
            simp only [execOp, resolve, Sem.run_bind, Sem.run_pure, Result.andThen, invoke, builtin, Builtin.min_, Array.toList_map, hvs, h1]) rfl rfl (.of_abs (h2 ρ S))
        · cases h
      case append =>
        split at h
        · rename_i x y t t' _ _ _ n hxs hts
          split at h
          · rename_i htt
            subst htt
            have hargs : args = #[x, y] := by apply Array.ext'; simpa using hxs
            have htys : argTypes = #[t, t] := by apply Array.ext'; simpa using hts
            subst hargs; subst htys
            split at h
            · rename_i _ _ _ _ el _ _ _ _ _ _ _ ht
              split at h
              · rename_i sz _ zl _ _ _ _ _ _ _ _ hte
                obtain ⟨_, ut, _, hut, _, _, _, _, hel, _⟩ := tiOf_spec (hT _ _ ht)
                simp only at hel
                cases ut <;> simp only [] at hel <;> first | (cases hel; done) | skip
                simp only [Option.some.injEq] at hel
                subst hel
                obtain ⟨it, _, hit, _, hst, _, hzero, _, _, _, _, _, _, hroomb, _, _⟩ := tiOf_spec (hT _ _ hte)
                simp only at hst hzero hroomb
                subst hst
                have hbytes : it.bytes ≤ 1024 := of_decide_eq_true hroomb.symm
                cases hzi : it.zero with
                | none => rw [hzi] at hzero; simp at hzero
                | some zv =>
                rw [hzi] at hzero
                simp only [Option.map_some, Option.some.injEq] at hzero
                have exec : ∀ v w', (Builtin.append_ #[t, t] type #[a.eval x, a.eval y]).run P w = .ok v w' → (execOp a.eval ⟨dst, .call ⟨.builtin .append, #[x, y], #[t, t]⟩, type, pos, after, guard⟩).run P w = .ok (.value v) w' := fun v w' hr => by
                  simp only [execOp, resolve, Sem.run_bind, Sem.run_pure, Result.andThen, invoke, builtin, List.map_toArray, List.map_cons, List.map_nil, hr]
                split at h
                · rename_i cs m hx hy
                  split at h
                  · rename_i hzl
                    simp only [Option.some.injEq, Prod.mk.injEq] at h
                    obtain ⟨rfl, rfl, rfl, rfl⟩ := h
                    have hd1 : decide (0 < m ∧ m ≤ 1000000000 ∧ cs.length = m * it.size) = true := hob (.eq _ _) (by simp)
                    obtain ⟨hm0, hm1, hlen⟩ := of_decide_eq_true hd1
                    have hxv := (plain x _ (by simp [Op.operands, Call.operands]) hx).abs rfl
                    have hyv := (plain y _ (by simp [Op.operands, Call.operands]) hy).abs rfl
                    simp only [Abs] at hxv hyv
                    obtain ⟨ya, cap, news, hyv, hcap, hnw, hor⟩ := hyv
                    obtain ⟨yb, yo, rfl, hyS, hyc⟩ := hor.resolve_left (by omega)
                    have hnl := hnw.length
                    obtain ⟨xa, hxv⟩ := hxv
                    have hr := run_append_nils (P := P) w _ type _ it zv hut hit hzi xa ⟨yb, yo, none⟩ m cap news (by omega) (fun j v hj => by rw [addr_add]; exact hyc j v hj) hm0 (by omega) (by
                      have := Nat.mul_le_mul hm1 hbytes; omega)
                    have hge := grownCap_ge w m 0 el
                    have hz2 : zv.cells.size = it.size := by rw [← hzl, hzero]; simp
                    have mp := append_new (o := ⟨dst, .call ⟨.builtin .append, #[x, y], #[t, t]⟩, type, pos, after, guard⟩) (ι := ι) (n := n) (b := n) (l := 0) (m := m) (cs := cs) (e := el) (olds := []) (news := news) hnm hmu sane (hfresh n (by simp)) hz2 (by simp) (fun j hj => by omega) hnw hlen (by simpa using hge)
                    simp only [Nat.zero_add, Nat.zero_mul, Nat.sub_zero, List.nil_append] at mp
                    refine Oper.wp_value (exec _ _ (by rw [hxv, hyv]; exact hr)) (hnext _ _ ι (fun m => if m = n then some w.heap.size else ρ m) S ?_)
                    simpa using mp
                  · cases h
                · rename_i b l sz' cs m hx hy
                  split at h
                  · rename_i hc
                    obtain ⟨hsz, hpos, hzl⟩ := hc
                    subst hsz
                    simp only [Option.some.injEq, Prod.mk.injEq] at h
                    obtain ⟨rfl, rfl, rfl, rfl⟩ := h
                    have hd1 : decide (0 < l ∧ l + m ≤ 1000000000 ∧ cs.length = m * it.size) = true := hob (.eq _ _) (by simp)
                    obtain ⟨hl0, hm1, hlen⟩ := of_decide_eq_true hd1
                    have hone : cs.all DV.one = true := hob (.eq (cs.all DV.one) true) (by simp)
                    have hkn : ((List.range (l * it.size)).all fun o => (mu b o).isSome) = true := hob (.eq ((List.range (l * it.size)).all fun o => (mu b o).isSome) true) (by simp)
                    have hkn : ∀ j, j < l * it.size → (mu b j).isSome = true := fun j hj => (List.all_eq_true.1 hkn) j (List.mem_range.2 hj)
                    have hxv := (plain x _ (by simp [Op.operands, Call.operands]) hx).abs rfl
                    have hyv := (plain y _ (by simp [Op.operands, Call.operands]) hy).abs rfl
                    simp only [Abs] at hxv hyv
                    obtain ⟨xa, xcap, hxv, hlx, hxor⟩ := hxv
                    obtain ⟨p, hp, rfl, cur, ce, hblk, hfit⟩ := hxor.resolve_left (by omega)
                    rw [Nat.zero_add] at hfit
                    obtain ⟨ya, cap, news, hyv, hcap, hnw, hor⟩ := hyv
                    have hnl := hnw.length
                    have hposl : 0 < l * it.size := Nat.mul_pos hl0 hpos
                    have hz2 : zv.cells.size = it.size := by rw [← hzl, hzero]; simp
                    -- the new elements' address
                    obtain ⟨yaddr, hya, hyc⟩ : ∃ f : Builtin.firstCells it.size m (.slice ya m cap) = Builtin.firstCells it.size m (.slice ya m cap), (∀ w2 : World, (∀ k, k < w.heap.size → w2.heap[k]? = w.heap[k]?) → (Builtin.firstCells it.size m (.slice ya m cap)).run P w2 = .ok news.toArray w2) ∧ True := by
                      refine ⟨rfl, fun w2 hw2 => ?_, trivial⟩
                      rcases hor with h0 | ⟨yb, yo, rfl, hyS, hyc⟩
                      · subst h0
                        have hnn : news = [] := List.eq_nil_of_length_eq_zero (by simpa [hlen] using hnl)
                        subst hnn
                        cases ya with
                        | none => exact run_firstCells_none (P := P) w2 it.size 0 0 cap
                        | some ad => exact run_firstCells_some (P := P) w2 it.size 0 ad 0 cap [] (by simp) (fun j v hj => by simp at hj)
                      · refine run_firstCells_some (P := P) w2 it.size m ⟨yb, yo, none⟩ m cap news (by omega) (fun j v hj => ?_)
                        rw [addr_add]
                        exact (hyc.mono (hw2 yb (sane yb hyS))) j v hj
                    by_cases hroom : l + m ≤ xcap
                    · have hfits : l * it.size + m * it.size ≤ xcap * it.size := by rw [← Nat.add_mul]; exact Nat.mul_le_mul_right _ hroom
                      obtain ⟨w', vs', hr, hh, hv, hk, hs, ho, hta, hou⟩ := run_storeCells (P := P) p (l * it.size) ce news 0 w cur hblk (hnw.oneCell hone) (by omega)
                      rw [Nat.add_zero] at hv
                      have hrun : (Builtin.append_ #[t, t] type #[a.eval x, a.eval y]).run P w = .ok (.slice (some ⟨p, 0, none⟩) (l + m) xcap) w' := by
                        have hf := hya w (fun _ _ => rfl)
                        rw [hxv, hyv]
                        simp [Builtin.append_, run_underlying hut, sizeOf, typeInfo, hit, Builtin.lenOf, hroom, hf, addr_add, hr]
                      exact Oper.wp_value (exec _ _ hrun) (hnext _ _ ι _ S (append_in hnm hmu (hfresh n (by simp)) hp hposl hkn hblk hfit hroom hnw hlen hh hv hk hs ho hta hou))
                    · obtain ⟨olds, hol, hog⟩ := hmu.firstCells hp ⟨_, _, _, hblk⟩ (l * it.size) 0 (fun j hj => by rw [Nat.zero_add]; exact hkn j hj)
                      have hrun : (Builtin.append_ #[t, t] type #[a.eval x, a.eval y]).run P w = .ok (.slice (some ⟨w.heap.size, 0, none⟩) (l + m) (grownCap w (l + m) xcap el)) (w.drew.alloc (.cells (olds.toArray ++ news.toArray ++ Builtin.zeroCells zv.cells (grownCap w (l + m) xcap el - (l + m))) el)) := by
                        have hf := hya w.drew (fun _ _ => rfl)
                        have hfo := run_firstCells_some (P := P) w.drew it.size l ⟨p, 0, none⟩ l xcap olds hol (fun j v hj => by
                          rw [addr_add, Nat.zero_add]
                          have hlt := (List.getElem?_eq_some_iff.1 hj).1
                          obtain ⟨u, d, h1, _, h3, _⟩ := hog j (by omega)
                          rw [hj] at h1; cases h1
                          rw [Nat.zero_add] at h3
                          exact h3)
                        have h63' : ¬ (9223372036854775807 < ((l : Int) + (m : Int))) := by omega
                        have h48 := growslice_fits (need := l + m) (old := xcap) (bytes := it.bytes) (by omega) (by have := Nat.mul_le_mul hm1 hbytes; omega)
                        have h48' : ¬ (281474976710656 < Builtin.nextslicecap (l + m) xcap * it.bytes) := by omega
                        rw [hxv, hyv]
                        simp [Builtin.append_, run_underlying hut, sizeOf, typeInfo, zeroValue, hit, hzi, Builtin.lenOf, hroom, h63', h48', Question.forced, hf, hfo, newRow, grownCap]
                        exact congrArg (fun x => w.drew.alloc (Obj.cells x el)) (Array.ext' (by simp))
                      have mp := append_new (o := ⟨dst, .call ⟨.builtin .append, #[x, y], #[t, t]⟩, type, pos, after, guard⟩) (ι := ι) (n := n) (b := b) (l := l) (m := m) (cs := cs) (e := el) (olds := olds) (news := news) hnm hmu sane (hfresh n (by simp)) hz2 hol (fun j hj => by
                        obtain ⟨v, d, h1, h2, _, h4⟩ := hog j hj
                        rw [Nat.zero_add] at h2
                        exact ⟨v, d, h1, h2, h4⟩) hnw hlen (grownCap_ge w (l + m) xcap el)
                      exact Oper.wp_value (exec _ _ hrun) (hnext _ _ ι _ S mp)
                  · cases h
                · rename_i b off m sz' hx hy
                  split at h
                  · rename_i hc
                    obtain ⟨hsz, hzl⟩ := hc
                    subst hsz
                    simp only [Option.some.injEq, Prod.mk.injEq] at h
                    obtain ⟨rfl, rfl, rfl, rfl⟩ := h
                    have hd1 : decide (0 < m ∧ m ≤ 1000000000) = true := hob (.eq _ _) (by simp)
                    obtain ⟨hm0, hm1⟩ := of_decide_eq_true hd1
                    have hkn : ((List.range (m * it.size)).all fun o => (mu b (off + o)).isSome) = true := hob (.eq ((List.range (m * it.size)).all fun o => (mu b (off + o)).isSome) true) (by simp)
                    have hkn : ∀ j, j < m * it.size → (mu b (off + j)).isSome = true := fun j hj => (List.all_eq_true.1 hkn) j (List.mem_range.2 hj)
                    have hxv := (plain x _ (by simp [Op.operands, Call.operands]) hx).abs rfl
                    have hyv := (plain y _ (by simp [Op.operands, Call.operands]) hy).abs rfl
                    simp only [Abs] at hxv hyv
                    obtain ⟨xa, hxv⟩ := hxv
                    obtain ⟨ya, cap, hyv, hcap, hor⟩ := hyv
                    obtain ⟨p, hp, rfl, cur, ce, hblk, hfit⟩ := hor.resolve_left (by omega)
                    obtain ⟨news, hnl, hng⟩ := hmu.firstCells hp ⟨_, _, _, hblk⟩ (m * it.size) off hkn
                    have hnw : AbsL ρ S w (rowOf mu b off (m * it.size)) news := .of_get (by simp [rowOf, hnl]) fun j d v hd hv => by
                      have hlt : j < m * it.size := by have := (List.getElem?_eq_some_iff.1 hv).1; omega
                      obtain ⟨u, d', h1, h2, _, h4⟩ := hng j hlt
                      rw [hv] at h1; cases h1
                      simp only [rowOf, List.getElem?_map, List.getElem?_range hlt, Option.map_some, h2, Option.getD_some, Option.some.injEq] at hd
                      subst hd; exact h4
                    have hr := run_append_nils (P := P) w _ type _ it zv hut hit hzi xa ⟨p, off, none⟩ m cap news hnl (fun j v hj => by
                      have hlt : j < m * it.size := by have := (List.getElem?_eq_some_iff.1 hj).1; omega
                      obtain ⟨u, d', h1, _, h3, _⟩ := hng j hlt
                      rw [hj] at h1; cases h1
                      rw [addr_add]; exact h3) hm0 (by omega) (by have := Nat.mul_le_mul hm1 hbytes; omega)
                    have hge := grownCap_ge w m 0 el
                    have hz2 : zv.cells.size = it.size := by rw [← hzl, hzero]; simp
                    have mp := append_new (o := ⟨dst, .call ⟨.builtin .append, #[x, y], #[t, t]⟩, type, pos, after, guard⟩) (ι := ι) (n := n) (b := n) (l := 0) (m := m) (cs := rowOf mu b off (m * it.size)) (e := el) (olds := []) (news := news) hnm hmu sane (hfresh n (by simp)) hz2 (by simp) (fun j hj => by omega) hnw (by simp [rowOf]) (by simpa using hge)
                    simp only [Nat.zero_add, Nat.zero_mul, Nat.sub_zero, List.nil_append] at mp
                    refine Oper.wp_value (exec _ _ (by rw [hxv, hyv]; exact hr)) (hnext _ _ ι (fun m => if m = n then some w.heap.size else ρ m) S ?_)
                    simpa using mp
                  · cases h
                · cases h
              · cases h
            · cases h
          · cases h
        · cases h
      split at h
      · rename_i x _ _ _ _ _ _ el _ _ _ _ _ _ _ hxs hts
        split at h
        · rename_i cs n hx
          obtain ⟨hd, rfl, rfl, rfl⟩ := done _ h
          cases hd
          simp only [Option.bind_eq_some_iff] at hts
          obtain ⟨t, ht0, hts⟩ := hts
          obtain ⟨_, ut, _, hut, _, _, _, _, hel, _⟩ := tiOf_spec (hT _ _ hts)
          simp only at hel
          cases ut <;> simp only [] at hel <;> first | (cases hel; done) | skip
          have hmem : x ∈ args := by rw [← Array.mem_toList_iff, hxs]; simp
          have hv := (plain x _ (by simp only [Op.operands, Call.operands, Array.mem_append]; right; exact hmem) hx).abs rfl
          simp only [Abs] at hv
          obtain ⟨ad, cap, vs, hv, _⟩ := hv
          have harr : args = #[x] := by apply Array.ext'; simpa using hxs
          subst harr
          exact fin (.int .i64 n) (by
            simp only [execOp, resolve, Sem.run_bind, Sem.run_pure, Result.andThen, invoke, builtin, Builtin.len_, ht0, List.map_toArray, List.map_cons, List.map_nil, hv]
            simp [ht0, run_under hut, Sem.run_bind, Sem.run_pure, Result.andThen, hv, goInt]) rfl rfl (by simp only [TAbs, Abs])
        · rename_i b off n sz hx
          obtain ⟨hd, rfl, rfl, rfl⟩ := done _ h
          cases hd
          simp only [Option.bind_eq_some_iff] at hts
          obtain ⟨t, ht0, hts⟩ := hts
          obtain ⟨_, ut, _, hut, _, _, _, _, hel, _⟩ := tiOf_spec (hT _ _ hts)
          simp only at hel
          cases ut <;> simp only [] at hel <;> first | (cases hel; done) | skip
          have hmem : x ∈ args := by rw [← Array.mem_toList_iff, hxs]; simp
          have hv := (plain x _ (by simp only [Op.operands, Call.operands, Array.mem_append]; right; exact hmem) hx).abs rfl
          simp only [Abs] at hv
          obtain ⟨_, cap, hv, _⟩ := hv
          have harr : args = #[x] := by apply Array.ext'; simpa using hxs
          subst harr
          exact fin (.int .i64 n) (by
            simp only [execOp, resolve, Sem.run_bind, Sem.run_pure, Result.andThen, invoke, builtin, Builtin.len_, ht0, List.map_toArray, List.map_cons, List.map_nil, hv]
            simp [ht0, run_under hut, Sem.run_bind, Sem.run_pure, Result.andThen, hv, goInt]) rfl rfl (by simp only [TAbs, Abs])
        · rename_i hx
          obtain ⟨hd, rfl, rfl, rfl⟩ := done _ h
          cases hd
          simp only [Option.bind_eq_some_iff] at hts
          obtain ⟨t, ht0, hts⟩ := hts
          obtain ⟨_, ut, _, hut, _, _, _, _, hel, _⟩ := tiOf_spec (hT _ _ hts)
          simp only at hel
          cases ut <;> simp only [] at hel <;> first | (cases hel; done) | skip
          have hmem : x ∈ args := by rw [← Array.mem_toList_iff, hxs]; simp
          have hv := (plain x _ (by simp only [Op.operands, Call.operands, Array.mem_append]; right; exact hmem) hx).abs rfl
          simp only [Abs] at hv
          obtain ⟨na, hv⟩ := hv
          have harr : args = #[x] := by apply Array.ext'; simpa using hxs
          subst harr
          exact fin (.int .i64 0) (by
            simp only [execOp, resolve, Sem.run_bind, Sem.run_pure, Result.andThen, invoke, builtin, Builtin.len_, ht0, List.map_toArray, List.map_cons, List.map_nil, hv]
            simp [ht0, run_under hut, Sem.run_bind, Sem.run_pure, Result.andThen, hv, goInt]) rfl rfl (by simp only [TAbs, Abs])
        · cases h
      · rename_i x _ _ _ _ _ _ _ _ _ _ _ _ _ hxs hts
        split at h
        · rename_i sb hx
          obtain ⟨hd, rfl, rfl, rfl⟩ := done _ h
          cases hd
          simp only [Option.bind_eq_some_iff] at hts
          obtain ⟨t, ht0, hts⟩ := hts
          have hu := tiOf_str (hT _ _ hts) rfl rfl
          have hmem : x ∈ args := by rw [← Array.mem_toList_iff, hxs]; simp
          have hv := (plain x _ (by simp only [Op.operands, Call.operands, Array.mem_append]; right; exact hmem) hx).abs rfl
          simp only [Abs] at hv
          have harr : args = #[x] := by apply Array.ext'; simpa using hxs
          subst harr
          exact fin (.int .i64 (lenS sb)) (by
            simp only [execOp, resolve, Sem.run_bind, Sem.run_pure, Result.andThen, invoke, builtin, Builtin.len_, ht0, List.map_toArray, List.map_cons, List.map_nil, hv]
            simp [ht0, run_under hu, Sem.run_bind, Sem.run_pure, Result.andThen, hv, goInt, lenS_eq]) rfl rfl (by simp only [TAbs, Abs])
        · cases h
      · cases h
end
end Go.Proofs.YtpckjfncecoibaaGreat.Fun
