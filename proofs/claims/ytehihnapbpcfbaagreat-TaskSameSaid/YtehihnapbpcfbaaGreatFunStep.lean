/- One operation that writes no variable, whole. -/
import Derived.Test.YtehihnapbpcfbaaGreatFunEq
import Derived.Laws.BytesString
namespace Go.Proofs.YtehihnapbpcfbaaGreat.Fun
open Go
set_option linter.unusedSimpArgs false
set_option linter.unusedVariables false
section
variable {P : Program} {T : TypeId → Option TI}

theorem evPairs_get {ev : Operand → Option DV} : ∀ {xs : List (Nat × Operand)} {ds : List (Nat × DV)}, evPairs ev xs = some ds → ds.length = xs.length ∧ ∀ (k i : Nat) (d : DV), ds[k]? = some (i, d) → ∃ x, xs[k]? = some (i, x) ∧ ev x = some d
  | [], ds, h => by simp only [evPairs, Option.some.injEq] at h; subst h; exact ⟨rfl, fun k i d hd => by simp at hd⟩
  | (i, x) :: xs, ds, h => by
    simp only [evPairs] at h
    split at h
    · rename_i d es hx hes
      cases h
      obtain ⟨hl, hg⟩ := evPairs_get hes
      refine ⟨by simp [hl], fun k j e he => ?_⟩
      cases k with
      | zero => simp at he; obtain ⟨rfl, rfl⟩ := he; exact ⟨x, rfl, hx⟩
      | succ k => exact hg k j e (by simpa using he)
    · cases h

theorem Post.monoPost {ι ρ ρ' : Nat → Option Nat} {S : Nat → Prop} {mu : Mu} {w w' : World} {S' : Nat → Prop} {o : Oper} {d : DV} {m : Option Mu} {fresh : List Nat} {dirty : Bool} {v : Value} (h : Post S (Dom ρ mu) w w' S' dirty)
    (hn : Named ρ' (m.getD mu) w') (hg : Ext ρ w ρ' w') (hb : ∀ n b, ρ' n = some b → ρ n = some b ∨ n ∈ fresh)
    (hm : MuOk ρ' S' w' (m.getD mu)) (hd : ∀ b, Dom ρ' (m.getD mu) b → Dom ρ mu b ∨ w.heap.size ≤ b) (hv : Abs ρ' S' w' d v) : MonoPost ι ρ S mu w o d { mu := m, use := fresh } dirty v w' ι ρ' S' :=
  ⟨h.os, h.tape, h.output, h.size, h.old, h.clean, h.up, fun b hb => (h.from_ b hb).imp id .inl, TAbs.of_abs hv, hm, hd, fun _ => rfl, fun _ h => by simp at h, hn, hg, hb, fun _ h => by simp at h⟩

def toV : DV → Value
  | .int k n => .int k n
  | .bool b => .bool b
  | .str s => .string s
  | _ => undef
theorem binInt_run {op : BinOp} {k : IntKind} {x y : Int} {d : DV} (h : binInt op k x y = some d) (t : TypeId) (w : World) :
    (binOp op t (.int k x) (.int k y)).run P w = .ok (toV d) w ∧ ∀ ρ S, Abs ρ S w d (toV d) := by
  cases op <;> simp only [binInt, Option.some.injEq] at h <;> first | (cases h; done) | skip
  case quo => split at h <;> first | (cases h; done) | (rename_i hy; cases h; exact ⟨by simp only [binOp, ne_eq, not_true_eq_false, if_false, Op.intDiv, if_neg hy]; rfl, fun ρ S => by simp only [Abs, toV]⟩)
  case rem => split at h <;> first | (cases h; done) | (rename_i hy; cases h; exact ⟨by simp only [binOp, ne_eq, not_true_eq_false, if_false, Op.intDiv, if_neg hy]; rfl, fun ρ S => by simp only [Abs, toV]⟩)
  all_goals (subst h; exact ⟨by simp only [binOp, ne_eq, not_true_eq_false, if_false]; rfl, fun ρ S => by simp only [Abs, toV]⟩)
theorem shift_run {op : BinOp} {k k' : IntKind} {x n : Int} {d : DV} (hn : 0 ≤ n) (h : shiftBy op k x n.toNat = some d) (t : TypeId) (w : World) :
    (binOp op t (.int k x) (.int k' n)).run P w = .ok (toV d) w ∧ ∀ ρ S, Abs ρ S w d (toV d) := by
  cases op <;> simp only [shiftBy, Option.some.injEq] at h <;> first | (cases h; done) | skip
  all_goals
    subst h
    refine ⟨?_, fun ρ S => by simp only [Abs, toV]⟩
    simp only [binOp, Op.shift]
    rw [if_neg (by omega)]
    rfl
theorem equal_bool {t : TypeId} (hu : P.underlying t = some .bool) (a b : Bool) (w : World) : (Op.equal t (.bool a) (.bool b)).run P w = .ok (a == b) w := by
  rw [Op.equal, show Op.maxDepth = 9999 + 1 from rfl, Op.equalIn]
  simp only [Sem.run_bind, run_under hu, Result.andThen]
  rfl
theorem equal_ptr {t e : TypeId} (hu : P.underlying t = some (.pointer e)) (a : Addr) (w : World) : (Op.equal t (.pointer (some a)) (.pointer none)).run P w = .ok false w := by
  rw [Op.equal, show Op.maxDepth = 9999 + 1 from rfl, Op.equalIn]
  simp only [Sem.run_bind, run_under hu, Result.andThen]
  rfl
theorem equal_nil {t e : TypeId} (hu : P.underlying t = some (.pointer e)) (w : World) : (Op.equal t (.pointer none) (.pointer none)).run P w = .ok true w := by
  rw [Op.equal, show Op.maxDepth = 9999 + 1 from rfl, Op.equalIn]
  simp only [Sem.run_bind, run_under hu, Result.andThen]
  rfl
theorem equal_fun {t : TypeId} {ps rs : Array TypeId} {b : Bool} (hu : P.underlying t = some (.func ps rs b)) {f : Fn} {as cs : Array Value} (w : World) : (Op.equal t (.func f as cs) .nilFunc).run P w = .ok false w := by
  rw [Op.equal, show Op.maxDepth = 9999 + 1 from rfl, Op.equalIn]
  simp only [Sem.run_bind, run_under hu, Result.andThen]
  rfl
theorem equal_nilf {t : TypeId} {ps rs : Array TypeId} {b : Bool} (hu : P.underlying t = some (.func ps rs b)) (w : World) : (Op.equal t .nilFunc .nilFunc).run P w = .ok true w := by
  rw [Op.equal, show Op.maxDepth = 9999 + 1 from rfl, Op.equalIn]
  simp only [Sem.run_bind, run_under hu, Result.andThen]
  rfl
theorem tiOf_fun {t : TypeId} {ti : TI} (h : tiOf P t = some ti) (ha : ti.agg = false) (hc : ti.cmp = some [9]) : ∃ ps rs b, P.underlying t = some (.func ps rs b) := by
  unfold tiOf at h
  split at h
  · rename_i i u hi hu
    cases h
    simp only at ha hc
    rw [show (8 : Nat) = 7 + 1 from rfl, cmpOf] at hc
    simp only [hi, hu] at hc
    cases u <;> simp only [isAggD, clsOf] at ha hc <;> first | (cases ha; done) | exact ⟨_, _, _, hu⟩ | (simp at hc; done) | (split at hc <;> first | (cases hc; done) | (split at hc <;> first | (cases hc; done) | simp at hc))
  · cases h
theorem eqGuard_any {op : BinOp} {t : TypeId} {x y : Operand} {a b : Value} {w : World} (h : ∀ cs, a ≠ .agg cs) (h' : a ≠ .nilIface) : (eqGuard op t x y a b).run P w = .ok () w := by
  cases op <;> first | rfl | (cases a <;> first | rfl | (exact absurd rfl (h _)) | (exact absurd rfl h'))
theorem lenS_eq (s : ByteArray) : lenS s = s.size := by unfold lenS; exact Array.length_toList
theorem joinS_eq (s t : ByteArray) : joinS s t = s ++ t := by
  unfold joinS
  apply ByteArray.ext
  apply Array.ext'
  simp
theorem binD_spec (hT : ∀ t ti, T t = some ti → tiOf P t = some ti) {ev : Operand → Option DV} {op : BinOp} {t : TypeId} {x y : Operand} {d : DV} (h : binD T ev op t x y = some d) :
    ∃ dx dy, ev x = some dx ∧ dx.noLoc = true ∧ dy.noLoc = true ∧ (ev y = some dy ∨ ∃ v, y = .const v ∧ dy = .any ∧ (∃ k n, v = .int k n)) ∧ ∀ (vx vy : Value) (ρ : Nat → Option Nat) (S : Nat → Prop) (w : World), Abs ρ S w dx vx → (ev y = some dy → Abs ρ S w dy vy) → (∀ v, y = .const v → vy = v) →
      (eqGuard op t x y vx vy).run P w = .ok () w ∧ (binOp op t vx vy).run P w = .ok (toV d) w ∧ ∀ ρ S, Abs ρ S w d (toV d) := by
  unfold binD at h
  by_cases hs : isShift op = true
  · rw [if_pos hs] at h
    split at h
    · rename_i k m k' n hx hy
      split at h
      · rename_i h0
        refine ⟨_, _, hx, rfl, rfl, .inl hy, fun vx vy ρ S w hvx hvy _ => ?_⟩
        have hvy := hvy hy
        simp only [Abs] at hvx hvy
        subst hvx; subst hvy
        exact ⟨eqGuard_any (fun _ h => (by cases h)) (fun h => (by cases h)), shift_run h0 h t w⟩
      · cases h
    · cases h
  · rw [if_neg hs] at h
    split at h
    · rename_i k m k' n hx hy
      split at h
      · rename_i hk
        subst hk
        refine ⟨_, _, hx, rfl, rfl, .inl hy, fun vx vy ρ S w hvx hvy _ => ?_⟩
        have hvy := hvy hy
        simp only [Abs] at hvx hvy
        subst hvx; subst hvy
        exact ⟨eqGuard_any (fun _ h => (by cases h)) (fun h => (by cases h)), binInt_run h t w⟩
      · cases h
    · rename_i a b hx hy
      refine ⟨_, _, hx, rfl, rfl, .inl hy, fun vx vy ρ S w hvx hvy _ => ?_⟩
      have hvy := hvy hy
      simp only [Abs] at hvx hvy
      subst hvx; subst hvy
      refine ⟨eqGuard_any (fun _ h => (by cases h)) (fun h => (by cases h)), ?_⟩
      split at h <;> first | (cases h; done) | skip
      all_goals
        rename_i ht
        obtain ⟨_, u, _, hu, _, _, _, _, _, _, _, hb, _⟩ := tiOf_spec (hT _ _ ht)
        simp only at hb
        cases u <;> simp only [] at hb <;> first | (cases hb; done) | skip
        cases h
        exact ⟨by simp only [binOp, Sem.run_bind, equal_bool hu, Result.andThen, Sem.run_pure]; rfl, fun ρ S => by simp only [Abs, toV]⟩
    · rename_i b off hx hy
      refine ⟨_, _, hx, rfl, rfl, .inl hy, fun vx vy ρ S w hvx hvy _ => ?_⟩
      have hvy := hvy hy
      simp only [Abs] at hvx hvy
      obtain ⟨p, _, rfl⟩ := hvx; subst hvy
      refine ⟨eqGuard_any (fun _ h => (by cases h)) (fun h => (by cases h)), ?_⟩
      split at h <;> first | (cases h; done) | skip
      all_goals
        rename_i ht
        obtain ⟨_, u, _, hu, _, _, _, _, _, _, hb, _⟩ := tiOf_spec (hT _ _ ht)
        simp only at hb
        cases u <;> simp only [] at hb <;> first | (cases hb; done) | skip
        cases h
        exact ⟨by simp only [binOp, Sem.run_bind, equal_ptr hu, Result.andThen, Sem.run_pure]; rfl, fun ρ S => by simp only [Abs, toV]⟩
    · rename_i hx hy
      refine ⟨_, _, hx, rfl, rfl, .inl hy, fun vx vy ρ S w hvx hvy _ => ?_⟩
      have hvy := hvy hy
      simp only [Abs] at hvx hvy
      subst hvx; subst hvy
      refine ⟨eqGuard_any (fun _ h => (by cases h)) (fun h => (by cases h)), ?_⟩
      split at h <;> first | (cases h; done) | skip
      all_goals
        rename_i ht
        obtain ⟨_, u, _, hu, _, _, _, _, _, _, hb, _⟩ := tiOf_spec (hT _ _ ht)
        simp only at hb
        cases u <;> simp only [] at hb <;> first | (cases hb; done) | skip
        cases h
        exact ⟨by simp only [binOp, Sem.run_bind, equal_nil hu, Result.andThen, Sem.run_pure]; rfl, fun ρ S => by simp only [Abs, toV]⟩
    · rename_i g gs hx hy
      refine ⟨_, _, hx, rfl, rfl, .inl hy, fun vx vy ρ S w hvx hvy _ => ?_⟩
      have hvy := hvy hy
      simp only [Abs] at hvx hvy
      obtain ⟨vs, rfl, _⟩ := hvx; subst hvy
      refine ⟨eqGuard_any (fun _ h => (by cases h)) (fun h => (by cases h)), ?_⟩
      split at h <;> first | (cases h; done) | skip
      all_goals
        rename_i ht
        obtain ⟨_, _, _, hu⟩ := tiOf_fun (hT _ _ ht) rfl rfl
        cases h
        exact ⟨by simp only [binOp, Sem.run_bind, equal_fun hu, Result.andThen, Sem.run_pure]; rfl, fun ρ S => by simp only [Abs, toV]⟩
    · rename_i hx hy
      refine ⟨_, _, hx, rfl, rfl, .inl hy, fun vx vy ρ S w hvx hvy _ => ?_⟩
      have hvy := hvy hy
      simp only [Abs] at hvx hvy
      subst hvx; subst hvy
      refine ⟨eqGuard_any (fun _ h => (by cases h)) (fun h => (by cases h)), ?_⟩
      split at h <;> first | (cases h; done) | skip
      all_goals
        rename_i ht
        obtain ⟨_, _, _, hu⟩ := tiOf_fun (hT _ _ ht) rfl rfl
        cases h
        exact ⟨by simp only [binOp, Sem.run_bind, equal_nilf hu, Result.andThen, Sem.run_pure]; rfl, fun ρ S => by simp only [Abs, toV]⟩
    · rename_i a b hx hy
      refine ⟨_, _, hx, rfl, rfl, .inl hy, fun vx vy ρ S w hvx hvy _ => ?_⟩
      have hvy := hvy hy
      simp only [Abs] at hvx hvy
      subst hvx; subst hvy
      refine ⟨eqGuard_any (fun _ h => (by cases h)) (fun h => (by cases h)), ?_⟩
      split at h <;> first | (cases h; done) | skip
      case' h_1 =>
        split at h <;> first | (cases h; done) | skip
        rename_i hle
        cases h
        refine ⟨?_, fun ρ S => by simp only [Abs, toV]⟩
        rw [lenS_eq, lenS_eq] at hle
        simp only [binOp, Op.stringOp, joinS_eq, toV]
        rw [if_neg (by simp only [IntKind.max, IntKind.signed, IntKind.bits]; simp; omega)]
        rfl
      all_goals
        cases h
        exact ⟨by simp only [binOp, Op.stringOp, strEq_spec, Sem.run_pure]; rfl, fun ρ S => by simp only [Abs, toV]⟩
    · rename_i xs ys hx hy
      refine ⟨_, _, hx, rfl, rfl, .inl hy, fun vx vy ρ S w hvx hvy _ => ?_⟩
      have hvy := hvy hy
      simp only [Abs] at hvx hvy
      obtain ⟨vs, rfl, hvs⟩ := hvx
      obtain ⟨us, rfl, hus⟩ := hvy
      split at h <;> first | (cases h; done) | skip
      all_goals
        rename_i ht
        obtain ⟨i0, u, hi0, hu, _, hag, _, _, _, _, _, _, _, _, _, hcmp⟩ := tiOf_spec (hT _ _ ht)
        simp only at hcmp hag
        rw [show clsOf u (if P.eqGuardType P.depth t then none else cmpOf P 8 t) = (if P.eqGuardType P.depth t then none else cmpOf P 8 t) by
          clear h hcmp
          cases u <;> first | rfl | (simp [isAggD] at hag)] at hcmp
        simp only [Option.map_eq_some_iff] at h
        obtain ⟨r, hr, rfl⟩ := h
        split at hcmp
        · cases hcmp
        · rename_i hg
          obtain ⟨i, u', hi, hu', _, hrun, _⟩ := cmp_run 8 9992 t _ hcmp.symm ρ S w xs ys r vs us hvs hus hr
          rw [hu] at hu'; cases hu'
          have hrun := hrun hag.symm
          refine ⟨run_eqGuard_agg w _ t x y _ _ (by simpa using hg), ?_, fun ρ S => by simp only [Abs, toV]⟩
          first
          | (rw [run_eql_struct, hrun]; rfl)
          | (rw [run_neq_struct, hrun]; rfl)
    · cases h
/-- Loads of others' cells. -/
theorem cellObs_get {mu : Mu} {b : Nat} : ∀ {ds : List DV} {off : Nat}, (∀ x ∈ cellObs mu b off ds, x.ok P) → ∀ (j : Nat) (d : DV), ds[j]? = some d → mu b (off + j) = some d
  | [], _, _, j, d, h => by simp at h
  | e :: ds, off, hob, 0, d, h => by
    simp at h; subst h
    exact hob (.part (mu b off) e) (by simp [cellObs])
  | e :: ds, off, hob, j + 1, d, h => by
    have := cellObs_get (ds := ds) (off := off + 1) (fun x hx => hob x (List.mem_cons_of_mem _ hx)) j d (by simpa using h)
    rw [← this]; congr 1; omega
theorem MuOk.row {ρ : Nat → Option Nat} {S : Nat → Prop} {w : World} {mu : Mu} (h : MuOk ρ S w mu) {b p : Nat} (hp : ρ b = some p) : ∀ {ds : List DV} {off : Nat}, (∀ (j : Nat) (d : DV), ds[j]? = some d → mu b (off + j) = some d) → ∃ vs, CellsAt w p off vs ∧ AbsL ρ S w ds vs
  | [], off, _ => ⟨[], fun j u hj => by simp at hj, .nil⟩
  | d :: ds, off, hg => by
    obtain ⟨p', hp', _, _, v, hv, ha⟩ := h b off d (by simpa using hg 0 d rfl)
    rw [hp] at hp'; cases hp'
    obtain ⟨vs, hc, hab⟩ := MuOk.row h hp (ds := ds) (off := off + 1) (fun j e he => by have := hg (j + 1) e (by simpa using he); rwa [show off + (j + 1) = off + 1 + j by omega] at this)
    refine ⟨v :: vs, fun j u hj => ?_, .cons ha hab⟩
    cases j with
    | zero => simp at hj; subst hj; simpa using hv
    | succ j => have := hc j u (by simpa using hj); rwa [show off + 1 + j = off + (j + 1) by omega] at this

theorem eqGuard_run {op : BinOp} {t : TypeId} {x y : Operand} {k k' : IntKind} {a b : Int} {w : World} : (eqGuard op t x y (.int k a) (.int k' b)).run P w = .ok () w := by
  cases op <;> rfl

theorem slice_run {ρ : Nat → Option Nat} {t e : TypeId} {te : TI} {i : TypeInfo} (hu : P.underlying t = some (.slice e)) (hi : P.info? e = some i) {w : World} {S : Nat → Prop} {cs : List DV} {n : Nat} {v : Value} {k : IntKind} {l : Int}
    (hv : Abs ρ S w (.slice cs n) v) (h0 : 0 ≤ l) (h1 : l ≤ n) :
    ∃ u, (Instr.sliceAt t v (some (.int k l)) none none).run P w = .ok u w ∧ Abs ρ S w (.slice (cs.drop (l.toNat * i.size)) (n - l.toNat)) u := by
  simp only [Abs] at hv
  obtain ⟨a, cap, vs, rfl, hcap, hab, hor⟩ := hv
  have hb : (Instr.sliceBounds true n cap (some (.int k l)) none none).run P w = .ok (l.toNat, n, cap) w := by
    simp only [Instr.sliceBounds, Instr.sliceBound, asIntOf, Sem.run_bind, Sem.run_pure, Result.andThen]
    rw [if_pos ⟨h0, h1⟩]
    simp only [Sem.run_pure, Result.andThen]
  refine ⟨_, by simp only [Instr.sliceAt, Sem.run_bind, run_under hu, Result.andThen, Instr.slice, hb, run_size hi, Sem.run_pure]; rfl, ?_⟩
  simp only [Abs]
  refine ⟨_, _, vs.drop (l.toNat * i.size), rfl, by omega, hab.drop _, ?_⟩
  rcases hor with h0 | ⟨b, off, rfl, hb, hc⟩
  · left; omega
  · by_cases hz : n - l.toNat = 0
    · exact .inl hz
    · right
      rw [if_neg (by omega)]
      refine ⟨b, off + l.toNat * i.size, by simp [addr_add], hb, hc.drop _⟩

theorem sliceV_spec {T : TypeId → Option TI} {ev : Operand → Option DV} {t : TypeId} {x : Operand} {lo hi mx : Option Operand} {d : DV} (hs : sliceV T ev t x lo hi mx = some (d, true)) :
    ∃ ti e te b off n l h, mx = none ∧ T t = some ti ∧ ti.elem = some e ∧ ev x = some (.vec b off n te.size) ∧ T e = some te ∧ boundD ev 0 lo = some l ∧ boundD ev n hi = some h ∧
      d = .vec b (off + l.toNat * te.size) (h.toNat - l.toNat) te.size ∧ 0 ≤ l ∧ l ≤ h ∧ h ≤ (n : Int) := by
  cases mx with
  | some m => simp [sliceV] at hs
  | none =>
  cases ht : T t with
  | none => simp [sliceV, ht] at hs
  | some ti =>
  cases hx : ev x with
  | none => simp [sliceV, ht, hx] at hs
  | some dx =>
  cases dx <;> (try (simp [sliceV, ht, hx] at hs; done))
  rename_i b off n sz
  cases he : ti.elem with
  | none => obtain ⟨_, _, _, _, elem, _⟩ := ti; simp only at he; subst he; simp [sliceV, ht, hx] at hs
  | some e =>
  obtain ⟨a1, a2, a3, a4, elem, a6, a7, a8, a9, a10, a11, a12⟩ := ti
  simp only at he
  subst he
  simp only [sliceV, ht, hx] at hs
  cases hte : T e with
  | none => simp [hte] at hs
  | some te =>
  cases hl : boundD ev 0 lo with
  | none => simp [hte, hl] at hs
  | some l =>
  cases hh : boundD ev n hi with
  | none => simp [hte, hl, hh] at hs
  | some h =>
  simp only [hte, hl, hh] at hs
  by_cases hz : te.size = sz
  · subst hz
    rw [if_pos rfl] at hs
    simp only [Option.some.injEq, Prod.mk.injEq, decide_eq_true_eq] at hs
    obtain ⟨rfl, h0, h1, h2⟩ := hs
    exact ⟨_, e, te, b, off, n, l, h, rfl, rfl, rfl, rfl, hte, rfl, hh, rfl, h0, h1, h2⟩
  · rw [if_neg hz] at hs; cases hs
theorem tiOf_arr {t : TypeId} {ti : TI} (h : tiOf P t = some ti) {m : Nat} {e : TypeId} (ha : ti.arr = some (m, e)) {u : TypeDesc} (hu : P.underlying t = some u) : u = .array m e := by
  unfold tiOf at h
  rw [hu] at h
  split at h
  · rename_i i u' _ hu'
    cases hu'
    cases h
    simp only at ha
    cases u <;> simp only [] at ha <;> first | (cases ha; done) | skip
    simp only [Option.some.injEq, Prod.mk.injEq] at ha
    rw [ha.1, ha.2]
  · cases h
theorem tiOf_str {t : TypeId} {ti : TI} (h : tiOf P t = some ti) (ha : ti.agg = false) (hc : ti.cmp = some [2]) : P.underlying t = some .string := by
  unfold tiOf at h
  split at h
  · rename_i i u hi hu
    cases h
    simp only at ha hc
    replace hc : (if P.eqGuardType P.depth t then none else cmpOf P 8 t) = some [2] := by
      cases u <;> first | exact hc | (simp [clsOf] at hc)
    split at hc
    · cases hc
    · rw [show (8 : Nat) = 7 + 1 from rfl, cmpOf] at hc
      simp only [hi, hu] at hc
      cases u <;> simp only [isAggD] at ha hc <;> first | (cases ha; done) | exact hu | (cases hc; done) | (split at hc <;> first | (cases hc; done) | simp at hc)
  · cases h
theorem byteD_eq (s : ByteArray) {k : Nat} (h : k < lenS s) : ∃ b : UInt8, s[k]? = some b ∧ byteD s k = (b.toNat : Int) := by
  rw [lenS_eq] at h
  refine ⟨s[k], getElem?_pos s k h, ?_⟩
  have h' : k < s.data.toList.length := by rw [Array.length_toList]; exact h
  unfold byteD
  rw [List.getElem?_eq_getElem h', Option.getD_some]; rfl
theorem cutS_eq (s : ByteArray) (l h : Nat) : cutS s l h = s.extract l h := by
  unfold cutS
  apply ByteArray.ext
  simp [ByteArray.data_extract]
  apply Array.ext'
  simp [List.extract_eq_take_drop]
theorem sliceS_spec {T : TypeId → Option TI} {ev : Operand → Option DV} {t : TypeId} {x : Operand} {lo hi mx : Option Operand} {d : DV} (hs : sliceS T ev t x lo hi mx = some (d, true)) :
    ∃ ti s l h, mx = none ∧ T t = some ti ∧ ti.cmp = some [2] ∧ ti.agg = false ∧ ev x = some (.str s) ∧ boundD ev 0 lo = some l ∧ boundD ev (lenS s) hi = some h ∧ d = .str (cutS s l.toNat h.toNat) ∧ 0 ≤ l ∧ l ≤ h ∧ h ≤ (lenS s : Int) := by
  unfold sliceS at hs
  split at hs
  · rename_i _ _ _ _ _ s ht hx
    split at hs
    · rename_i l h hl hh
      simp only [Option.some.injEq, Prod.mk.injEq, decide_eq_true_eq] at hs
      obtain ⟨rfl, h0, h1, h2⟩ := hs
      exact ⟨_, s, l, h, rfl, ht, rfl, rfl, hx, hl, hh, rfl, h0, h1, h2⟩
    · cases hs
  · cases hs
theorem slice_str_run {t : TypeId} (hu : P.underlying t = some .string) {w : World} {s : ByteArray} {lo hi' : Option Value} {l h : Int}
    (hlo : lo = none ∧ l = 0 ∨ ∃ k, lo = some (.int k l)) (hhi : hi' = none ∧ h = (lenS s : Int) ∨ ∃ k, hi' = some (.int k h)) (h0 : 0 ≤ l) (h1 : l ≤ h) (h2 : h ≤ (lenS s : Int)) :
    (Instr.sliceAt t (.string s) lo hi' none).run P w = .ok (.string (cutS s l.toNat h.toNat)) w := by
  rw [lenS_eq] at hhi h2
  have hb : (Instr.sliceBounds false s.size s.size lo hi' none).run P w = .ok (l.toNat, h.toNat, s.size) w := by
    rcases hlo with ⟨rfl, rfl⟩ | ⟨k, rfl⟩
    · rcases hhi with ⟨rfl, rfl⟩ | ⟨k', rfl⟩
      · simp [Instr.sliceBounds, Sem.run_bind, Sem.run_pure, Result.andThen]
      · simp only [Instr.sliceBounds, Instr.sliceBound, asIntOf, Sem.run_bind, Sem.run_pure, Result.andThen]
        rw [if_pos ⟨by omega, by omega⟩]
        simp [Sem.run_pure]
    · rcases hhi with ⟨rfl, rfl⟩ | ⟨k', rfl⟩
      · simp only [Instr.sliceBounds, Instr.sliceBound, asIntOf, Sem.run_bind, Sem.run_pure, Result.andThen]
        rw [if_pos ⟨by omega, by omega⟩]
        simp [Sem.run_pure]
      · simp only [Instr.sliceBounds, Instr.sliceBound, asIntOf, Sem.run_bind, Sem.run_pure, Result.andThen]
        rw [if_pos ⟨by omega, by omega⟩]
        simp only [Sem.run_pure, Result.andThen]
        rw [if_pos ⟨by omega, by omega⟩]
        simp [Sem.run_pure]
  simp only [Instr.sliceAt, Sem.run_bind, run_under hu, Result.andThen, Instr.slice, hb, Sem.run_pure, cutS_eq, Option.isSome_none, Bool.false_eq_true, if_false]
theorem sliceA_spec {T : TypeId → Option TI} {ev : Operand → Option DV} {lc : Nat → Option (List DV)} {t : TypeId} {x : Operand} {lo hi mx : Option Operand} {d : DV} {n : Nat} (hs : sliceA T ev lc t x lo hi mx = some (d, n)) :
    ∃ ti m e off te cs, lo = none ∧ hi = none ∧ mx = none ∧ T t = some ti ∧ ti.arr = some (m, e) ∧ ev x = some (.loc n off) ∧ T e = some te ∧ lc n = some cs ∧ d = .slice ((cs.drop off).take (m * te.size)) m := by
  unfold sliceA at hs
  split at hs
  · rename_i _ _ _ _ _ m e _ n' off ht hx
    split at hs
    · rename_i te cs hte hlc
      simp only [Option.some.injEq, Prod.mk.injEq] at hs
      obtain ⟨rfl, rfl⟩ := hs
      exact ⟨_, m, e, off, te, cs, rfl, rfl, rfl, ht, rfl, hx, hte, hlc, rfl⟩
    · cases hs
  · cases hs
theorem slice_vec_run {ρ : Nat → Option Nat} {t e : TypeId} {i : TypeInfo} (hu : P.underlying t = some (.slice e)) (hi : P.info? e = some i) {w : World} {S : Nat → Prop} {b off n : Nat} {v : Value} {lo hi' : Option Value} {l h : Int}
    (hv : Abs ρ S w (.vec b off n i.size) v) (hlo : lo = none ∧ l = 0 ∨ ∃ k, lo = some (.int k l)) (hhi : hi' = none ∧ h = n ∨ ∃ k, hi' = some (.int k h)) (h0 : 0 ≤ l) (h1 : l ≤ h) (h2 : h ≤ n) :
    ∃ u, (Instr.sliceAt t v lo hi' none).run P w = .ok u w ∧ Abs ρ S w (.vec b (off + l.toNat * i.size) (h.toNat - l.toNat) i.size) u := by
  simp only [Abs] at hv
  obtain ⟨a, cap, rfl, hcap, hor⟩ := hv
  have hb : (Instr.sliceBounds true n cap lo hi' none).run P w = .ok (l.toNat, h.toNat, cap) w := by
    rcases hlo with ⟨rfl, rfl⟩ | ⟨k, rfl⟩
    · rcases hhi with ⟨rfl, rfl⟩ | ⟨k', rfl⟩
      · simp [Instr.sliceBounds, Sem.run_bind, Sem.run_pure, Result.andThen]
      · simp only [Instr.sliceBounds, Instr.sliceBound, asIntOf, Sem.run_bind, Sem.run_pure, Result.andThen]
        rw [if_pos ⟨by omega, by omega⟩]
        simp [Sem.run_pure]
    · rcases hhi with ⟨rfl, rfl⟩ | ⟨k', rfl⟩
      · simp only [Instr.sliceBounds, Instr.sliceBound, asIntOf, Sem.run_bind, Sem.run_pure, Result.andThen]
        rw [if_pos ⟨by omega, by omega⟩]
        simp [Sem.run_pure]
      · simp only [Instr.sliceBounds, Instr.sliceBound, asIntOf, Sem.run_bind, Sem.run_pure, Result.andThen]
        rw [if_pos ⟨by omega, by omega⟩]
        simp only [Sem.run_pure]
        rw [if_pos ⟨by omega, by omega⟩]
        simp only [Sem.run_pure]
  refine ⟨_, by simp only [Instr.sliceAt, Sem.run_bind, run_under hu, Result.andThen, Instr.slice, hb, run_size hi, Sem.run_pure]; rfl, ?_⟩
  simp only [Abs]
  refine ⟨_, _, rfl, by omega, ?_⟩
  by_cases hz : h.toNat - l.toNat = 0
  · exact .inl hz
  · right
    have hn0 : ¬ n = 0 := by omega
    have hcl : ¬ cap = l.toNat := by omega
    have hlc : l.toNat ≤ cap := by omega
    obtain ⟨p, hp, rfl, vs, el, hblk, hfit⟩ := hor.resolve_left hn0
    refine ⟨p, hp, ?_, vs, el, hblk, ?_⟩
    · rw [if_neg hcl]; simp [addr_add]
    · have e1 : (cap - l.toNat) * i.size = cap * i.size - l.toNat * i.size := Nat.sub_mul ..
      have e2 : l.toNat * i.size ≤ cap * i.size := Nat.mul_le_mul_right _ hlc
      rw [e1, Nat.add_assoc, Nat.add_sub_cancel' e2]
      exact hfit

theorem run_byteOf {w : World} {b o : Nat} {vs : Array Value} {el : TypeId} (hheap : w.heap[b]? = some (.cells vs el (0, 0))) (hne : P.cellsOf el ≠ 0) (hb : (byteOfCell P P.depth el (o % P.cellsOf el)).isSome = true) :
    ∃ k, (byteOf ⟨b, o, none⟩).run P w = .ok k w := by
  obtain ⟨k, hk⟩ := Option.isSome_iff_exists.1 hb
  have hs : (shape b).run P w = .ok (some (el, vs.size)) w := by
    simp only [shape, Sem.run, World.shape?, hheap]
  have hv : (noView ⟨b, o, none⟩).run P w = .ok () w := by
    simp only [noView, viewAt, Sem.run_bind, hs, Result.andThen, Option.isSome_some, if_true, Sem.run_pure, Option.isSome_none, Bool.false_eq_true, if_false]
  refine ⟨o / P.cellsOf el * P.bytesOf el + k, ?_⟩
  have hp : (program).run P w = .ok P w := rfl
  simp only [byteOf, Sem.run_bind, hp, hv, hs, Result.andThen]
  rw [if_neg hne]
  simp only [hk]
  rfl

theorem freshRow_length (zs : List DV) : ∀ n, (freshRow zs n).length = n * zs.length
  | 0 => by simp [freshRow]
  | n + 1 => by rw [freshRow, List.length_append, freshRow_length zs n, Nat.succ_mul]; omega
theorem freshRow_get (zs : List DV) : ∀ (n o : Nat), (freshRow zs n)[o]? = if o < n * zs.length then zs[o % zs.length]? else none
  | 0, o => by simp [freshRow]
  | n + 1, o => by
    rw [freshRow, List.getElem?_append]
    split
    · rename_i h
      rw [if_pos (by rw [Nat.succ_mul]; omega), Nat.mod_eq_of_lt h]
    · rename_i h
      rw [freshRow_get zs n, Nat.succ_mul]
      by_cases h2 : o - zs.length < n * zs.length
      · have e : o % zs.length = (o - zs.length) % zs.length := Nat.mod_eq_sub_mod (by omega)
        rw [if_pos h2, if_pos (by omega), e]
      · rw [if_neg h2, if_neg (by omega)]
theorem foldMax {ρ : Nat → Option Nat} {S : Nat → Prop} {w : World} {k : IntKind} : ∀ {ds : List DV} {x : Int} {d : DV} {vs : List Value}, foldInt (fun x y => if y > x then y else x) k x ds = some d → AbsL ρ S w ds vs → (vs.foldlM Builtin.max2 (.int k x)).run P w = .ok (toV d) w ∧ ∀ ρ S, Abs ρ S w d (toV d)
  | [], x, d, vs, h, hab => by
    simp only [foldInt, Option.some.injEq] at h
    subst h
    rw [hab.nil_inv]
    exact ⟨by simp [List.foldlM, toV, Sem.run_pure], fun _ _ => by simp only [Abs, toV]⟩
  | e :: ds, x, d, vs, h, hab => by
    obtain ⟨v, rest, rfl, hv, hr⟩ := hab.cons_inv
    cases e <;> simp only [foldInt] at h <;> first | (cases h; done) | skip
    rename_i k' y
    split at h
    · rename_i hk
      simp only [Abs] at hv; subst hv; subst hk
      obtain ⟨h1, h2⟩ := foldMax h hr
      exact ⟨by simp only [List.foldlM_cons, Sem.run_bind, Builtin.max2, Sem.run_pure, Result.andThen, h1], h2⟩
    · cases h
theorem foldMin {ρ : Nat → Option Nat} {S : Nat → Prop} {w : World} {k : IntKind} : ∀ {ds : List DV} {x : Int} {d : DV} {vs : List Value}, foldInt (fun x y => if y < x then y else x) k x ds = some d → AbsL ρ S w ds vs → (vs.foldlM Builtin.min2 (.int k x)).run P w = .ok (toV d) w ∧ ∀ ρ S, Abs ρ S w d (toV d)
  | [], x, d, vs, h, hab => by
    simp only [foldInt, Option.some.injEq] at h
    subst h
    rw [hab.nil_inv]
    exact ⟨by simp [List.foldlM, toV, Sem.run_pure], fun _ _ => by simp only [Abs, toV]⟩
  | e :: ds, x, d, vs, h, hab => by
    obtain ⟨v, rest, rfl, hv, hr⟩ := hab.cons_inv
    cases e <;> simp only [foldInt] at h <;> first | (cases h; done) | skip
    rename_i k' y
    split at h
    · rename_i hk
      simp only [Abs] at hv; subst hv; subst hk
      obtain ⟨h1, h2⟩ := foldMin h hr
      exact ⟨by simp only [List.foldlM_cons, Sem.run_bind, Builtin.min2, Sem.run_pure, Result.andThen, h1], h2⟩
    · cases h
/-- A new block that will bear a name. -/
theorem MonoPost.ofPend {ι ρ : Nat → Option Nat} {S : Nat → Prop} {mu : Mu} {w w' : World} {o : Oper} {d : DV} {v : Value} {n : Nat} (hnm : Named ρ mu w) (hmu : MuOk ρ S w mu) (sane : ∀ b, S b → b < w.heap.size) (hn : ρ n = none)
    {cs : List DV} {cells : Array Value} {elem : TypeId} (hab : AbsL ρ S w cs cells.toList) (hh : w'.heap = w.heap.push (.cells cells elem (0, 0))) (h1 : w'.os = w.os) (h2 : w'.tape = w.tape) (h3 : w'.output = w.output)
    (hv : Abs (fun m => if m = n then some w.heap.size else ρ m) S w' d v) :
    MonoPost ι ρ S mu w o d { new := some cs, el := elem, use := [n], pend := some n } false v w' (fun m => if m = o.dst.getD 0 then some w.heap.size else ι m) (fun m => if m = n then some w.heap.size else ρ m) S := by
  have hold : ∀ b, b < w.heap.size → w'.heap[b]? = w.heap[b]? := fun b hb => by rw [hh, Array.getElem?_push, if_neg (by omega)]
  have hnew : w'.heap[w.heap.size]? = some (.cells cells elem (0, 0)) := by rw [hh]; simp
  have hne : ∀ m b, ρ m = some b → m ≠ n := fun m b hm he => by subst he; rw [hn] at hm; cases hm
  have hE : Ext ρ w (fun m => if m = n then some w.heap.size else ρ m) w' := fun m b hm => ⟨(if_neg (hne m b hm)).trans hm, fun vs e fz hb => ⟨vs, by rw [hold b (hnm.lt m b hm)]; exact hb, rfl⟩⟩
  have hkS : ∀ b, S b → w'.heap[b]? = w.heap[b]? := fun b hb => hold b (sane b hb)
  have hnone : ∀ o, mu n o = none := fun o => by
    cases hh : mu n o with
    | none => rfl
    | some e' => obtain ⟨p, hp, _⟩ := hmu n o e' hh; rw [hn] at hp; cases hp
  have hcells' : MuOk (fun m => if m = n then some w.heap.size else ρ m) S w' mu := fun b off e he => by
    obtain ⟨p, hp, hS, hf, v, hv, ha⟩ := hmu b off e he
    have hpd : Dom ρ mu p := ⟨b, off, e, hp, he⟩
    exact ⟨p, (hE b p hp).1, hS, by rw [frozen_same (hold p (hmu.lt hpd))]; exact hf, v, by rw [cell_same (hold p (hmu.lt hpd))]; exact hv, ha.mono hE hkS (fun _ h => h)⟩
  have back : ∀ b m off e, (if m = n then some w.heap.size else ρ m) = some b → mu m off = some e → ρ m = some b := fun b m off e hm he => by
    split at hm
    · rename_i hmn; subst hmn; rw [hnone] at he; cases he
    · exact hm
  refine ⟨h1, h2, h3, (by rw [hh]; simp), fun b hb _ _ => hold b hb, fun _ b hb _ => hold b hb, fun _ h => h, fun _ h => .inl h, .of_abs hv, hcells', ?_, fun h => by simp at h, fun cs' h => ?_, ⟨fun a b c p q ha hb hp hq => ?_, fun m b hm => ?_⟩, hE, fun m b hm => ?_, fun g hg => ?_⟩
  · rintro b ⟨m, off, e, hm, he⟩
    exact .inl ⟨m, off, e, back b m off e hm he, he⟩
  · cases h
    refine ⟨w.heap.size, cells, fun m => rfl, Nat.le_refl _, by rw [hh]; simp, hnew, AbsL.mono hE hkS (fun _ h => h) _ _ hab, fun h => by have := sane _ h; omega, ?_⟩
    rintro ⟨m, off, e, hm, he⟩
    have := hnm.lt m _ (back _ m off e hm he)
    omega
  · obtain ⟨x, hx⟩ := Option.isSome_iff_exists.1 hp
    obtain ⟨y, hy⟩ := Option.isSome_iff_exists.1 hq
    exact hnm.inj a b c p q (back c a p x ha hx) (back c b q y hb hy) hp hq
  · replace hm : (if m = n then some w.heap.size else ρ m) = some b := hm
    have hs : w.heap.size < w'.heap.size := by rw [hh]; simp
    split at hm
    · cases hm; exact hs
    · have := hnm.lt m b hm; omega
  · replace hm : (if m = n then some w.heap.size else ρ m) = some b := hm
    split at hm
    · rename_i hmn; subst hmn; exact .inr (by simp)
    · exact .inl hm
  · simp only [Option.some.injEq] at hg
    subst hg
    exact ⟨w.heap.size, if_pos rfl, if_pos rfl⟩

/-- A new block that bears a name. -/
theorem MonoPost.ofNamed {ι ρ : Nat → Option Nat} {S : Nat → Prop} {mu mu' : Mu} {w w' : World} {o : Oper} {d : DV} {v : Value} {n : Nat} (hnm : Named ρ mu w) (hmu : MuOk ρ S w mu) (sane : ∀ b, S b → b < w.heap.size) (hn : ρ n = none)
    {cells : Array Value} {elem : TypeId} (hh : w'.heap = w.heap.push (.cells cells elem (0, 0))) (h1 : w'.os = w.os) (h2 : w'.tape = w.tape) (h3 : w'.output = w.output)
    (hkeep : ∀ b o, b ≠ n → mu' b o = mu b o ∨ mu' b o = none) (hcells : ∀ o d, mu' n o = some d → ∃ v, cells[o]? = some v ∧ Abs ρ S w d v)
    (hv : Abs (fun m => if m = n then some w.heap.size else ρ m) S w' d v) :
    MonoPost ι ρ S mu w o d { mu := some mu', use := [n] } false v w' ι (fun m => if m = n then some w.heap.size else ρ m) S := by
  have hold : ∀ b, b < w.heap.size → w'.heap[b]? = w.heap[b]? := fun b hb => by rw [hh, Array.getElem?_push, if_neg (by omega)]
  have hnew : w'.heap[w.heap.size]? = some (.cells cells elem (0, 0)) := by rw [hh]; simp
  have hne : ∀ m b, ρ m = some b → m ≠ n := fun m b hm he => by subst he; rw [hn] at hm; cases hm
  have hE : Ext ρ w (fun m => if m = n then some w.heap.size else ρ m) w' := fun m b hm => ⟨(if_neg (hne m b hm)).trans hm, fun vs e fz hb => ⟨vs, by rw [hold b (hnm.lt m b hm)]; exact hb, rfl⟩⟩
  have hkS : ∀ b, S b → w'.heap[b]? = w.heap[b]? := fun b hb => hold b (sane b hb)
  have hdom : ∀ b, Dom (fun m => if m = n then some w.heap.size else ρ m) mu' b → Dom ρ mu b ∨ w.heap.size ≤ b := by
    rintro b ⟨m, off, e, hm, he⟩
    replace hm : (if m = n then some w.heap.size else ρ m) = some b := hm
    split at hm
    · cases hm; exact .inr (Nat.le_refl _)
    · rename_i hmn
      rcases hkeep m off hmn with h | h
      · exact .inl ⟨m, off, e, hm, by rw [← h]; exact he⟩
      · rw [h] at he; cases he
  refine ⟨h1, h2, h3, (by rw [hh]; simp), fun b hb _ _ => hold b hb, fun _ b hb _ => hold b hb, fun _ h => h, fun _ h => .inl h, .of_abs hv, fun b off e he => ?_, hdom, fun _ => rfl, fun _ h => by simp at h, ⟨fun a b c p q ha hb hp hq => ?_, fun m b hm => ?_⟩, hE, fun m b hm => ?_, fun _ h => by simp at h⟩
  · replace he : mu' b off = some e := he
    by_cases hb : b = n
    · subst hb
      obtain ⟨u, hu, ha⟩ := hcells off e he
      refine ⟨w.heap.size, by simp, fun h => by have := sane _ h; omega, by simp [World.frozen?, hnew], u, ?_, ha.mono hE hkS (fun _ h => h)⟩
      simp only [World.cell?, hnew, Option.isSome_none, Bool.false_eq_true, if_false]
      exact hu
    · rcases hkeep b off hb with h | h
      · rw [h] at he
        obtain ⟨p, hp, q1, q2, u, q3, q4⟩ := hmu b off e he
        have hlt := hnm.lt b p hp
        exact ⟨p, by simp only [if_neg hb]; exact hp, q1, by rw [frozen_same (hold p hlt)]; exact q2, u, by rw [cell_same (hold p hlt)]; exact q3, q4.mono hE hkS (fun _ h => h)⟩
      · rw [h] at he; cases he
  · replace hp : (mu' a p).isSome = true := hp
    replace hq : (mu' b q).isSome = true := hq
    replace ha : (if a = n then some w.heap.size else ρ a) = some c := ha
    replace hb : (if b = n then some w.heap.size else ρ b) = some c := hb
    have keepS : ∀ m o', m ≠ n → (mu' m o').isSome = true → (mu m o').isSome = true := fun m o' hm h => by
      rcases hkeep m o' hm with h' | h'
      · rw [← h']; exact h
      · rw [h'] at h; cases h
    split at ha <;> split at hb
    · subst_vars; rfl
    · cases ha; have := hnm.lt b _ hb; omega
    · cases hb; have := hnm.lt a _ ha; omega
    · rename_i h1 h2; exact hnm.inj a b c p q ha hb (keepS a p h1 hp) (keepS b q h2 hq)
  · replace hm : (if m = n then some w.heap.size else ρ m) = some b := hm
    rw [hh]
    simp only [Array.size_push]
    split at hm
    · cases hm; omega
    · have := hnm.lt m b hm; omega
  · replace hm : (if m = n then some w.heap.size else ρ m) = some b := hm
    split at hm
    · rename_i h; subst h; exact .inr (by simp)
    · exact .inl hm

theorem fillRow_spec {ρ : Nat → Option Nat} {S : Nat → Prop} {w : World} (sz : Nat) :
    ∀ {ps : List (Nat × DV)} {cs ds : List DV} {us : List (Nat × Value)} {vs : List Value}, fillRow sz cs ps = some ds → AbsL ρ S w cs vs → us.length = ps.length →
      (∀ (k : Nat) (i : Nat) (d : DV) (j : Nat) (v : Value), ps[k]? = some (i, d) → us[k]? = some (j, v) → i = j ∧ (d.noLoc = true → Abs ρ S w d v)) →
      ∃ out : Array Value, Instr.fill (fun i => some (i * sz, sz)) vs.toArray us = some out ∧ AbsL ρ S w ds out.toList
  | [], cs, ds, us, vs, h, hc, hl, _ => by
    simp only [fillRow, Option.some.injEq] at h; subst h
    cases us with
    | nil => exact ⟨vs.toArray, rfl, by simpa using hc⟩
    | cons => simp at hl
  | (i, d) :: ps, cs, ds, us, vs, h, hc, hl, hv => by
    cases us with
    | nil => simp at hl
    | cons ju us =>
    obtain ⟨j, v⟩ := ju
    obtain ⟨rfl, hdv⟩ := hv 0 i d j v rfl rfl
    simp only [fillRow] at h
    split at h
    · rename_i hcond
      simp only [Bool.and_eq_true, beq_iff_eq, decide_eq_true_eq] at hcond
      obtain ⟨⟨hfirm, hsz⟩, hle⟩ := hcond
      have hnl : d.noLoc = true := by cases d <;> first | rfl | simp [DV.firm] at hfirm
      have hany : d ≠ .any := by rintro rfl; simp [DV.firm] at hfirm
      have hcells := (hdv hnl).cells hany
      have hlen : v.cells.size = sz := by have := hcells.length; rw [Array.length_toList] at this; omega
      have hvl : vs.length = cs.length := hc.length
      have hset := AbsL.fill hcells (off := i * sz) hc
      have e : (v.cells.zipIdx.foldl (fun cs (c, j) => cs.setIfInBounds (i * sz + j) c) vs.toArray).toList = (v.cells.toList.zipIdx (i * sz)).foldl (fun cs (c, j) => cs.set j c) vs := by
        rw [← Array.foldl_toList, Array.toList_zipIdx]
        have gen : ∀ (l : List Value) (k : Nat) (xs : Array Value), ((l.zipIdx k).foldl (fun (cs : Array Value) (x : Value × Nat) => cs.setIfInBounds (i * sz + x.2) x.1) xs).toList = (l.zipIdx (i * sz + k)).foldl (fun cs (x : Value × Nat) => cs.set x.2 x.1) xs.toList := by
          intro l
          induction l with
          | nil => intro k xs; rfl
          | cons a l ih => intro k xs; simp only [List.zipIdx_cons, List.foldl_cons]; rw [ih]; simp [Nat.add_assoc]
        simpa using gen v.cells.toList 0 vs.toArray
      obtain ⟨out, ho, hab⟩ := fillRow_spec sz h hset (by simpa using hl) (fun k i' d' j' v' h1 h2 => hv (k + 1) i' d' j' v' (by simpa using h1) (by simpa using h2))
      refine ⟨out, ?_, hab⟩
      rw [Instr.fill]
      simp only []
      rw [if_neg (by simp [hlen]; omega)]
      rw [← ho]
      congr 1
      apply Array.ext'
      rw [e]
    · cases h
theorem oneC_cell {v : Value} (h : oneC v = true) : v.oneCell' = true := by
  cases v <;> first | rfl | (simp [oneC] at h)
/-- Cells known by a row, as values. -/
theorem MuOk.firstCells {ρ : Nat → Option Nat} {S : Nat → Prop} {w : World} {mu : Mu} (h : MuOk ρ S w mu) {b p : Nat} (hp : ρ b = some p) : ∀ (k off : Nat), (∀ j, j < k → (mu b (off + j)).isSome = true) → ∃ vs : List Value, vs.length = k ∧ ∀ j, j < k → ∃ v d, vs[j]? = some v ∧ mu b (off + j) = some d ∧ w.cell? ⟨p, off + j, none⟩ = some v ∧ Abs ρ S w d v
  | 0, off, _ => ⟨[], rfl, fun j hj => by omega⟩
  | k + 1, off, hk => by
    obtain ⟨d, hd⟩ := Option.isSome_iff_exists.1 (hk 0 (by omega))
    obtain ⟨p', hp', _, _, v, hv, ha⟩ := h b (off + 0) d hd
    rw [hp] at hp'; cases hp'
    obtain ⟨vs, hl, hg⟩ := MuOk.firstCells h hp k (off + 1) (fun j hj => by have := hk (j + 1) (by omega); rwa [show off + (j + 1) = off + 1 + j by omega] at this)
    refine ⟨v :: vs, by simp [hl], fun j hj => ?_⟩
    cases j with
    | zero => exact ⟨v, d, rfl, hd, hv, ha⟩
    | succ j =>
      obtain ⟨u, e, h1, h2, h3, h4⟩ := hg j (by omega)
      refine ⟨u, e, by simpa using h1, ?_, ?_, h4⟩
      · rwa [show off + (j + 1) = off + 1 + j by omega]
      · rwa [show off + (j + 1) = off + 1 + j by omega]
/-- 'append' to a slice without room. -/
theorem run_append_nils {P : Program} (w : World) (t ty e : TypeId) (i : TypeInfo) (z : Value) (ht : P.underlying t = some (.slice e)) (hi : P.info? e = some i) (hz : i.zero = some z)
    (x : Option Addr) (a : Addr) (n c : Nat) (news : List Value) (hl : news.length = n * i.size) (hnews : ∀ j v, news[j]? = some v → w.cell? (a.add j) = some v)
    (h0 : 0 < n) (h63 : (n : Int) ≤ 9223372036854775807) (h48 : n * i.bytes ≤ 281474976710656) :
    (Builtin.append_ #[t, t] ty #[.slice x 0 0, .slice (some a) n c]).run P w =
      .ok (.slice (some ⟨w.heap.size, 0, none⟩) n (grownCap w n 0 e)) (w.drew.alloc (.cells (news.toArray ++ Builtin.zeroCells z.cells (grownCap w n 0 e - n)) e)) := by
  cases x with
  | none => exact run_append_nil (P := P) w t ty e i z ht hi hz a n c news hl hnews h0 h63 h48
  | some b =>
    have hn : n ≠ 0 := by omega
    have h63' : ¬ (9223372036854775807 < (n : Int)) := by omega
    have h48' : ¬ (281474976710656 < Builtin.nextslicecap n 0 * i.bytes) := by rw [nextslicecap_zero h0]; omega
    have hf := run_firstCells_some (P := P) w.drew i.size n a n c news hl (by simpa using hnews)
    have hg := run_firstCells_some (P := P) w.drew i.size 0 b 0 0 [] (by simp) (fun j v hj => by simp at hj)
    simp [Builtin.append_, run_underlying ht, sizeOf, typeInfo, zeroValue, hi, hz, Builtin.lenOf, hn, h63', h48', Question.forced, hg, hf, newRow, grownCap]
/-- 'append' that makes a new block. -/
theorem append_new {ι ρ : Nat → Option Nat} {S : Nat → Prop} {mu : Mu} {w : World} {o : Oper} {n b l m cap : Nat} {cs : List DV} {e : TypeId} {i : TypeInfo} {z : Value} {olds news : List Value}
    (hnm : Named ρ mu w) (hmu : MuOk ρ S w mu) (sane : ∀ b, S b → b < w.heap.size) (hn : ρ n = none) (hz : z.cells.size = i.size)
    (ho : olds.length = l * i.size) (hold : ∀ j, j < l * i.size → ∃ v d, olds[j]? = some v ∧ mu b j = some d ∧ Abs ρ S w d v) (hnw : AbsL ρ S w cs news) (hlen : cs.length = m * i.size) (hcap : l + m ≤ cap) :
    MonoPost ι ρ S mu w o (.vec n 0 (l + m) i.size) { mu := some (appMu mu b (l * i.size) n cs), use := [n] } false (.slice (some ⟨w.heap.size, 0, none⟩) (l + m) cap)
      (w.drew.alloc (.cells (olds.toArray ++ news.toArray ++ Builtin.zeroCells z.cells (cap - (l + m))) e)) ι (fun m => if m = n then some w.heap.size else ρ m) S := by
  have hnl := hnw.length
  have hsz : (olds.toArray ++ news.toArray ++ Builtin.zeroCells z.cells (cap - (l + m))).size = cap * i.size := by
    simp only [Array.size_append, List.size_toArray, size_zeroCells, hz, ho, hnl, hlen, ← Nat.add_mul]
    congr 1; omega
  refine .ofNamed hnm hmu sane hn (cells := olds.toArray ++ news.toArray ++ Builtin.zeroCells z.cells (cap - (l + m))) (elem := e) rfl rfl rfl rfl (fun c q hc => ?_) (fun q d hd => ?_) ?_
  · unfold appMu
    rw [if_neg hc]
    split
    · exact .inr rfl
    · exact .inl rfl
  · unfold appMu at hd
    rw [if_pos rfl] at hd
    split at hd
    · rename_i hq
      obtain ⟨v, d', h1, h2, h3⟩ := hold q hq
      rw [hd] at h2; cases h2
      refine ⟨v, ?_, h3⟩
      rw [Array.getElem?_append_left (by simp [ho]; omega), Array.getElem?_append_left (by simp [ho]; omega)]
      simpa using h1
    · rename_i hq
      obtain ⟨v, h1, h2⟩ := hnw.get hd
      refine ⟨v, ?_, h2⟩
      have hlt := (List.getElem?_eq_some_iff.1 h1).1
      rw [Array.getElem?_append_left (by simp [ho]; omega), Array.getElem?_append_right (by simp [ho]; omega)]
      simpa [ho] using h1
  · simp only [Abs]
    refine ⟨_, cap, rfl, hcap, .inr ⟨w.heap.size, by simp, rfl, olds.toArray ++ news.toArray ++ Builtin.zeroCells z.cells (cap - (l + m)), e, ?_, by rw [hsz]; omega⟩⟩
    show (w.heap.push _)[w.heap.size]? = _
    simp
theorem foldl_set_get {α : Type} : ∀ (us : List α) (off : Nat) (cs : List α) (q : Nat), off + us.length ≤ cs.length → ((us.zipIdx off).foldl (fun cs (x : α × Nat) => cs.set x.2 x.1) cs)[q]? = if off ≤ q ∧ q < off + us.length then us[q - off]? else cs[q]?
  | [], off, cs, q, _ => by simp; intro h1 h2; omega
  | u :: us, off, cs, q, h => by
    simp only [List.length_cons] at h
    rw [List.zipIdx_cons, List.foldl_cons, foldl_set_get us (off + 1) _ q (by simp; omega)]
    simp only [List.length_cons]
    by_cases h1 : off + 1 ≤ q ∧ q < off + 1 + us.length
    · rw [if_pos h1, if_pos (by omega), show q - off = (q - (off + 1)) + 1 by omega, List.getElem?_cons_succ]
    · rw [if_neg h1, List.getElem?_set]
      by_cases h2 : off = q
      · subst h2
        rw [if_pos rfl, if_pos (by omega), if_pos (by omega)]
        simp
      · rw [if_neg h2, if_neg (by omega)]
theorem u8s_cons {d : DV} {ds : List DV} {ns : List Int} (h : u8s (d :: ds) = some ns) : ∃ k ms, d = .int .u8 k ∧ u8s ds = some ms ∧ ns = k :: ms := by
  unfold u8s at h
  split at h
  · rename_i he; cases he
  · rename_i k ds' he
    cases he
    simp only [Option.map_eq_some_iff] at h
    obtain ⟨ms, hm, rfl⟩ := h
    exact ⟨_, ms, rfl, hm, rfl⟩
  · cases h
theorem u8s_abs {ρ : Nat → Option Nat} {S : Nat → Prop} {w : World} : ∀ {ds : List DV} {ns : List Int} {vs : List Value}, u8s ds = some ns → AbsL ρ S w ds vs → vs = ns.map (Value.int .u8)
  | [], ns, vs, h, hab => by simp only [u8s, Option.some.injEq] at h; subst h; rw [hab.nil_inv]; rfl
  | d :: ds, ns, vs, h, hab => by
    obtain ⟨v, rest, rfl, h1, h2⟩ := hab.cons_inv
    obtain ⟨k, ms, rfl, hm, rfl⟩ := u8s_cons h
    simp only [Abs] at h1
    rw [h1, u8s_abs hm h2]; rfl
theorem pushAll : ∀ (ns : List Int) (s : ByteArray), ns.foldl (fun r n => r.push (UInt8.ofNat n.toNat)) s = ⟨⟨s.data.toList ++ ns.map fun n => UInt8.ofNat n.toNat⟩⟩
  | [], s => by apply ByteArray.ext; apply Array.ext'; simp
  | n :: ns, s => by
    rw [List.foldl_cons, pushAll ns]
    apply ByteArray.ext; apply Array.ext'
    simp [ByteArray.push]
theorem str_run {src dst e : TypeId} (hs : P.underlying src = some (.slice e)) (he : P.underlying e = some (.int .u8)) (hd : P.underlying dst = some .string) {w : World} {a : Option Addr} {cap n : Nat} {vs : List Value} {ns : List Int}
    (hc : n = 0 ∨ ∃ b off, a = some ⟨b, off, none⟩ ∧ CellsAt w b off vs) (hv : vs = ns.map (Value.int .u8)) (hn : ns.length = n) : (Go.convert src dst (.slice a n cap)).run P w = .ok (.string (strOf ns)) w := by
  rw [run_convert_bytes_string w src dst e a n cap hs he hd]
  have e0 : strOf ns = ns.foldl (fun r n => r.push (UInt8.ofNat n.toNat)) ByteArray.empty := by rw [pushAll]; apply ByteArray.ext; apply Array.ext'; simp [strOf]
  rw [e0]
  rcases Nat.eq_zero_or_pos n with h0 | hp
  · subst h0
    obtain rfl : ns = [] := List.length_eq_zero_iff.1 hn
    cases a with
    | none => rfl
    | some a => exact run_bytesToString w a 0 cap [] rfl
  · rcases hc with h0 | ⟨b, off, rfl, hc⟩
    · omega
    · refine run_bytesToString w _ n cap ns ?_
      have := run_loadCells_list (P := P) w (⟨b, off, none⟩ : Addr) vs (fun j v hj => by
        have := hc j v hj
        by_cases h0 : j = 0
        · subst h0; simpa [Addr.add] using this
        · simpa [Addr.add, h0] using this)
      rw [show vs.length = n by rw [hv]; simpa using hn] at this
      rw [this, hv]
/-- 'append' where there is room. -/
theorem append_in {ι ρ : Nat → Option Nat} {S : Nat → Prop} {mu : Mu} {w w' : World} {o : Oper} {n b p l m cap sz : Nat} {cs : List DV} {e : TypeId} {cur vs' : Array Value} {news : List Value}
    (hnm : Named ρ mu w) (hmu : MuOk ρ S w mu) (hn : ρ n = none) (hp : ρ b = some p) (hpos : 0 < l * sz) (hknown : ∀ j, j < l * sz → (mu b j).isSome = true)
    (hb : w.heap[p]? = some (.cells cur e (0, 0))) (hfit : cap * sz ≤ cur.size) (hroom : l + m ≤ cap) (hnw : AbsL ρ S w cs news) (hlen : cs.length = m * sz)
    (hh : w'.heap[p]? = some (.cells vs' e (0, 0))) (hv : vs'.toList = (news.zipIdx (l * sz)).foldl (fun cs (x : Value × Nat) => cs.set x.2 x.1) cur.toList)
    (hk : ∀ k, k ≠ p → w'.heap[k]? = w.heap[k]?) (hs : w'.heap.size = w.heap.size) (h1 : w'.os = w.os) (h2 : w'.tape = w.tape) (h3 : w'.output = w.output) :
    MonoPost ι ρ S mu w o (.vec n 0 (l + m) sz) { mu := some (appMu mu b (l * sz) n cs), use := [n] } false (.slice (some ⟨p, 0, none⟩) (l + m) cap) w' ι (fun m => if m = n then some p else ρ m) S := by
  have hnl := hnw.length
  have hbn : b ≠ n := by rintro rfl; rw [hn] at hp; cases hp
  have hpD : Dom ρ mu p := by
    obtain ⟨d, hd⟩ := Option.isSome_iff_exists.1 (hknown 0 hpos)
    exact ⟨b, 0, d, hp, hd⟩
  have hlm : l * sz + m * sz ≤ cap * sz := by rw [← Nat.add_mul]; exact Nat.mul_le_mul_right _ hroom
  have hvs : vs'.size = cur.size := by have := congrArg List.length hv; rw [foldl_set_length] at this; simpa using this
  have hget : ∀ q, vs'[q]? = if l * sz ≤ q ∧ q < l * sz + news.length then news[q - l * sz]? else cur[q]? := fun q => by
    have hcl : cur.toList.length = cur.size := Array.length_toList
    have := foldl_set_get news (l * sz) cur.toList q (by omega)
    have e1 : vs'.toList[q]? = vs'[q]? := Array.getElem?_toList
    have e2 : cur.toList[q]? = cur[q]? := Array.getElem?_toList
    rw [← hv, e1, e2] at this
    exact this
  have hne : ∀ k c, ρ k = some c → k ≠ n := fun k c hc he => by subst he; rw [hn] at hc; cases hc
  have hE : Ext ρ w (fun m => if m = n then some p else ρ m) w' := fun k c hc => ⟨(if_neg (hne k c hc)).trans hc, fun us ee fz hu => by
    by_cases hcp : c = p
    · subst hcp; rw [hb] at hu; cases hu; exact ⟨vs', hh, hvs⟩
    · exact ⟨us, by rw [hk c hcp]; exact hu, rfl⟩⟩
  have hpS : ¬ S p := hmu.notS hpD
  have hkS : ∀ k, S k → w'.heap[k]? = w.heap[k]? := fun k hS => hk k (by rintro rfl; exact hpS hS)
  have hoth : ∀ k c, ρ k = some c → k ≠ b → (∃ q, (mu k q).isSome = true) → c ≠ p := fun k c hc hkb ⟨q, hq⟩ => by
    rintro rfl
    exact hkb (hnm.inj k b c q 0 hc hp hq (hknown 0 hpos))
  -- what is known behind it
  have hmu' : ∀ k q d, appMu mu b (l * sz) n cs k q = some d → (k = n ∧ ((q < l * sz ∧ mu b q = some d) ∨ (l * sz ≤ q ∧ cs[q - l * sz]? = some d))) ∨ (k ≠ n ∧ k ≠ b ∧ mu k q = some d) := by
    intro k q d h
    unfold appMu at h
    split at h
    · rename_i hkn
      split at h
      · rename_i hq; exact .inl ⟨hkn, .inl ⟨hq, h⟩⟩
      · rename_i hq; exact .inl ⟨hkn, .inr ⟨by omega, h⟩⟩
    · rename_i hkn
      split at h
      · cases h
      · rename_i hkb; exact .inr ⟨hkn, hkb, h⟩
  have hdom : ∀ c, Dom (fun m => if m = n then some p else ρ m) (appMu mu b (l * sz) n cs) c → Dom ρ mu c ∨ w.heap.size ≤ c := by
    rintro c ⟨k, q, d, hc, hd⟩
    replace hc : (if k = n then some p else ρ k) = some c := hc
    rcases hmu' k q d hd with ⟨rfl, _⟩ | ⟨hkn, hkb, h⟩
    · rw [if_pos rfl] at hc; cases hc; exact .inl hpD
    · rw [if_neg hkn] at hc; exact .inl ⟨k, q, d, hc, h⟩
  refine ⟨h1, h2, h3, (by omega), fun c hc _ hD => hk c (by rintro rfl; exact hD hpD), fun _ c hc hD => hk c (by rintro rfl; exact hD hpD), fun _ h => h, fun _ h => .inl h, .of_abs ?_, fun k q d hd => ?_, hdom, fun _ => rfl, fun _ h => by simp at h, ⟨fun k k' c q q' hc hc' hq hq' => ?_, fun k c hc => ?_⟩, hE, fun k c hc => ?_, fun _ h => by simp at h⟩
  · simp only [Abs]
    exact ⟨_, cap, rfl, hroom, .inr ⟨p, by simp, rfl, vs', e, hh, by omega⟩⟩
  · replace hd : appMu mu b (l * sz) n cs k q = some d := hd
    rcases hmu' k q d hd with ⟨rfl, h⟩ | ⟨hkn, hkb, h⟩
    · refine ⟨p, by simp, hpS, by simp [World.frozen?, hh], ?_⟩
      rcases h with ⟨hq, h⟩ | ⟨hq, h⟩
      · obtain ⟨p', hp', _, _, v, hv', ha⟩ := hmu b q d h
        rw [hp] at hp'; cases hp'
        refine ⟨v, ?_, ha.mono hE hkS (fun _ h => h)⟩
        simp only [World.cell?, hh, hb, Option.isSome_none, Bool.false_eq_true, if_false] at hv' ⊢
        rw [hget, if_neg (by omega)]
        exact hv'
      · obtain ⟨v, hv', ha⟩ := hnw.get h
        refine ⟨v, ?_, ha.mono hE hkS (fun _ h => h)⟩
        have := (List.getElem?_eq_some_iff.1 hv').1
        simp only [World.cell?, hh, Option.isSome_none, Bool.false_eq_true, if_false]
        rw [hget, if_pos (by omega)]
        exact hv'
    · obtain ⟨c, hc, q1, q2, v, q3, q4⟩ := hmu k q d h
      have hcp := hoth k c hc hkb ⟨q, by rw [h]; rfl⟩
      exact ⟨c, (if_neg hkn).trans hc, q1, by rw [frozen_same (hk c hcp)]; exact q2, v, by rw [cell_same (hk c hcp)]; exact q3, q4.mono hE hkS (fun _ h => h)⟩
  · obtain ⟨d, hd⟩ := Option.isSome_iff_exists.1 hq
    obtain ⟨d', hd'⟩ := Option.isSome_iff_exists.1 hq'
    replace hc : (if k = n then some p else ρ k) = some c := hc
    replace hc' : (if k' = n then some p else ρ k') = some c := hc'
    rcases hmu' k q d hd with ⟨e1, _⟩ | ⟨hkn, hkb, h⟩ <;> rcases hmu' k' q' d' hd' with ⟨e2, _⟩ | ⟨hkn', hkb', h'⟩
    · rw [e1, e2]
    · rw [if_pos e1] at hc; rw [if_neg hkn'] at hc'; cases hc
      exact absurd rfl (hoth k' p hc' hkb' ⟨q', by rw [h']; rfl⟩)
    · rw [if_pos e2] at hc'; rw [if_neg hkn] at hc; cases hc'
      exact absurd rfl (hoth k p hc hkb ⟨q, by rw [h]; rfl⟩)
    · rw [if_neg hkn] at hc; rw [if_neg hkn'] at hc'
      exact hnm.inj k k' c q q' hc hc' (by rw [h]; rfl) (by rw [h']; rfl)
  · replace hc : (if k = n then some p else ρ k) = some c := hc
    rw [hs]
    split at hc
    · cases hc; exact hnm.lt b _ hp
    · exact hnm.lt k c hc
  · replace hc : (if k = n then some p else ρ k) = some c := hc
    split at hc
    · rename_i h; subst h; exact .inr (by simp)
    · exact .inl hc
theorem Oper.wp_value {o : Oper} {a : Act} {w w' : World} {v : Value} {next : Act → World → Prop} {Q : Exit → Act → World → Prop} (hr : (execOp a.eval o).run P w = .ok (.value v) w') (h : next (a.put o.dst v) w') : o.wp P a w next Q := by
  unfold Oper.wp; rw [hr]; exact h

variable (hT : ∀ t ti, T t = some ti → tiOf P t = some ti)
include hT

theorem monoOp_sound {o : Oper} {ev : Operand → Option DV} {lc : Nat → Option (List DV)} {le : Nat → Option TypeId} {say : Option Told} {mu : Mu} {d : DV} {e : Eff} {ob : List Ob} {dirty : Bool}
    (h : monoOp T ev lc le mu o say = some (d, e, ob, dirty)) (hob : ∀ x ∈ ob, x.ok P) {a : Act} {w : World} {ι ρ : Nat → Option Nat} {S : Nat → Prop} (hnm : Named ρ mu w)
    (sane : ∀ b, S b → b < w.heap.size) (hmu : MuOk ρ S w mu) (hev : ∀ x ∈ o.op.operands, ∀ d, ev x = some d → TAbs ι ρ S w d (a.eval x))
    (hιlt : ∀ n b, ι n = some b → b < w.heap.size) (hιD : ∀ n b, ι n = some b → ¬ Dom ρ mu b) (hfresh : ∀ n ∈ e.use, ρ n = none)
    (hlo : ∀ n b cs, ι n = some b → lc n = some cs → ∃ vs elem, w.heap[b]? = some (.cells vs elem (0, 0)) ∧ AbsL ρ S w cs vs.toList)
    (hel : ∀ n b t, ι n = some b → le n = some t → ∃ vs, w.heap[b]? = some (.cells vs t (0, 0)))
    {next : Act → World → Prop} {Q : Exit → Act → World → Prop} (hnext : ∀ v w' ι' ρ' S', MonoPost ι ρ S mu w o d e dirty v w' ι' ρ' S' → next (a.put o.dst v) w') :
    o.wp P a w next Q := by
  obtain ⟨dst, op, type, pos, after, guard⟩ := o
  have plain : ∀ (x : Operand) (d' : DV), x ∈ op.operands → ev x = some d' → TAbs ι ρ S w d' (a.eval x) := fun x d' hx he => hev x hx d' he
  -- a plain value
  have done : ∀ (x : Option DV), (x.map fun d => ((d, {}, [], false) : DV × Eff × List Ob × Bool)) = some (d, e, ob, dirty) → x = some d ∧ e = {} ∧ ob = [] ∧ dirty = false := by
    intro x hx
    cases x <;> simp at hx
    obtain ⟨rfl, rfl, rfl, rfl⟩ := hx
    exact ⟨rfl, rfl, rfl, rfl⟩
  have fin : ∀ v, (execOp a.eval ⟨dst, op, type, pos, after, guard⟩).run P w = .ok (.value v) w → e = {} → dirty = false → TAbs ι ρ S w d v → Oper.wp P ⟨dst, op, type, pos, after, guard⟩ a w next Q := by
    rintro v hr rfl rfl hv
    exact Oper.wp_value hr (hnext v w ι ρ S (.plain hnm hmu hv))
  -- a new block
  have newBlock : ∀ (cs : List DV) (vs : Array Value) (elem : TypeId), AbsL ρ S w cs vs.toList → d = .loc (dst.getD 0) 0 → e = { new := some cs, el := elem } → dirty = false →
      (execOp a.eval ⟨dst, op, type, pos, after, guard⟩).run P w = .ok (.value (.pointer (some ⟨w.heap.size, 0, none⟩))) { w with heap := w.heap.push (.cells vs elem) } → Oper.wp P ⟨dst, op, type, pos, after, guard⟩ a w next Q := by
    rintro cs vs elem hab rfl rfl rfl hr
    have hkeep : ∀ b, b < w.heap.size → (w.heap.push (.cells vs elem))[b]? = w.heap[b]? := fun b hb => by
      rw [Array.getElem?_push, if_neg (by omega)]
    have hkeep' : ∀ b, S b → (w.heap.push (.cells vs elem))[b]? = w.heap[b]? := fun b hb => hkeep b (sane b hb)
    refine Oper.wp_value hr (hnext _ { w with heap := w.heap.push (.cells vs elem) } (fun m => if m = dst.getD 0 then some w.heap.size else ι m) ρ S ?_)
    have hE : Ext ρ w ρ { w with heap := w.heap.push (.cells vs elem) } := .same fun n b hn => hkeep b (hnm.lt n b hn)
    refine ⟨rfl, rfl, rfl, by simp, fun b hb _ _ => hkeep b hb, fun _ b hb _ => hkeep b hb, fun _ h => h, fun _ h => .inl h, ⟨w.heap.size, by simp, rfl⟩, hmu.mono hE hkeep' (fun b hb => hkeep b (hmu.lt hb)) (fun _ h => h) (fun b hb => hmu.notS hb), fun _ h => .inl h, fun h => by simp at h, fun cs' h => ?_, hnm.mono (by simp), hE, fun _ _ h => .inl h, fun _ h => by simp at h⟩
    cases h
    exact ⟨w.heap.size, vs, fun m => rfl, Nat.le_refl _, by simp, by simp, AbsL.mono hE hkeep' (fun _ h => h) _ _ hab, fun h => by have := sane _ h; omega, fun h => by have := hmu.lt h; omega⟩
  -- a new block with a name
  have newNamed : ∀ (n : Nat) (cs : List DV) (cells : Array Value) (elem : TypeId), AbsL ρ S w cs cells.toList → d = .adr n 0 → e = { mu := some (updMu mu n 0 cs), use := [n] } → dirty = false →
      (execOp a.eval ⟨dst, op, type, pos, after, guard⟩).run P w = .ok (.value (.pointer (some ⟨w.heap.size, 0, none⟩))) { w with heap := w.heap.push (.cells cells elem) } → Oper.wp P ⟨dst, op, type, pos, after, guard⟩ a w next Q := by
    rintro n cs cells elem hab rfl rfl rfl hr
    refine Oper.wp_value hr (hnext _ { w with heap := w.heap.push (.cells cells elem) } ι (fun m => if m = n then some w.heap.size else ρ m) S ?_)
    have hn : ρ n = none := hfresh n (by simp)
    have hnone : ∀ o, mu n o = none := fun o => by
      cases hh : mu n o with
      | none => rfl
      | some e' => obtain ⟨p, hp, _⟩ := hmu n o e' hh; rw [hn] at hp; cases hp
    refine .ofNamed hnm hmu sane hn (cells := cells) (elem := elem) rfl rfl rfl rfl (fun b o hb => .inl ?_) (fun o d hd => ?_) ?_
    · rw [updMu_get, if_neg (by rintro ⟨rfl, _⟩; exact hb rfl)]
    · rw [updMu_get] at hd
      split at hd
      · obtain ⟨v, hv, ha⟩ := hab.get hd
        exact ⟨v, by simpa using hv, ha⟩
      · rw [hnone] at hd; cases hd
    · simp only [Abs]; exact ⟨w.heap.size, by simp, rfl⟩
  -- a new block that will have a name
  have newPend : ∀ (n : Nat) (cs : List DV) (cells : Array Value) (elem : TypeId), AbsL ρ S w cs cells.toList → d = .adr n 0 → e = { new := some cs, el := elem, use := [n], pend := some n } → dirty = false →
      (execOp a.eval ⟨dst, op, type, pos, after, guard⟩).run P w = .ok (.value (.pointer (some ⟨w.heap.size, 0, none⟩))) { w with heap := w.heap.push (.cells cells elem) } → Oper.wp P ⟨dst, op, type, pos, after, guard⟩ a w next Q := by
    rintro n cs cells elem hab rfl rfl rfl hr
    refine Oper.wp_value hr (hnext _ { w with heap := w.heap.push (.cells cells elem) } (fun m => if m = dst.getD 0 then some w.heap.size else ι m) (fun m => if m = n then some w.heap.size else ρ m) S ?_)
    exact .ofPend hnm hmu sane (hfresh n (by simp)) hab rfl rfl rfl rfl (by simp only [Abs]; exact ⟨w.heap.size, by simp, rfl⟩)
  cases op <;> simp only [monoOp] at h <;> first | (cases h; done) | skip
  case move x =>
    obtain ⟨hx, rfl, rfl, rfl⟩ := done _ h
    exact fin _ (by simp [execOp, Sem.run_pure]) rfl rfl (plain x d (by simp [Op.operands]) hx)
  case assign x =>
    obtain ⟨hx, rfl, rfl, rfl⟩ := done _ h
    exact fin _ (by simp [execOp, Sem.run_pure]) rfl rfl (plain x d (by simp [Op.operands]) hx)
  case pick c x y =>
    split at h
    · rename_i hc
      simp only [Option.map_eq_some_iff, Prod.mk.injEq] at h
      obtain ⟨d0, hx, rfl, rfl, rfl, rfl⟩ := h
      have hty := hob (.eq _ _) (List.mem_singleton.2 rfl)
      simp only [Ob.ok] at hty
      subst hty
      have hcv := (plain c _ (by simp [Op.operands]) hc).abs rfl
      simp only [Abs] at hcv
      refine fin _ (by simp [execOp, hcv, asBool, Sem.run_pure]; rfl) rfl rfl ?_
      split at hx
      · rename_i ht
        rw [if_pos ht]
        exact plain x _ (by simp [Op.operands]) hx
      · rename_i ht
        rw [if_neg ht]
        exact plain y _ (by simp [Op.operands]) hx
    · cases h
  case box elem x =>
    split at h
    · rename_i d' hx
      split at h
      · rename_i hf
        simp only [Option.some.injEq, Prod.mk.injEq] at h
        obtain ⟨rfl, rfl, rfl, rfl⟩ := h
        have hnl : d'.noLoc = true := by cases d' <;> first | rfl | simp [DV.firm] at hf
        have hany : d' ≠ .any := by rintro rfl; simp [DV.firm] at hf
        have hv := (plain x d' (by simp [Op.operands]) hx).abs hnl
        exact newBlock _ (a.eval x).cells elem (hv.cells hany) rfl rfl rfl (by simp [execOp, Instr.box, newVar, newRow, newObj, Sem.run_bind, Sem.run, Sem.run_pure, Result.andThen])
      · cases h
    · rename_i d' _ _ _ n hx
      split at h
      · rename_i hf
        simp only [Option.some.injEq, Prod.mk.injEq] at h
        obtain ⟨rfl, rfl, rfl, rfl⟩ := h
        have hnl : d'.noLoc = true := by cases d' <;> first | rfl | simp [DV.firm] at hf
        have hany : d' ≠ .any := by rintro rfl; simp [DV.firm] at hf
        have hv := (plain x d' (by simp [Op.operands]) hx).abs hnl
        exact newNamed _ _ (a.eval x).cells elem (hv.cells hany) rfl rfl rfl (by simp [execOp, Instr.box, newVar, newRow, newObj, Sem.run_bind, Sem.run, Sem.run_pure, Result.andThen])
      · cases h
    · rename_i d' _ _ _ n hx
      split at h
      · rename_i hf
        simp only [Option.some.injEq, Prod.mk.injEq] at h
        obtain ⟨rfl, rfl, rfl, rfl⟩ := h
        have hnl : d'.noLoc = true := by cases d' <;> first | rfl | simp [DV.firm] at hf
        have hany : d' ≠ .any := by rintro rfl; simp [DV.firm] at hf
        have hv := (plain x d' (by simp [Op.operands]) hx).abs hnl
        exact newPend _ _ (a.eval x).cells elem (hv.cells hany) rfl rfl rfl (by simp [execOp, Instr.box, newVar, newRow, newObj, Sem.run_bind, Sem.run, Sem.run_pure, Result.andThen])
      · cases h
    · cases h
  case alloc t =>
    split at h
    · rename_i _ _ z _ _ _ _ _ _ _ _ _ hz
      obtain ⟨i, u, hi, hu, _, _, hzero, _⟩ := tiOf_spec (hT _ _ hz)
      simp only at hzero
      cases hzi : i.zero with
      | none => rw [hzi] at hzero; simp at hzero
      | some zv =>
      rw [hzi] at hzero
      simp only [Option.map_some, Option.some.injEq] at hzero
      split at h
      · rename_i cs hcs
        simp only [Option.some.injEq, Prod.mk.injEq] at h
        obtain ⟨rfl, rfl, rfl, rfl⟩ := h
        exact newBlock cs zv.cells t (by rw [← hzero]; exact mapM_const hcs) rfl rfl rfl (by
          simp [execOp, Instr.alloc, zeroValue, newVar, newRow, newObj, run_info hi, hzi, Sem.run_bind, Sem.run, Sem.run_pure, Result.andThen])
      · rename_i cs _ _ _ n hcs
        simp only [Option.some.injEq, Prod.mk.injEq] at h
        obtain ⟨rfl, rfl, rfl, rfl⟩ := h
        exact newNamed _ cs zv.cells t (by rw [← hzero]; exact mapM_const hcs) rfl rfl rfl (by
          simp [execOp, Instr.alloc, zeroValue, newVar, newRow, newObj, run_info hi, hzi, Sem.run_bind, Sem.run, Sem.run_pure, Result.andThen])
      · rename_i cs _ _ _ n hcs
        simp only [Option.some.injEq, Prod.mk.injEq] at h
        obtain ⟨rfl, rfl, rfl, rfl⟩ := h
        exact newPend _ cs zv.cells t (by rw [← hzero]; exact mapM_const hcs) rfl rfl rfl (by
          simp [execOp, Instr.alloc, zeroValue, newVar, newRow, newObj, run_info hi, hzi, Sem.run_bind, Sem.run, Sem.run_pure, Result.andThen])
      · cases h
    · cases h
  case buildSlice t len parts =>
    split at h
    · rename_i _ _ _ _ el _ _ _ _ _ _ _ ps ht hps
      split at h
      · rename_i sz _ zl _ _ _ _ _ _ _ _ _ hte
        split at h
        · rename_i hle
          have hle : len * sz ≤ 16777216 := of_decide_eq_true hle
          split at h
          case h_2 => cases h
          rename_i cs hfill
          obtain ⟨_, ut, _, hut, _, _, _, _, hel', _⟩ := tiOf_spec (hT _ _ ht)
          simp only at hel'
          cases ut <;> simp only [] at hel' <;> first | (cases hel'; done) | skip
          simp only [Option.some.injEq] at hel'
          subst hel'
          obtain ⟨it, _, hit, _, hst, _, hzero, _⟩ := tiOf_spec (hT _ _ hte)
          simp only at hst hzero
          subst hst
          cases hzi : it.zero with
          | none => rw [hzi] at hzero; simp at hzero
          | some zv =>
          obtain ⟨hl, hg⟩ := evPairs_get hps
          let zero : Array Value := if len * it.size = 0 then #[] else zv.cells
          let cells0 : Array Value := (Array.range (len * it.size)).map (zero[· % zero.size]!)
          obtain ⟨out, hout, hab⟩ := fillRow_spec (ρ := ρ) (S := S) (w := w) it.size (us := parts.toList.map fun (i, x) => (i, a.eval x)) hfill (vs := cells0.toList) (.of_get (by simp [cells0]) fun i d v hd _ => by
              rw [List.getElem?_replicate] at hd
              split at hd
              · cases hd; simp only [Abs]
              · cases hd) (by simp [hl]) (fun k i d' j v hk hu' => by
            obtain ⟨x, hxk, hex⟩ := hg k i d' hk
            rw [List.getElem?_map, hxk] at hu'
            simp only [Option.map_some, Option.some.injEq, Prod.mk.injEq] at hu'
            obtain ⟨rfl, rfl⟩ := hu'
            refine ⟨rfl, fun hn => (plain x d' ?_ hex).abs hn⟩
            simp only [Op.operands, List.mem_toArray, List.mem_map]
            exact ⟨(i, x), List.mem_of_getElem? hxk, rfl⟩)
          rw [Array.toArray_toList] at hout
          have hrun : (execOp a.eval ⟨dst, .buildSlice t len parts, type, pos, after, guard⟩).run P w = .ok (.value (.slice (some ⟨w.heap.size, 0, none⟩) len len)) { w with heap := w.heap.push (.cells out el) } := by
            have e3 : (Array.map (fun (x : Nat × Operand) => match x with | (i, x) => (i, a.eval x)) parts).toList = parts.toList.map fun (i, x) => (i, a.eval x) := by simp
            simp only [execOp, Instr.buildSlice, Sem.run_bind, run_under hut, run_size hit, Result.andThen]
            rw [if_neg (by omega)]
            have hout2 : Instr.fill (fun i => some (i * it.size, it.size)) cells0 (parts.toList.map fun (i, x) => (i, a.eval x)) = some out := hout
            simp only [cells0, zero] at hout2
            by_cases h0 : len * it.size = 0
            · rw [if_pos h0] at hout2
              rw [if_pos h0]
              simp only [Sem.run_bind, Sem.run_pure, Result.andThen]
              rw [e3, hout2]
              rfl
            · rw [if_neg h0] at hout2
              rw [if_neg h0]
              simp only [zeroValue, run_info hit, hzi, Sem.run_bind, Sem.run_pure, Result.andThen]
              rw [e3, hout2]
              rfl
          have hkeep : ∀ b, b < w.heap.size → (w.heap.push (.cells out el))[b]? = w.heap[b]? := fun b hb => by
            rw [Array.getElem?_push, if_neg (by omega)]
          have hE : Ext ρ w ρ { w with heap := w.heap.push (.cells out el) } := .same fun n b hn => hkeep b (hnm.lt n b hn)
          split at h
          · rename_i n
            simp only [Option.some.injEq, Prod.mk.injEq] at h
            obtain ⟨rfl, rfl, rfl, rfl⟩ := h
            have hcl : decide (cs.length = len * it.size) = true := hob (.eq _ _) (by simp)
            have hcl := of_decide_eq_true hcl
            have hol := hab.length
            rw [Array.length_toList] at hol
            have hn : ρ n = none := hfresh n (by simp)
            have hnone : ∀ o, mu n o = none := fun o => by
              cases hh : mu n o with
              | none => rfl
              | some e' => obtain ⟨p, hp, _⟩ := hmu n o e' hh; rw [hn] at hp; cases hp
            refine Oper.wp_value hrun (hnext _ { w with heap := w.heap.push (.cells out el) } ι (fun m => if m = n then some w.heap.size else ρ m) S ?_)
            refine .ofNamed hnm hmu sane hn (cells := out) (elem := el) rfl rfl rfl rfl (fun b o hb => .inl (by rw [updMu_get, if_neg (by rintro ⟨rfl, _⟩; exact hb rfl)])) (fun o d hd => ?_) ?_
            · rw [updMu_get] at hd
              split at hd
              · obtain ⟨v, hv, ha⟩ := hab.get hd
                exact ⟨v, by simpa using hv, ha⟩
              · rw [hnone] at hd; cases hd
            · simp only [Abs]
              exact ⟨_, len, rfl, Nat.le_refl _, .inr ⟨w.heap.size, by simp, rfl, out, el, by show (w.heap.push _)[w.heap.size]? = _; simp, by omega⟩⟩
          · rename_i n
            simp only [Option.some.injEq, Prod.mk.injEq] at h
            obtain ⟨rfl, rfl, rfl, rfl⟩ := h
            have hcl : decide (cs.length = len * it.size) = true := hob (.eq _ _) (by simp)
            have hcl := of_decide_eq_true hcl
            have hol := hab.length
            rw [Array.length_toList] at hol
            refine Oper.wp_value hrun (hnext _ { w with heap := w.heap.push (.cells out el) } (fun m => if m = dst.getD 0 then some w.heap.size else ι m) (fun m => if m = n then some w.heap.size else ρ m) S ?_)
            refine .ofPend hnm hmu sane (hfresh n (by simp)) hab rfl rfl rfl rfl ?_
            simp only [Abs]
            exact ⟨_, len, rfl, Nat.le_refl _, .inr ⟨w.heap.size, by simp, rfl, out, el, by show (w.heap.push _)[w.heap.size]? = _; simp, by omega⟩⟩
          simp only [Option.some.injEq, Prod.mk.injEq] at h
          obtain ⟨rfl, rfl, rfl, rfl⟩ := h
          refine Oper.wp_value hrun (hnext _ { w with heap := w.heap.push (.cells out el) } ι ρ (fun b => S b ∨ b = w.heap.size) ?_)
          refine ⟨rfl, rfl, rfl, by simp, fun b hb _ _ => hkeep b hb, fun _ b hb _ => hkeep b hb, fun _ h => .inl h, fun b h => ?_, ?_, hmu.mono hE (fun b hb => hkeep b (sane b hb)) (fun b hb => hkeep b (hmu.lt hb)) (fun _ h => .inl h) (fun b hb hS => ?_), fun _ h => .inl h, fun _ => rfl, fun _ h => by simp at h, hnm.mono (by simp), hE, fun _ _ h => .inl h, fun _ h => by simp at h⟩
          · rcases h with h | h
            · exact .inl h
            · exact .inr (.inl ⟨by omega, by subst h; simp⟩)
          · by_cases h0 : len = 0
            · rw [if_pos h0]
              simp only [TAbs, Abs, h0]
              exact ⟨_, rfl⟩
            · rw [if_neg h0]
              simp only [TAbs, Abs]
              refine ⟨_, _, out.toList, rfl, Nat.le_refl _, AbsL.mono hE (fun b hb => hkeep b (sane b hb)) (fun _ h => .inl h) _ _ hab, .inr ⟨w.heap.size, 0, rfl, .inr rfl, CellsAt.of_block (elem := el) (show (w.heap.push (Obj.cells out el))[w.heap.size]? = some (.cells out el (0, 0)) by simp)⟩⟩
          · rcases hS with h | h
            · exact hmu.notS hb h
            · have := hmu.lt hb; omega
        · cases h
      · cases h
    · cases h
  case makeSlice t x y =>
    split at h
    · rename_i _ _ _ _ el _ _ _ _ _ _ _ kl l kc c _ _ _ n pd ht hx hy
      split at h
      · rename_i sz _ zl _ _ _ _ _ _ _ _ hte
        split at h
        · rename_i zs hzs
          split at h
          case isFalse => cases h
          rename_i hzl
          have hd1 : decide (0 ≤ l ∧ l = c ∧ l ≤ 1000000000) = true := hob (.eq _ _) (by split at h <;> (simp only [Option.some.injEq, Prod.mk.injEq] at h; obtain ⟨_, _, rfl, _⟩ := h; simp))
          obtain ⟨h0, hlc, hle⟩ := of_decide_eq_true hd1
          subst hlc
          obtain ⟨_, ut, _, hut, _, _, _, _, hel', _⟩ := tiOf_spec (hT _ _ ht)
          simp only at hel'
          cases ut <;> simp only [] at hel' <;> first | (cases hel'; done) | skip
          simp only [Option.some.injEq] at hel'
          subst hel'
          obtain ⟨it, _, hit, _, hst, _, hzero, _, _, _, _, _, _, hroomb, _, _⟩ := tiOf_spec (hT _ _ hte)
          simp only at hst hzero hroomb
          subst hst
          have hbytes : it.bytes ≤ 1024 := of_decide_eq_true hroomb.symm
          cases hzi : it.zero with
          | none => rw [hzi] at hzero; simp at hzero
          | some zv =>
          rw [hzi] at hzero
          simp only [Option.map_some, Option.some.injEq] at hzero
          have hxv := (plain x _ (by simp [Op.operands]) hx).abs rfl
          have hyv := (plain y _ (by simp [Op.operands]) hy).abs rfl
          simp only [Abs] at hxv hyv
          have hb2 : (it.bytes : Int) * l ≤ 281474976710656 := by
            have := Int.mul_le_mul (show (it.bytes : Int) ≤ 1024 by omega) hle h0 (by omega)
            omega
          have hr := run_make (P := P) w t el it zv hut hit hzi kl kc l l h0 (Int.le_refl _) hb2 (by omega)
          have hcell : ∀ o, o < l.toNat * it.size → ∀ d, zs[o % it.size]? = some d → ∃ v, (madeCells zv.cells (l.toNat * it.size))[o]? = some v ∧ Abs ρ S w d v := by
            intro o ho d hd
            have hzab := mapM_const (ρ := ρ) (w := w) (S := S) hzs
            obtain ⟨v, hv, ha⟩ := hzab.get hd
            refine ⟨v, ?_, ha⟩
            have hzc : zv.cells.toList = zl := by rw [hzero]
            have hlt := (List.getElem?_eq_some_iff.1 hv).1
            have hzsz : zv.cells.size = it.size := by rw [← hzl, ← hzc]; simp
            have hget : (madeCells zv.cells (l.toNat * it.size))[o]? = some (zv.cells[o % zv.cells.size]!) := by
              unfold madeCells
              simp [ho]
            rw [hget, hzsz]
            have h2 : zv.cells[o % it.size]? = some v := by rw [← Array.getElem?_toList, hzc]; exact hv
            rw [getElem!_def, h2]
          have hexec : (execOp a.eval ⟨dst, .makeSlice t x y, type, pos, after, guard⟩).run P w = .ok (.value (.slice (some ⟨w.heap.size, 0, none⟩) l.toNat l.toNat)) (w.alloc (.cells (madeCells zv.cells (l.toNat * it.size)) el)) := by
            simp only [execOp, hxv, hyv, hr, Sem.run_bind, Result.andThen, Sem.run_pure]
          split at h
          · simp only [Option.some.injEq, Prod.mk.injEq] at h
            obtain ⟨rfl, rfl, rfl, rfl⟩ := h
            refine Oper.wp_value (v := .slice (some ⟨w.heap.size, 0, none⟩) l.toNat l.toNat) (w' := w.alloc (.cells (madeCells zv.cells (l.toNat * it.size)) el)) hexec (hnext _ _ (fun m => if m = dst.getD 0 then some w.heap.size else ι m) (fun m => if m = n then some w.heap.size else ρ m) S ?_)
            refine .ofPend hnm hmu sane (hfresh n (by simp)) (cells := madeCells zv.cells (l.toNat * it.size)) (.of_get ?_ fun i d v hd hv => ?_) rfl rfl rfl rfl ?_
            · have hzl2 : zs.length = it.size := by rw [← hzl]; exact (mapM_const (ρ := ρ) (w := w) (S := S) hzs).length.symm
              rw [freshRow_length, Array.length_toList, size_madeCells, hzl2]
            · have hzl2 : zs.length = it.size := by rw [← hzl]; exact (mapM_const (ρ := ρ) (w := w) (S := S) hzs).length.symm
              have hlt := (List.getElem?_eq_some_iff.1 hd).1
              rw [freshRow_length, hzl2] at hlt
              rw [freshRow_get, hzl2, if_pos hlt] at hd
              obtain ⟨u, hu, ha⟩ := hcell i hlt d hd
              rw [Array.getElem?_toList, hu] at hv
              cases hv; exact ha
            · simp only [Abs]
              refine ⟨_, l.toNat, rfl, Nat.le_refl _, .inr ⟨w.heap.size, by simp, rfl, madeCells zv.cells (l.toNat * it.size), el, ?_, by rw [size_madeCells]; omega⟩⟩
              show (w.heap.push _)[w.heap.size]? = _
              simp
          simp only [Option.some.injEq, Prod.mk.injEq] at h
          obtain ⟨rfl, rfl, rfl, rfl⟩ := h
          have hn : ρ n = none := hfresh n (by simp)
          refine Oper.wp_value (v := .slice (some ⟨w.heap.size, 0, none⟩) l.toNat l.toNat) (w' := w.alloc (.cells (madeCells zv.cells (l.toNat * it.size)) el)) (by simp only [execOp, hxv, hyv, hr, Sem.run_bind, Result.andThen, Sem.run_pure]) (hnext _ _ ι (fun m => if m = n then some w.heap.size else ρ m) S ?_)
          refine .ofNamed hnm hmu sane hn (cells := madeCells zv.cells (l.toNat * it.size)) (elem := el) rfl rfl rfl rfl (fun b o hb => .inl (if_neg hb)) (fun o d hd => ?_) ?_
          · rw [if_pos rfl] at hd
            split at hd
            · rename_i ho
              have hzab := mapM_const (ρ := ρ) (w := w) (S := S) hzs
              obtain ⟨v, hv, ha⟩ := hzab.get hd
              refine ⟨v, ?_, ha⟩
              have hlz := hzab.length
              have hzc : zv.cells.toList = zl := by rw [hzero]
              have hlt := (List.getElem?_eq_some_iff.1 hv).1
              have hpos : o < l.toNat * it.size := ho
              have hzsz : zv.cells.size = it.size := by rw [← hzl, ← hzc]; simp
              have hget : (madeCells zv.cells (l.toNat * it.size))[o]? = some (zv.cells[o % zv.cells.size]!) := by
                unfold madeCells
                simp [hpos]
              rw [hget, hzsz]
              have h2 : zv.cells[o % it.size]? = some v := by rw [← Array.getElem?_toList, hzc]; exact hv
              rw [getElem!_def, h2]
            · cases hd
          · simp only [Abs]
            refine ⟨_, l.toNat, rfl, Nat.le_refl _, .inr ⟨w.heap.size, by simp, rfl, madeCells zv.cells (l.toNat * it.size), el, ?_, by rw [size_madeCells]; omega⟩⟩
            show (w.heap.push _)[w.heap.size]? = _
            simp
        · cases h
      · cases h
    · cases h
  case build t parts =>
    split at h
    · rename_i _ _ z fs _ _ _ _ _ _ _ _ hz
      split at h
      · rename_i cs ps hcs hps
        split at h
        · rename_i hall
          obtain ⟨hx, rfl, rfl, rfl⟩ := done _ h
          simp only [Option.map_eq_some_iff] at hx
          obtain ⟨ds, hfill, rfl⟩ := hx
          obtain ⟨i, u, hi, hu, h1, h2, hzero, hfields, h3⟩ := tiOf_spec (hT _ _ hz)
          clear h1 h2 h3
          simp only at hzero hfields
          cases hzi : i.zero with
          | none => rw [hzi] at hzero; simp at hzero
          | some zv =>
          rw [hzi] at hzero
          simp only [Option.map_some, Option.some.injEq] at hzero
          cases u <;> simp only [] at hfields <;> first | (cases hfields; done) | skip
          rename_i fields
          simp only [Option.some.injEq] at hfields
          obtain ⟨places, hpl, hplg⟩ := mapM_places (P := P) w fields.toList (fun f hf => by
            rw [List.all_eq_true] at hall
            have := hall (f.offset, f.type) (by rw [hfields]; exact List.mem_map.2 ⟨f, hf, rfl⟩)
            cases hTf : T f.type with
            | none => rw [hTf] at this; simp at this
            | some ti => obtain ⟨i', _, hi', _⟩ := tiOf_spec (hT _ _ hTf); exact ⟨i', hi'⟩)
          obtain ⟨hl, hg⟩ := evPairs_get hps
          obtain ⟨out, hout, hab⟩ := fill_spec (P := P) hT places.toArray (fun i off t ti hfi hti => by
              rw [hfields, List.getElem?_map] at hfi
              cases hff : fields.toList[i]? with
              | none => rw [hff] at hfi; cases hfi
              | some f =>
                rw [hff] at hfi
                simp only [Option.map_some, Option.some.injEq, Prod.mk.injEq] at hfi
                obtain ⟨rfl, rfl⟩ := hfi
                obtain ⟨info, hinfo, hpi⟩ := hplg i f hff
                obtain ⟨i', _, hi', _, hs', _⟩ := tiOf_spec hti
                rw [hinfo] at hi'; cases hi'
                rw [hs']; simpa using hpi)
            (S := S) (w := w) (us := parts.toList.map fun (i, x) => (i, a.eval x)) hfill (mapM_const hcs) (by simp [hl])
            (fun k i d' j v hk hu' => by
              obtain ⟨x, hxk, hex⟩ := hg k i d' hk
              rw [List.getElem?_map, hxk] at hu'
              simp only [Option.map_some, Option.some.injEq, Prod.mk.injEq] at hu'
              obtain ⟨rfl, rfl⟩ := hu'
              refine ⟨rfl, fun hn => (plain x d' ?_ hex).abs hn⟩
              simp only [Op.operands, List.mem_toArray, List.mem_map]
              exact ⟨(i, x), List.mem_of_getElem? hxk, rfl⟩)
          refine fin (.agg out) ?_ rfl rfl (by simp only [TAbs, Abs]; exact ⟨out.toList, rfl, hab⟩)
          have e1 : (fields.mapM fun f => do pure (f.offset, ← sizeOf f.type) : Sem (Array (Nat × Nat))).run P w = .ok places.toArray w := by
            rw [Array.mapM_eq_mapM_toList, Sem.run_map, hpl]; rfl
          have e2 : zv.cells = z.toArray := by rw [hzero]
          simp only [execOp, Instr.build, zeroValue, run_info hi, hzi, Sem.run_bind, Sem.run_pure, Result.andThen, run_under hu, e1]
          rw [e2]
          have e3 : (Array.map (fun (x : Nat × Operand) => match x with | (i, x) => (i, a.eval x)) parts).toList = parts.toList.map fun (i, x) => (i, a.eval x) := by simp
          rw [e3, hout]
          rfl
        · cases h
      · cases h
    · rename_i z _ _ _ _ _ _ _ m el _ hfn hz
      split at h
      · rename_i te cs ps hte hcs hps
        obtain ⟨hx, rfl, rfl, rfl⟩ := done _ h
        simp only [Option.map_eq_some_iff] at hx
        obtain ⟨ds, hfill, rfl⟩ := hx
        obtain ⟨i, u, hi, hu, h1, h2, hzero, h3⟩ := tiOf_spec (hT _ _ hz)
        have hut := tiOf_arr (hT _ _ hz) rfl hu
        clear h1 h2 h3
        simp only at hzero
        cases hzi : i.zero with
        | none => rw [hzi] at hzero; simp at hzero
        | some zv =>
        rw [hzi] at hzero
        simp only [Option.map_some, Option.some.injEq] at hzero
        subst hut
        obtain ⟨ie, _, hie, _, hse, _⟩ := tiOf_spec (hT _ _ hte)
        obtain ⟨hl, hg⟩ := evPairs_get hps
        obtain ⟨out, hout, hab⟩ := fillRow_spec (ρ := ρ) (S := S) (w := w) te.size (us := parts.toList.map fun (i, x) => (i, a.eval x)) hfill (mapM_const hcs) (by simp [hl])
          (fun k i d' j v hk hu' => by
            obtain ⟨x, hxk, hex⟩ := hg k i d' hk
            rw [List.getElem?_map, hxk] at hu'
            simp only [Option.map_some, Option.some.injEq, Prod.mk.injEq] at hu'
            obtain ⟨rfl, rfl⟩ := hu'
            refine ⟨rfl, fun hn => (plain x d' ?_ hex).abs hn⟩
            simp only [Op.operands, List.mem_toArray, List.mem_map]
            exact ⟨(i, x), List.mem_of_getElem? hxk, rfl⟩)
        refine fin (.agg out) ?_ rfl rfl (by simp only [TAbs, Abs]; exact ⟨out.toList, rfl, hab⟩)
        have e2 : zv.cells = z.toArray := by rw [hzero]
        simp only [execOp, Instr.build, zeroValue, run_info hi, hzi, Sem.run_bind, Sem.run_pure, Result.andThen, run_under hu, run_size hie]
        rw [e2]
        have e3 : (Array.map (fun (x : Nat × Operand) => match x with | (i, x) => (i, a.eval x)) parts).toList = parts.toList.map fun (i, x) => (i, a.eval x) := by simp
        rw [e3, ← hse, hout]
        rfl
      · cases h
    · cases h
  case load t x =>
    split at h
    · rename_i ti hti hx
      split at h
      · rename_i hc
        simp only [Bool.and_eq_true, beq_iff_eq] at hc
        obtain ⟨hp, rfl, rfl, rfl⟩ := done _ h
        cases hp
        have hv := (plain x _ (by simp [Op.operands]) hx).abs rfl
        simp only [Abs] at hv
        obtain ⟨a0, hv⟩ := hv
        obtain ⟨i, u, hi, hu, hsz, hag, _⟩ := tiOf_spec (hT _ _ hti)
        exact fin (.agg #[]) (by
          simp only [execOp, hv, Instr.loadAt, Instr.sureAddr, Sem.run_bind, Sem.run_pure, Result.andThen, loadVar, run_agg hu, ← hag, hc.1, if_true, run_size hi, ← hsz, hc.2, loadCells, loadCellsFrom]) rfl rfl (by simp only [TAbs, Abs]; exact ⟨[], rfl, .nil⟩)
      · cases h
    · rename_i ti n off hti hx
      split at h
      · rename_i cs hcs
        obtain ⟨hp, rfl, rfl, rfl⟩ := done _ h
        obtain ⟨b, hb, hv⟩ := plain x _ (by simp [Op.operands]) hx
        obtain ⟨vs, elem, hheap, hab⟩ := hlo n b cs hb hcs
        obtain ⟨v, hr, hd⟩ := run_loadAt (hT _ _ hti) (off := off) (by have := (CellsAt.of_block hheap).drop off; rwa [Nat.zero_add] at this) (hab.drop off) (partOf_drop _ _ _ _ hp)
        exact fin v (by simp [execOp, hv, hr, Sem.run_bind, Result.andThen, Sem.run_pure]) rfl rfl (.of_abs hd)
      · cases h
    · rename_i ti cs hti hx
      obtain ⟨hp, rfl, rfl⟩ : partOf ti cs 0 = some d ∧ e = {} ∧ dirty = false := by
        split at h
        · rename_i x0
          simp only [Option.some.injEq, Prod.mk.injEq] at h
          obtain ⟨rfl, rfl, rfl, rfl⟩ := h
          exact ⟨hob (.part _ _) (by simp), rfl, rfl⟩
        · obtain ⟨hp, rfl, rfl, rfl⟩ := done _ h
          exact ⟨hp, rfl, rfl⟩
      have hv := (plain x _ (by simp [Op.operands]) hx).abs rfl
      simp only [Abs] at hv
      obtain ⟨b, off, vs, hv, _, hc, hab⟩ := hv
      obtain ⟨v, hr, hd⟩ := run_loadAt (hT _ _ hti) hc hab hp
      exact fin v (by simp [execOp, hv, hr, Sem.run_bind, Result.andThen, Sem.run_pure]) rfl rfl (.of_abs hd)
    · rename_i ti b off hti hx
      split at h
      · rename_i x0
        by_cases hcond : (x0.d.firm && (ti.agg == x0.d.isAgg) && x0.d.cells.length == ti.size) = true
        · rw [if_pos hcond] at h
          simp only [Bool.and_eq_true, beq_iff_eq] at hcond
          obtain ⟨⟨hfirm, hag⟩, hsz⟩ := hcond
          simp only [Option.some.injEq, Prod.mk.injEq] at h
          obtain ⟨rfl, rfl, rfl, rfl⟩ := h
          have hv := (plain x _ (by simp [Op.operands]) hx).abs rfl
          simp only [Abs] at hv
          obtain ⟨p, hpn, hv⟩ := hv
          obtain ⟨vs, hc, hab⟩ := hmu.row hpn (off := off) (cellObs_get hob)
          have hp : partOf ti x0.d.cells 0 = some x0.d := by
            unfold partOf
            rw [hag, ← hsz]
            cases x0.d <;> simp [DV.cells, DV.isAgg]
          obtain ⟨v, hr, hd⟩ := run_loadAt (hT _ _ hti) hc hab hp
          exact fin v (by simp [execOp, hv, hr, Sem.run_bind, Result.andThen, Sem.run_pure]) rfl rfl (.of_abs hd)
        · rw [if_neg hcond] at h; cases h
      · cases h
    · cases h
  case nilCheck x =>
    split at h
    · rename_i b off hx
      obtain ⟨hd, rfl, rfl, rfl⟩ := done _ h
      cases hd
      have hv := (plain x _ (by simp [Op.operands]) hx).abs rfl
      simp only [Abs] at hv
      obtain ⟨p, hpn, hv⟩ := hv
      exact fin (.pointer (some ⟨p, off, none⟩)) (by simp only [execOp, hv, Sem.run_pure]) rfl rfl (by simp only [TAbs, Abs]; exact ⟨p, hpn, rfl⟩)
    · cases h
  case binOp op t x y t' =>
    have hdone : binD T ev op t x y = some d ∧ e = {} ∧ dirty = false := by
      split at h
      · rename_i d0 b0 hdv
        simp only [Option.some.injEq, Prod.mk.injEq] at h
        obtain ⟨rfl, rfl, rfl, rfl⟩ := h
        have hb0 : b0 = true := hob (.eq _ _) (by simp)
        subst hb0
        refine ⟨?_, rfl, rfl⟩
        unfold divD at hdv
        split at hdv
        all_goals first
          | (cases hdv; done)
          | (rename_i k a k' b hx hy
             split at hdv
             · rename_i hk
               subst hk
               simp only [Option.some.injEq, Prod.mk.injEq, decide_eq_true_eq] at hdv
               obtain ⟨rfl, hb⟩ := hdv
               simp only [binD, isShift, Bool.false_eq_true, if_false, hx, hy, if_true, binInt, if_neg hb]
             · cases hdv)
      · obtain ⟨q1, q2, q3, q4⟩ := done _ h
        exact ⟨q1, q2, q4⟩
    obtain ⟨hb, rfl, rfl⟩ := hdone
    obtain ⟨dx, dy, hx, hnx, hny, hy, hr⟩ := binD_spec (P := P) hT hb
    have hxv := (plain x _ (by simp [Op.operands]) hx).abs hnx
    obtain ⟨hgd, hr, hd⟩ := hr (a.eval x) (a.eval y) ρ S w hxv (fun he => (plain y _ (by simp [Op.operands]) he).abs hny) (fun v hv => by rw [hv]; rfl)
    exact fin (toV d) (by simp only [execOp, Sem.run_bind, hgd, Result.andThen, hr, Sem.run_pure]) rfl rfl (.of_abs (hd ρ S))
  case unOp op t x =>
    split at h
    · rename_i d' hx
      obtain ⟨hu, rfl, rfl, rfl⟩ := done _ h
      cases d' <;> simp only [unOf] at hu <;> first | (cases hu; done) | skip
      rename_i b
      cases op <;> simp only [Option.some.injEq] at hu <;> first | (cases hu; done) | skip
      subst hu
      have hxv := (plain x _ (by simp [Op.operands]) hx).abs rfl
      simp only [Abs] at hxv
      exact fin (.bool !b) (by simp only [execOp, hxv, Op.unary, Sem.run_bind, Sem.run_pure, Result.andThen]) rfl rfl (by simp only [TAbs, Abs])
    · cases h
  case convert s t x =>
    split at h
    · rename_i ts _ _ _ _ _ k _ _ _ _ _ _ n hs ht hx
      obtain ⟨hd, rfl, rfl, rfl⟩ := done _ h
      cases hd
      have hxv := (plain x _ (by simp [Op.operands]) hx).abs rfl
      simp only [Abs] at hxv
      obtain ⟨_, us, _, hus, _⟩ := tiOf_spec (hT _ _ hs)
      obtain ⟨_, ut, _, hut, _, _, _, _, _, hk, _⟩ := tiOf_spec (hT _ _ ht)
      simp only at hk
      cases ut <;> simp only [] at hk <;> first | (cases hk; done) | skip
      cases hk
      exact fin (.int _ (IntKind.wrap _ n)) (by
        simp only [execOp, hxv, Go.convert, Sem.run_bind, run_under hus, run_under hut, Result.andThen]
        rfl) rfl rfl (by simp only [TAbs, Abs])
    · rename_i hs ht hx
      split at h
      · rename_i ns hte hns
        split at h
        · rename_i hlen
          obtain ⟨hd, rfl, rfl, rfl⟩ := done _ h
          cases hd
          have hxv := (plain x _ (by simp [Op.operands]) hx).abs rfl
          simp only [Abs] at hxv
          obtain ⟨a0, cap, vs, hxv, _, hab, hc⟩ := hxv
          obtain ⟨_, us, _, hus, _, _, _, _, hel, _⟩ := tiOf_spec (hT _ _ hs)
          have hut := tiOf_str (hT _ _ ht) rfl rfl
          obtain ⟨_, ue, _, hue, _, _, _, _, _, hk, _⟩ := tiOf_spec (hT _ _ hte)
          simp only at hel hk
          cases us <;> simp only [] at hel <;> first | (cases hel; done) | skip
          cases hel
          cases ue <;> simp only [] at hk <;> first | (cases hk; done) | skip
          cases hk
          refine fin (.string (strOf ns)) ?_ rfl rfl (by simp only [TAbs, Abs])
          have hr := str_run (P := P) hus hue hut (w := w) (a := a0) (cap := cap) (vs := vs.take _) (hc.imp id fun ⟨b, off, h1, _, h3⟩ => ⟨b, off, h1, fun j u hj => by
            rw [List.getElem?_take] at hj
            split at hj
            · exact h3 j u hj
            · cases hj⟩) (u8s_abs hns (hab.take _)) hlen
          simp only [execOp, hxv, hr, Sem.run_bind, Result.andThen, Sem.run_pure]
        · cases h
      · cases h
    · rename_i hs ht hx
      split at h
      · rename_i hte
        split at h
        · rename_i ns hns
          split at h
          · rename_i hlen
            simp only [Option.some.injEq, Prod.mk.injEq] at h
            obtain ⟨rfl, rfl, rfl, rfl⟩ := h
            have hxv := (plain x _ (by simp [Op.operands]) hx).abs rfl
            simp only [Abs] at hxv
            obtain ⟨a0, cap, hxv, _, hc⟩ := hxv
            obtain ⟨_, us, _, hus, _, _, _, _, hel, _⟩ := tiOf_spec (hT _ _ hs)
            have hut := tiOf_str (hT _ _ ht) rfl rfl
            obtain ⟨_, ue, _, hue, _, _, _, _, _, hk, _⟩ := tiOf_spec (hT _ _ hte)
            simp only at hel hk
            cases us <;> simp only [] at hel <;> first | (cases hel; done) | skip
            cases hel
            cases ue <;> simp only [] at hk <;> first | (cases hk; done) | skip
            cases hk
            refine fin (.string (strOf ns)) ?_ rfl rfl (by simp only [TAbs, Abs])
            rcases hc with h0 | ⟨p, hpn, ha, vs0, e0, hb, hle⟩
            · have hr := str_run (P := P) hus hue hut (w := w) (a := a0) (cap := cap) (ns := ns) (.inl h0) rfl hlen
              simp only [execOp, hxv, hr, Sem.run_bind, Result.andThen, Sem.run_pure]
            · obtain ⟨vs, hcl, hab⟩ := hmu.row hpn (cellObs_get hob)
              have hr := str_run (P := P) hus hue hut (w := w) (a := a0) (cap := cap) (vs := vs) (.inr ⟨p, _, ha, hcl⟩) (u8s_abs hns hab) hlen
              simp only [execOp, hxv, hr, Sem.run_bind, Result.andThen, Sem.run_pure]
          · cases h
        · cases h
      · cases h
    · rename_i hs ht hx
      split at h
      · rename_i hte
        obtain ⟨hd, rfl, rfl, rfl⟩ := done _ h
        cases hd
        have hxv := (plain x _ (by simp [Op.operands]) hx).abs rfl
        simp only [Abs] at hxv
        obtain ⟨a0, hxv⟩ := hxv
        obtain ⟨_, us, _, hus, _, _, _, _, hel, _⟩ := tiOf_spec (hT _ _ hs)
        have hut := tiOf_str (hT _ _ ht) rfl rfl
        obtain ⟨_, ue, _, hue, _, _, _, _, _, hk, _⟩ := tiOf_spec (hT _ _ hte)
        simp only at hel hk
        cases us <;> simp only [] at hel <;> first | (cases hel; done) | skip
        cases hel
        cases ue <;> simp only [] at hk <;> first | (cases hk; done) | skip
        cases hk
        refine fin (.string (strOf [])) ?_ rfl rfl (by simp only [TAbs, Abs])
        have hr := str_run (P := P) hus hue hut (w := w) (a := a0) (cap := 0) (n := 0) (vs := []) (ns := []) (.inl rfl) rfl rfl
        simp only [execOp, hxv, hr, Sem.run_bind, Result.andThen, Sem.run_pure]
      · cases h
    · cases h
  case makeFunc fn first captured =>
    cases fn <;> simp only [] at h <;> first | (cases h; done) | skip
    rename_i f
    split at h
    · rename_i hf0
      split at h
      · rename_i ds hds
        split at h
        · rename_i cs ls hcs
          simp only [Option.some.injEq, Prod.mk.injEq] at h
          obtain ⟨rfl, rfl, rfl, rfl⟩ := h
          obtain ⟨hl, hg⟩ := evAll_get hds
          have hab := captures_abs (ι := ι) (S := S) (w := w) hlo (vs := captured.toList.map a.eval) hcs (by simp [hl]) (fun i d v hd hv => by
            obtain ⟨x, hx, he⟩ := hg i d hd
            rw [List.getElem?_map, hx] at hv
            cases hv
            exact plain x d (by simp only [Op.operands, Array.mem_append]; right; exact Array.mem_toList_iff.1 (List.mem_of_getElem? hx)) he)
          have hf : first = #[] := by simpa using hf0
          refine Oper.wp_value (w' := w) (v := .func (.func f) #[] (captured.toList.map a.eval).toArray) ?_ (hnext _ w ι ρ (fun b => S b ∨ ∃ n ∈ ls, ι n = some b) ?_)
          · have e : (captured.toList.map a.eval).toArray = captured.map a.eval := by apply Array.ext'; simp
            rw [e]
            simp only [execOp, Instr.makeFunc, Sem.run_bind, Sem.run_pure, Result.andThen, hf, List.map_toArray, List.map_nil]
          · refine ⟨rfl, rfl, rfl, Nat.le_refl _, fun _ _ _ _ => rfl, fun _ _ _ _ => rfl, fun _ h => .inl h, fun b hb => ?_, ?_, hmu.mono (.refl ρ w) (fun _ _ => rfl) (fun _ _ => rfl) (fun _ h => .inl h) (fun b hb hS => ?_), fun _ h => .inl h, fun _ => rfl, fun _ h => by simp at h, hnm, .refl ρ w, fun _ _ h => .inl h, fun _ h => by simp at h⟩
            · rcases hb with hb | ⟨n, hn, hb⟩
              · exact .inl hb
              · exact .inr (.inr ⟨n, hn, hb⟩)
            · simp only [TAbs, Abs]
              exact ⟨_, rfl, hab⟩
            · rcases hS with hS | ⟨n, _, hS⟩
              · exact hmu.notS hb hS
              · exact hιD n b hS hb
        · cases h
      · cases h
    · split at h
      · rename_i hc0
        split at h
        · rename_i ds hds
          split at h
          · rename_i hnl
            obtain ⟨hd, rfl, rfl, rfl⟩ := done (some (.bnd f ds)) (by simpa using h)
            cases hd
            have hargs := evAll_abs (ι := ι) (S := S) (w := w) (η := a.eval) hds (fun x hx d' hd' => plain x d' (by simp only [Op.operands, Array.mem_append]; left; exact Array.mem_toList_iff.1 hx) hd') hnl
            have hc : captured = #[] := by simpa using hc0
            exact fin (.func (.func f) (first.toList.map a.eval).toArray #[]) (by
              have e : (first.toList.map a.eval).toArray = first.map a.eval := by apply Array.ext'; simp
              rw [e]
              simp only [execOp, Instr.makeFunc, Sem.run_bind, Sem.run_pure, Result.andThen, hc, List.map_toArray, List.map_nil]) rfl rfl (by simp only [TAbs, Abs]; exact ⟨_, rfl, hargs⟩)
          · cases h
        · cases h
      · cases h
  case fieldAddr s x i =>
    split at h
    · rename_i _ _ _ fs _ _ _ _ _ _ _ d' hs hx
      split at h
      · rename_i off t hfi
        split at h
        · rename_i ti hti
          split at h
          · rename_i hsz0
            split at h
            · rename_i n o
              split at h
              · rename_i te hte
                split at h
                · rename_i hcond
                  simp only [Bool.and_eq_true, bne_iff_ne, ne_eq] at hcond
                  obtain ⟨hd, rfl, rfl, rfl⟩ := done _ h
                  cases hd
                  simp only [Option.bind_eq_some_iff] at hte
                  obtain ⟨el, hel0, hte⟩ := hte
                  obtain ⟨_, us, _, hus, h1, h2, h3, hfields, h4⟩ := tiOf_spec (hT _ _ hs)
                  clear h1 h2 h3 h4
                  simp only at hfields
                  cases us <;> simp only [] at hfields <;> first | (cases hfields; done) | skip
                  rename_i fields
                  simp only [Option.some.injEq] at hfields
                  rw [hfields, List.getElem?_map] at hfi
                  cases hff : fields.toList[i]? with
                  | none => rw [hff] at hfi; cases hfi
                  | some f =>
                  rw [hff] at hfi
                  simp only [Option.map_some, Option.some.injEq, Prod.mk.injEq] at hfi
                  obtain ⟨rfl, rfl⟩ := hfi
                  obtain ⟨it, _, hit, _, hst, _⟩ := tiOf_spec (hT _ _ hti)
                  obtain ⟨ie, _, hie, _, hse, _, _, _, _, _, _, _, hby, _⟩ := tiOf_spec (hT _ _ hte)
                  rw [hby] at hcond
                  simp only [Bool.and_eq_true, decide_eq_true_eq, List.all_eq_true, List.mem_range] at hcond
                  obtain ⟨⟨hcells, hbytes⟩, hne⟩ := hcond
                  obtain ⟨b, hb, hv⟩ := plain x _ (by simp [Op.operands]) hx
                  obtain ⟨vs, hheap⟩ := hel n b el hb hel0
                  have hby1 : ∀ (o' : Nat), ∃ k, (byteOf ⟨b, o', none⟩).run P w = .ok k w := fun o' => run_byteOf hheap (by rw [hcells, ← hse]; omega) (hbytes _ (by rw [hcells]; exact Nat.mod_lt _ (by rw [← hse]; omega)))
                  obtain ⟨k1, hk1⟩ := hby1 o
                  obtain ⟨k2, hk2⟩ := hby1 (o + f.offset)
                  have hfa : fields[i]? = some f := by simpa using hff
                  exact fin (.pointer (some (if k2 = k1 + f.byteOffset then ⟨b, o + f.offset, none⟩ else ⟨b, o + f.offset, some (k1 + f.byteOffset)⟩))) (by
                    simp only [execOp, hv, Instr.fieldAt, Sem.run_bind, run_under hus, Result.andThen, hfa, Instr.sureAddr, Sem.run_pure, fieldPlace, run_size hit]
                    rw [if_pos (by omega)]
                    simp only [partAt, Sem.run_bind, hk1, hk2, Result.andThen, Sem.run_pure]) rfl rfl (by simp only [TAbs, Abs]; exact ⟨_, rfl⟩)
                · cases h
              · cases h
            · cases h
          · rename_i hsz
            obtain ⟨_, us, _, hus, h1, h2, h3, hfields, h4⟩ := tiOf_spec (hT _ _ hs)
            clear h1 h2 h3 h4
            simp only at hfields
            cases us <;> simp only [] at hfields <;> first | (cases hfields; done) | skip
            rename_i fields
            simp only [Option.some.injEq] at hfields
            rw [hfields, List.getElem?_map] at hfi
            cases hff : fields.toList[i]? with
            | none => rw [hff] at hfi; cases hfi
            | some f =>
            rw [hff] at hfi
            simp only [Option.map_some, Option.some.injEq, Prod.mk.injEq] at hfi
            obtain ⟨rfl, rfl⟩ := hfi
            obtain ⟨it, _, hit, _, hst, _⟩ := tiOf_spec (hT _ _ hti)
            have run : ∀ (b o : Nat), (Instr.fieldAt s (.pointer (some ⟨b, o, none⟩)) i).run P w = .ok (.pointer (some ⟨b, o + f.offset, none⟩)) w := fun b o => by
              have hfa : fields[i]? = some f := by simpa using hff
              simp only [Instr.fieldAt, Sem.run_bind, run_under hus, Result.andThen, hfa, Instr.sureAddr, Sem.run_pure, fieldPlace, run_size hit]
              rw [if_neg (by omega)]
              simp only [Sem.run_pure, Result.andThen, addr_add]
            have hv := plain x d' (by simp [Op.operands]) hx
            cases d' <;> simp only [] at h <;> first | (cases h; done) | skip
            case loc n o =>
              obtain ⟨hd, rfl, rfl, rfl⟩ := done _ h
              cases hd
              obtain ⟨b, hb, hv⟩ := hv
              exact fin (.pointer (some ⟨b, o + f.offset, none⟩)) (by simp only [execOp, hv, run, Sem.run_bind, Result.andThen, Sem.run_pure]) rfl rfl ⟨b, hb, rfl⟩
            case ptr cs =>
              obtain ⟨hd, rfl, rfl, rfl⟩ := done _ h
              cases hd
              simp only [TAbs, Abs] at hv
              obtain ⟨b, o, vs, hv, hb, hc, hab⟩ := hv
              exact fin (.pointer (some ⟨b, o + f.offset, none⟩)) (by simp only [execOp, hv, run, Sem.run_bind, Result.andThen, Sem.run_pure]) rfl rfl (by
                simp only [TAbs, Abs]
                exact ⟨b, o + f.offset, vs.drop f.offset, rfl, hb, hc.drop _, hab.drop _⟩)
            case adr b o =>
              obtain ⟨hd, rfl, rfl, rfl⟩ := done _ h
              cases hd
              simp only [TAbs, Abs] at hv
              obtain ⟨p, hpn, hv⟩ := hv
              exact fin (.pointer (some ⟨p, o + f.offset, none⟩)) (by simp only [execOp, hv, run, Sem.run_bind, Result.andThen, Sem.run_pure]) rfl rfl (by simp only [TAbs, Abs]; exact ⟨p, hpn, rfl⟩)
        · cases h
      · cases h
    · cases h
  case field s x i =>
    split at h
    · rename_i _ _ _ fs _ _ _ _ _ _ _ cs hs hx
      split at h
      · rename_i off t hfi
        split at h
        · rename_i ti hti
          obtain ⟨hp, rfl, rfl, rfl⟩ := done _ h
          obtain ⟨_, us, _, hus, h1, h2, h3, hfields, h4⟩ := tiOf_spec (hT _ _ hs)
          clear h1 h2 h3 h4
          simp only at hfields
          cases us <;> simp only [] at hfields <;> first | (cases hfields; done) | skip
          rename_i fields
          simp only [Option.some.injEq] at hfields
          rw [hfields, List.getElem?_map] at hfi
          cases hff : fields.toList[i]? with
          | none => rw [hff] at hfi; cases hfi
          | some f =>
          rw [hff] at hfi
          simp only [Option.map_some, Option.some.injEq, Prod.mk.injEq] at hfi
          obtain ⟨rfl, rfl⟩ := hfi
          obtain ⟨it, ut, hit, hut, hst, hag, _⟩ := tiOf_spec (hT _ _ hti)
          have hv := (plain x _ (by simp [Op.operands]) hx).abs rfl
          simp only [Abs] at hv
          obtain ⟨vs, hv, hab⟩ := hv
          have hfa : fields[i]? = some f := by simpa using hff
          unfold partOf at hp
          rw [hag] at hp
          cases hA : isAggD ut <;> rw [hA] at hp
          · simp only [Bool.false_eq_true, if_false] at hp
            obtain ⟨v, hvv, hd⟩ := hab.get hp
            exact fin v (by
              simp only [execOp, hv, Instr.field, Sem.run_bind, run_under hus, Result.andThen, hfa, asAgg, Sem.run_pure, part, run_agg hut, hA, Bool.false_eq_true, if_false, List.getElem?_toArray, hvv]) rfl rfl (.of_abs hd)
          · simp only [if_true] at hp
            split at hp
            · rename_i hle
              cases hp
              exact fin (.agg ((vs.drop f.offset).take it.size).toArray) (by
                simp only [execOp, hv, Instr.field, Sem.run_bind, run_under hus, Result.andThen, hfa, asAgg, Sem.run_pure, part, run_agg hut, hA, if_true, run_size hit]
                congr 3
                apply Array.ext'
                simp [List.extract_eq_take_drop]) rfl rfl (by
                  simp only [TAbs, Abs]
                  exact ⟨_, rfl, by rw [← hst]; exact (hab.drop _).take _⟩)
            · cases hp
        · cases h
      · cases h
    · cases h
  case indexAddr t x i =>
    split at h
    · rename_i _ _ _ _ el _ _ _ _ _ _ cs n k0 k ht hx hi
      split at h
      · rename_i te hte
        by_cases hk0 : True
        · simp only [Option.some.injEq, Prod.mk.injEq] at h
          obtain ⟨rfl, rfl, rfl, rfl⟩ := h
          have hk : decide (0 ≤ k ∧ k < (n : Int)) = true := hob (.eq _ _) (by simp)
          have hk : 0 ≤ k ∧ k < (n : Int) := of_decide_eq_true hk
          obtain ⟨_, ut, _, hut, _, _, _, _, hel, _⟩ := tiOf_spec (hT _ _ ht)
          simp only at hel
          cases ut <;> simp only [] at hel <;> first | (cases hel; done) | skip
          simp only [Option.some.injEq] at hel
          subst hel
          obtain ⟨it, _, hit, _, hst, _⟩ := tiOf_spec (hT _ _ hte)
          have hv := (plain x _ (by simp [Op.operands]) hx).abs rfl
          have hiv := (plain i _ (by simp [Op.operands]) hi).abs rfl
          simp only [Abs] at hv hiv
          obtain ⟨ad, cap, vs, hv, hcap, hab, hor⟩ := hv
          rcases hor with h0 | ⟨b, off, rfl, hb, hc⟩
          · omega
          · exact fin (.pointer (some ⟨b, off + k.toNat * it.size, none⟩)) (by
              simp only [execOp, hv, hiv, Instr.indexAt, asIntOf, Sem.run_bind, Sem.run_pure, run_under hut, Result.andThen]
              have hk2 : 0 ≤ k ∧ k < ↑n := hk
              by_cases hn1 : n ≤ 1 <;> simp [hk2, hn1, Sem.run_pure, Result.andThen, run_under hut, run_size hit, addr_add]) rfl rfl (by
                simp only [TAbs, Abs]
                exact ⟨b, off + k.toNat * it.size, vs.drop (k.toNat * it.size), rfl, hb, hc.drop _, by rw [hst]; exact hab.drop _⟩)
        · exact absurd trivial hk0
      · cases h
    · rename_i _ _ _ _ el _ _ _ _ _ _ b off n sz k0 k ht hx hi
      split at h
      · rename_i te hte
        simp only [Option.some.injEq, Prod.mk.injEq] at h
        obtain ⟨rfl, rfl, rfl, rfl⟩ := h
        have hk : decide (0 ≤ k ∧ k < (n : Int)) = true := hob (.eq _ _) (by simp)
        have hk : 0 ≤ k ∧ k < (n : Int) := of_decide_eq_true hk
        obtain ⟨_, ut, _, hut, _, _, _, _, hel, _⟩ := tiOf_spec (hT _ _ ht)
        simp only at hel
        cases ut <;> simp only [] at hel <;> first | (cases hel; done) | skip
        simp only [Option.some.injEq] at hel
        subst hel
        obtain ⟨it, _, hit, _, hst, _⟩ := tiOf_spec (hT _ _ hte)
        have hv := (plain x _ (by simp [Op.operands]) hx).abs rfl
        have hiv := (plain i _ (by simp [Op.operands]) hi).abs rfl
        simp only [Abs] at hv hiv
        obtain ⟨ad, cap, hv, hcap, hor⟩ := hv
        obtain ⟨p, hpn, rfl, _⟩ := hor.resolve_left (by omega)
        exact fin (.pointer (some ⟨p, off + k.toNat * it.size, none⟩)) (by
          simp only [execOp, hv, hiv, Instr.indexAt, asIntOf, Sem.run_bind, Sem.run_pure, run_under hut, Result.andThen]
          have hk2 : 0 ≤ k ∧ k < ↑n := hk
          by_cases hn1 : n ≤ 1 <;> simp [hk2, hn1, Sem.run_pure, Result.andThen, run_under hut, run_size hit, addr_add]) rfl rfl (by
            simp only [TAbs, Abs, hst]; exact ⟨p, hpn, rfl⟩)
      · cases h
    · rename_i m el _ n off k0 k ht hx hi
      split at h
      · rename_i te hte
        simp only [Option.some.injEq, Prod.mk.injEq] at h
        obtain ⟨rfl, rfl, rfl, rfl⟩ := h
        have hk : decide (0 ≤ k ∧ k < (m : Int)) = true := hob (.eq _ _) (by simp)
        have hk : 0 ≤ k ∧ k < (m : Int) := of_decide_eq_true hk
        obtain ⟨_, ut, _, hut, _, _, _, _, _, _, _, _, _, _, harr, _⟩ := tiOf_spec (hT _ _ ht)
        simp only at harr
        cases ut <;> simp only [] at harr <;> first | (cases harr; done) | skip
        simp only [Option.some.injEq, Prod.mk.injEq] at harr
        obtain ⟨rfl, rfl⟩ := harr
        obtain ⟨it, _, hit, _, hst, _⟩ := tiOf_spec (hT _ _ hte)
        have hv := plain x _ (by simp [Op.operands]) hx
        have hiv := (plain i _ (by simp [Op.operands]) hi).abs rfl
        simp only [TAbs] at hv
        simp only [Abs] at hiv
        obtain ⟨b, hb, hv⟩ := hv
        exact fin (.pointer (some ⟨b, off + k.toNat * it.size, none⟩)) (by
          simp only [execOp, hv, hiv, Instr.indexAt, asIntOf, Sem.run_bind, Sem.run_pure, run_under hut, Result.andThen, Instr.sureAddr]
          by_cases hn1 : m ≤ 1 <;> simp [hk, hn1, Sem.run_pure, Result.andThen, run_under hut, run_size hit, addr_add]) rfl rfl (by
            simp only [TAbs]; exact ⟨b, hb, by rw [hst]⟩)
      · cases h
    · cases h
  case index t x i =>
    split at h
    · rename_i m el _ cs k0 k ht hx hi
      split at h
      · rename_i te hte
        simp only [Option.map_eq_some_iff, Prod.mk.injEq] at h
        obtain ⟨d0, hp, rfl, rfl, rfl, rfl⟩ := h
        have hk : decide (0 ≤ k ∧ k < (m : Int)) = true := hob (.eq _ _) (by simp)
        have hk : 0 ≤ k ∧ k < (m : Int) := of_decide_eq_true hk
        obtain ⟨_, ut0, _, hut0, _, _, _, _, _, _, _, _, _, _, harr, _⟩ := tiOf_spec (hT _ _ ht)
        simp only at harr
        cases ut0 <;> simp only [] at harr <;> first | (cases harr; done) | skip
        simp only [Option.some.injEq, Prod.mk.injEq] at harr
        obtain ⟨rfl, rfl⟩ := harr
        obtain ⟨it, ut, hit, hut, hst, hag, _⟩ := tiOf_spec (hT _ _ hte)
        have hv := (plain x _ (by simp [Op.operands]) hx).abs rfl
        have hiv := (plain i _ (by simp [Op.operands]) hi).abs rfl
        simp only [Abs] at hv hiv
        obtain ⟨vs, hv, hab⟩ := hv
        unfold partOf at hp
        rw [hag] at hp
        cases hA : isAggD ut <;> rw [hA] at hp
        · simp only [Bool.false_eq_true, if_false] at hp
          obtain ⟨v, hvv, hd⟩ := hab.get hp
          rw [hst] at hvv
          exact fin v (by
            simp only [execOp, hv, hiv, Instr.index, asIntOf, Sem.run_bind, Sem.run_pure, run_under hut0, Result.andThen]
            simp [hk, part, run_agg hut, hA, run_size hit, Sem.run_bind, Sem.run_pure, Result.andThen, hvv]) rfl rfl (.of_abs hd)
        · simp only [if_true] at hp
          split at hp
          · rename_i hle
            cases hp
            exact fin (.agg ((vs.drop (k.toNat * it.size)).take it.size).toArray) (by
              simp only [execOp, hv, hiv, Instr.index, asIntOf, Sem.run_bind, Sem.run_pure, run_under hut0, Result.andThen]
              simp [hk, part, run_agg hut, hA, run_size hit, Sem.run_bind, Sem.run_pure, Result.andThen]) rfl rfl (by
                simp only [TAbs, Abs]
                exact ⟨_, rfl, by rw [← hst]; exact (hab.drop _).take _⟩)
          · cases hp
      · cases h
    · rename_i s k0 k ht hx hi
      simp only [Option.some.injEq, Prod.mk.injEq] at h
      obtain ⟨rfl, rfl, rfl, rfl⟩ := h
      have hk : decide (0 ≤ k ∧ k < (lenS s : Int)) = true := hob (.eq _ _) (by simp)
      have hk : 0 ≤ k ∧ k < (lenS s : Int) := of_decide_eq_true hk
      have hu := tiOf_str (hT _ _ ht) rfl rfl
      have hv := (plain x _ (by simp [Op.operands]) hx).abs rfl
      have hiv := (plain i _ (by simp [Op.operands]) hi).abs rfl
      simp only [Abs] at hv hiv
      obtain ⟨b, hb, hbd⟩ := byteD_eq s (k := k.toNat) (by omega)
      exact fin (.int .u8 (byteD s k.toNat)) (by
        simp only [execOp, hv, hiv, Instr.index, asIntOf, Sem.run_bind, Sem.run_pure, run_under hu, Result.andThen]
        rw [if_pos hk.1, hb, hbd]; rfl) rfl rfl (.of_abs (by simp only [Abs]))
    · cases h
  case slice t x lo hi mx =>
    split at h
    · rename_i d0 n hsl
      simp only [Option.some.injEq, Prod.mk.injEq] at h
      obtain ⟨rfl, rfl, rfl, rfl⟩ := h
      obtain ⟨ti, m, el, off, te, cs, rfl, rfl, rfl, ht, har, hx, hte, hlc, rfl⟩ := sliceA_spec hsl
      obtain ⟨it, ut, _, hut, _, _, _, _, _, hrest⟩ := tiOf_spec (hT _ _ ht)
      have hut' := tiOf_arr (hT _ _ ht) har hut
      obtain ⟨ie, _, hie, _, hse, _⟩ := tiOf_spec (hT _ _ hte)
      have hv := plain x _ (by simp [Op.operands]) hx
      simp only [TAbs] at hv
      obtain ⟨b, hb, hv⟩ := hv
      obtain ⟨vs, elem, hheap, hab⟩ := hlo n b cs hb hlc
      subst hut'
      refine Oper.wp_value (w' := w) (v := .slice (some (if m = 0 then ⟨b, off, none⟩ else ⟨b, off + 0, none⟩)) m m) ?_ (hnext _ w ι ρ (fun b' => S b' ∨ ι n = some b') ?_)
      · simp only [execOp, Option.map_none, Instr.sliceAt, Sem.run_bind, run_under hut, Result.andThen, hv, Instr.sureAddr, Sem.run_pure, Instr.sliceBounds, run_size hie, addr_add, Nat.zero_mul, Nat.sub_zero]
      · refine ⟨rfl, rfl, rfl, Nat.le_refl _, fun _ _ _ _ => rfl, fun _ _ _ _ => rfl, fun _ h => .inl h, fun b' hb' => ?_, ?_, hmu.mono (.refl ρ w) (fun _ _ => rfl) (fun _ _ => rfl) (fun _ h => .inl h) (fun b' hb' hS => ?_), fun _ h => .inl h, fun _ => rfl, fun _ h => by simp at h, hnm, .refl ρ w, fun _ _ h => .inl h, fun _ h => by simp at h⟩
        · rcases hb' with hb' | hb'
          · exact .inl hb'
          · exact .inr (.inr ⟨n, by simp, hb'⟩)
        · simp only [TAbs, Abs]
          refine ⟨_, m, (vs.toList.drop off).take (m * te.size), rfl, Nat.le_refl _, AbsL.mono (.refl ρ w) (fun _ _ => rfl) (fun _ h => .inl h) _ _ ((hab.drop off).take _), ?_⟩
          by_cases hm0 : m = 0
          · exact .inl hm0
          · right
            rw [if_neg hm0]
            refine ⟨b, off, by simp, .inr hb, fun j u hu => ?_⟩
            have hu' : (vs.toList.drop off)[j]? = some u := by
              rw [List.getElem?_take] at hu
              split at hu
              · exact hu
              · cases hu
            have := (CellsAt.of_block hheap).drop off
            rw [Nat.zero_add] at this
            exact this j u hu'
        · rcases hS with hS | hS
          · exact hmu.notS hb' hS
          · exact hιD n b' hS hb'
    rename_i hnsl
    simp only [Option.map_eq_some_iff, Prod.mk.injEq] at h
    obtain ⟨⟨d0, bb⟩, hs, rfl, rfl, rfl, rfl⟩ := h
    have hbb : bb = true := hob (.eq _ _) (by simp)
    subst hbb
    rw [Option.or_eq_some_iff] at hs
    rcases hs with hs | ⟨_, hs⟩
    case' inr =>
      rw [Option.or_eq_some_iff] at hs
      rcases hs with hs | ⟨_, hs⟩
      case' inr =>
        obtain ⟨ti, s, l, h, rfl, ht, hcm, hag, hx, hl, hh, rfl, hk0, hk1, hk2⟩ := sliceS_spec hs
        have hu := tiOf_str (hT _ _ ht) hag hcm
        have hv := (plain x _ (by simp [Op.operands]) hx).abs rfl
        simp only [Abs] at hv
        have bnd : ∀ (els : Int) (o : Option Operand) (r : Int), (∀ y, o = some y → y ∈ (Op.slice t x lo hi none).operands) → boundD ev els o = some r → (o.map a.eval = none ∧ r = els ∨ ∃ k, o.map a.eval = some (.int k r)) := by
          intro els o r hm hr
          cases o with
          | none => simp only [boundD, Option.some.injEq] at hr; exact .inl ⟨rfl, hr.symm⟩
          | some y =>
            simp only [boundD] at hr
            split at hr
            · rename_i k r' hy
              cases hr
              have := (plain y _ (hm y rfl) hy).abs rfl
              simp only [Abs] at this
              exact .inr ⟨k, by rw [Option.map_some, this]⟩
            · cases hr
        have hr := slice_str_run hu (w := w) (bnd 0 lo l (fun y hy => by subst hy; simp [Op.operands]) hl) (bnd _ hi h (fun y hy => by subst hy; simp [Op.operands]) hh) hk0 hk1 hk2
        exact fin (.string (cutS s l.toNat h.toNat)) (by simp only [execOp, Option.map_none, hv, hr, Sem.run_bind, Result.andThen, Sem.run_pure]) rfl rfl (.of_abs (by simp only [Abs]))
      obtain ⟨ti, el, te, b, off, n, l, h, rfl, ht, hel, hx, hte, hl, hh, rfl, hk0, hk1, hk2⟩ := sliceV_spec hs
      obtain ⟨_, ut, _, hut, _, _, _, _, hel', _⟩ := tiOf_spec (hT _ _ ht)
      rw [hel] at hel'
      cases ut <;> simp only [] at hel' <;> first | (cases hel'; done) | skip
      simp only [Option.some.injEq] at hel'
      subst hel'
      obtain ⟨it, _, hit, _, hst, _⟩ := tiOf_spec (hT _ _ hte)
      have hv := (plain x _ (by simp [Op.operands]) hx).abs rfl
      rw [hst] at hv
      have bnd : ∀ (els : Int) (o : Option Operand) (r : Int), (∀ y, o = some y → y ∈ (Op.slice t x lo hi none).operands) → boundD ev els o = some r → (o.map a.eval = none ∧ r = els ∨ ∃ k, o.map a.eval = some (.int k r)) := by
        intro els o r hm hr
        cases o with
        | none => simp only [boundD, Option.some.injEq] at hr; exact .inl ⟨rfl, hr.symm⟩
        | some y =>
          simp only [boundD] at hr
          split at hr
          · rename_i k r' hy
            cases hr
            have := (plain y _ (hm y rfl) hy).abs rfl
            simp only [Abs] at this
            exact .inr ⟨k, by rw [Option.map_some, this]⟩
          · cases hr
      obtain ⟨u, hr, hab⟩ := slice_vec_run hut hit hv (bnd 0 lo l (fun y hy => by subst hy; simp [Op.operands]) hl) (bnd n hi h (fun y hy => by subst hy; simp [Op.operands]) hh) hk0 hk1 hk2
      exact fin u (by simp only [execOp, Option.map_none, hr, Sem.run_bind, Result.andThen, Sem.run_pure]) rfl rfl (.of_abs (by rw [hst]; exact hab))
    obtain ⟨k, l, rfl, rfl, rfl, hs⟩ : ∃ k l, lo = some (.const (.int k l)) ∧ hi = none ∧ mx = none ∧ sliceD T ev t x (some (.const (.int k l))) none none = some (d0, true) := by
      unfold sliceD at hs
      split at hs
      · rename_i k l
        exact ⟨k, l, rfl, rfl, rfl, by simpa only [sliceD] using hs⟩
      · cases hs
    simp only [sliceD] at hs
    split at hs
    · rename_i _ _ _ _ el _ _ _ _ _ _ cs n ht hx
      split at hs
      · rename_i te hte
        by_cases hk0 : True
        · simp only [Option.some.injEq, Prod.mk.injEq, decide_eq_true_eq] at hs
          obtain ⟨rfl, hk⟩ := hs
          obtain ⟨_, ut, _, hut, _, _, _, _, hel, _⟩ := tiOf_spec (hT _ _ ht)
          simp only at hel
          cases ut <;> simp only [] at hel <;> first | (cases hel; done) | skip
          simp only [Option.some.injEq] at hel
          subst hel
          obtain ⟨it, _, hit, _, hst, _⟩ := tiOf_spec (hT _ _ hte)
          have hv := (plain x _ (by simp [Op.operands]) hx).abs rfl
          obtain ⟨u, hr, hab⟩ := slice_run (te := te) hut hit (k := k) hv hk.1 hk.2
          exact fin u (by
            have e : a.eval (.const (.int k l)) = .int k l := rfl
            simp only [execOp, Option.map_some, Option.map_none, e, hr, Sem.run_bind, Result.andThen, Sem.run_pure]) rfl rfl (.of_abs (by rw [hst]; exact hab))
        · exact absurd trivial hk0
      · cases hs
    · cases hs
  case extract x i =>
    split at h
    · rename_i ds hx
      obtain ⟨hd, rfl, rfl, rfl⟩ := done _ h
      have hv := (plain x _ (by simp [Op.operands]) hx).abs rfl
      simp only [Abs] at hv
      obtain ⟨vs, hv, hab⟩ := hv
      obtain ⟨v, hvv, hdv⟩ := hab.get hd
      exact fin v (by simp only [execOp, hv, Instr.extract, List.getElem?_toArray, hvv, Sem.run_bind, Sem.run_pure, Result.andThen]) rfl rfl (.of_abs hdv)
    · cases h
  case call c =>
    obtain ⟨callee, args, argTypes⟩ := c
    cases callee <;> (try simp only [] at h) <;> first | (cases h; done) | skip
    case value f =>
      split at h
      · rename_i g caps ds x0 hf hds
        split at h
        · rename_i hnl
          simp only [Bool.and_eq_true] at hnl
          simp only [Option.some.injEq, Prod.mk.injEq] at h
          obtain ⟨rfl, rfl, rfl, rfl⟩ := h
          have hok : CallOk P _ _ _ _ _ _ _ := hob _ (List.mem_singleton.2 rfl)
          have hfv := (plain f _ (by simp [Op.operands, Call.operands]) hf).abs rfl
          simp only [Abs] at hfv
          obtain ⟨vs, hfv, hcaps⟩ := hfv
          have hargs := evAll_abs (ι := ι) (S := S) (w := w) (η := a.eval) hds (fun x hx d' hd' => plain x d' (by simp only [Op.operands, Call.operands, Array.mem_append]; right; exact Array.mem_toList_iff.1 hx) hd') hnl.1
          have hr : (execOp a.eval ⟨dst, .call ⟨.value f, args, argTypes⟩, type, pos, after, guard⟩).run P w = .ok (.enter g (args.toList.map a.eval ++ vs).toArray) w := by
            simp only [execOp, resolve, hfv, Deferred.ofValue, Sem.run_bind, Sem.run_pure, Result.andThen, invoke, run_callFunc hok.enters]
            congr 2
            apply Array.ext'
            simp
          unfold Oper.wp
          rw [hr]
          refine (hok.runs ρ S w _ hnm hfresh sane hmu (hargs.append hcaps)).mono ?_
          rintro e' w' ⟨v, S', ρ', rfl, hpost, hnm', hgrow, hback, hm', hdom, hd⟩
          exact hnext v w' ι ρ' S' (hpost.monoPost hnm' hgrow hback hm' hdom hd)
        · cases h
      · rename_i g fs ds x0 hf hds
        split at h
        · rename_i hnl
          simp only [Bool.and_eq_true] at hnl
          simp only [Option.some.injEq, Prod.mk.injEq] at h
          obtain ⟨rfl, rfl, rfl, rfl⟩ := h
          have hok : CallOk P _ _ _ _ _ _ _ := hob _ (List.mem_singleton.2 rfl)
          have hfv := (plain f _ (by simp [Op.operands, Call.operands]) hf).abs rfl
          simp only [Abs] at hfv
          obtain ⟨vs, hfv, hfs⟩ := hfv
          have hargs := evAll_abs (ι := ι) (S := S) (w := w) (η := a.eval) hds (fun x hx d' hd' => plain x d' (by simp only [Op.operands, Call.operands, Array.mem_append]; right; exact Array.mem_toList_iff.1 hx) hd') hnl.1
          have hr : (execOp a.eval ⟨dst, .call ⟨.value f, args, argTypes⟩, type, pos, after, guard⟩).run P w = .ok (.enter g (vs ++ args.toList.map a.eval).toArray) w := by
            simp only [execOp, resolve, hfv, Deferred.ofValue, Sem.run_bind, Sem.run_pure, Result.andThen, invoke, run_callFunc hok.enters]
            congr 2
            apply Array.ext'
            simp
          unfold Oper.wp
          rw [hr]
          refine (hok.runs ρ S w _ hnm hfresh sane hmu (hfs.append hargs)).mono ?_
          rintro e' w' ⟨v, S', ρ', rfl, hpost, hnm', hgrow, hback, hm', hdom, hd⟩
          exact hnext v w' ι ρ' S' (hpost.monoPost hnm' hgrow hback hm' hdom hd)
        · cases h
      · cases h
    case builtin b =>
      cases b <;> (try simp only [] at h) <;> first | (cases h; done) | skip
      case max =>
        split at h
        · rename_i k x ds hds
          obtain ⟨hd, rfl, rfl, rfl⟩ := done _ h
          obtain ⟨v, rest, hvs, hv, hr⟩ := (evAll_abs (ι := ι) (S := S) (w := w) (η := a.eval) hds (fun y hy d' hd' => plain y d' (by simp only [Op.operands, Call.operands, Array.mem_append]; right; exact Array.mem_toList_iff.1 hy) hd') (by
            have : ∀ (ds : List DV) (x : Int) (d : DV), foldInt (fun x y => if y > x then y else x) k x ds = some d → ds.all DV.noLoc = true := by
              intro ds
              induction ds with
              | nil => intro _ _ _; rfl
              | cons e ds ih =>
                intro x d h
                cases e <;> simp only [foldInt] at h <;> first | (cases h; done) | skip
                split at h
                · simp only [List.all_cons, DV.noLoc, Bool.true_and]; exact ih _ _ h
                · cases h
            simp only [List.all_cons, DV.noLoc, Bool.true_and]; exact this ds x d hd)).cons_inv
          simp only [Abs] at hv
          subst hv
          obtain ⟨h1, h2⟩ := foldMax (P := P) hd hr
          exact fin (toV d) (by
            simp only [execOp, resolve, Sem.run_bind, Sem.run_pure, Result.andThen, invoke, builtin, Builtin.max_, Array.toList_map, hvs, h1]) rfl rfl (.of_abs (h2 ρ S))
        · cases h
      case min =>
        split at h
        · rename_i k x ds hds
          obtain ⟨hd, rfl, rfl, rfl⟩ := done _ h
          obtain ⟨v, rest, hvs, hv, hr⟩ := (evAll_abs (ι := ι) (S := S) (w := w) (η := a.eval) hds (fun y hy d' hd' => plain y d' (by simp only [Op.operands, Call.operands, Array.mem_append]; right; exact Array.mem_toList_iff.1 hy) hd') (by
            have : ∀ (ds : List DV) (x : Int) (d : DV), foldInt (fun x y => if y < x then y else x) k x ds = some d → ds.all DV.noLoc = true := by
              intro ds
              induction ds with
              | nil => intro _ _ _; rfl
              | cons e ds ih =>
                intro x d h
                cases e <;> simp only [foldInt] at h <;> first | (cases h; done) | skip
                split at h
                · simp only [List.all_cons, DV.noLoc, Bool.true_and]; exact ih _ _ h
                · cases h
            simp only [List.all_cons, DV.noLoc, Bool.true_and]; exact this ds x d hd)).cons_inv
          simp only [Abs] at hv
          subst hv
          obtain ⟨h1, h2⟩ := foldMin (P := P) hd hr
          exact fin (toV d) (by
            simp only [execOp, resolve, Sem.run_bind, Sem.run_pure, Result.andThen, invoke, builtin, Builtin.min_, Array.toList_map, hvs, h1]) rfl rfl (.of_abs (h2 ρ S))
        · cases h
      case append =>
        split at h
        · rename_i x y t t' _ _ _ n hxs hts
          split at h
          · rename_i htt
            subst htt
            have hargs : args = #[x, y] := by apply Array.ext'; simpa using hxs
            have htys : argTypes = #[t, t] := by apply Array.ext'; simpa using hts
            subst hargs; subst htys
            split at h
            · rename_i _ _ _ _ el _ _ _ _ _ _ _ ht
              split at h
              · rename_i sz _ zl _ _ _ _ _ _ _ _ hte
                obtain ⟨_, ut, _, hut, _, _, _, _, hel, _⟩ := tiOf_spec (hT _ _ ht)
                simp only at hel
                cases ut <;> simp only [] at hel <;> first | (cases hel; done) | skip
                simp only [Option.some.injEq] at hel
                subst hel
                obtain ⟨it, _, hit, _, hst, _, hzero, _, _, _, _, _, _, hroomb, _, _⟩ := tiOf_spec (hT _ _ hte)
                simp only at hst hzero hroomb
                subst hst
                have hbytes : it.bytes ≤ 1024 := of_decide_eq_true hroomb.symm
                cases hzi : it.zero with
                | none => rw [hzi] at hzero; simp at hzero
                | some zv =>
                rw [hzi] at hzero
                simp only [Option.map_some, Option.some.injEq] at hzero
                have exec : ∀ v w', (Builtin.append_ #[t, t] type #[a.eval x, a.eval y]).run P w = .ok v w' → (execOp a.eval ⟨dst, .call ⟨.builtin .append, #[x, y], #[t, t]⟩, type, pos, after, guard⟩).run P w = .ok (.value v) w' := fun v w' hr => by
                  simp only [execOp, resolve, Sem.run_bind, Sem.run_pure, Result.andThen, invoke, builtin, List.map_toArray, List.map_cons, List.map_nil, hr]
                split at h
                · rename_i cs m hx hy
                  split at h
                  · rename_i hzl
                    simp only [Option.some.injEq, Prod.mk.injEq] at h
                    obtain ⟨rfl, rfl, rfl, rfl⟩ := h
                    have hd1 : decide (0 < m ∧ m ≤ 1000000000 ∧ cs.length = m * it.size) = true := hob (.eq _ _) (by simp)
                    obtain ⟨hm0, hm1, hlen⟩ := of_decide_eq_true hd1
                    have hxv := (plain x _ (by simp [Op.operands, Call.operands]) hx).abs rfl
                    have hyv := (plain y _ (by simp [Op.operands, Call.operands]) hy).abs rfl
                    simp only [Abs] at hxv hyv
                    obtain ⟨ya, cap, news, hyv, hcap, hnw, hor⟩ := hyv
                    obtain ⟨yb, yo, rfl, hyS, hyc⟩ := hor.resolve_left (by omega)
                    have hnl := hnw.length
                    obtain ⟨xa, hxv⟩ := hxv
                    have hr := run_append_nils (P := P) w _ type _ it zv hut hit hzi xa ⟨yb, yo, none⟩ m cap news (by omega) (fun j v hj => by rw [addr_add]; exact hyc j v hj) hm0 (by omega) (by
                      have := Nat.mul_le_mul hm1 hbytes; omega)
                    have hge := grownCap_ge w m 0 el
                    have hz2 : zv.cells.size = it.size := by rw [← hzl, hzero]; simp
                    have mp := append_new (o := ⟨dst, .call ⟨.builtin .append, #[x, y], #[t, t]⟩, type, pos, after, guard⟩) (ι := ι) (n := n) (b := n) (l := 0) (m := m) (cs := cs) (e := el) (olds := []) (news := news) hnm hmu sane (hfresh n (by simp)) hz2 (by simp) (fun j hj => by omega) hnw hlen (by simpa using hge)
                    simp only [Nat.zero_add, Nat.zero_mul, Nat.sub_zero, List.nil_append] at mp
                    refine Oper.wp_value (exec _ _ (by rw [hxv, hyv]; exact hr)) (hnext _ _ ι (fun m => if m = n then some w.heap.size else ρ m) S ?_)
                    simpa using mp
                  · cases h
                · rename_i b l sz' cs m hx hy
                  split at h
                  · rename_i hc
                    obtain ⟨hsz, hpos, hzl⟩ := hc
                    subst hsz
                    simp only [Option.some.injEq, Prod.mk.injEq] at h
                    obtain ⟨rfl, rfl, rfl, rfl⟩ := h
                    have hd1 : decide (0 < l ∧ l + m ≤ 1000000000 ∧ cs.length = m * it.size) = true := hob (.eq _ _) (by simp)
                    obtain ⟨hl0, hm1, hlen⟩ := of_decide_eq_true hd1
                    have hone : cs.all DV.one = true := hob (.eq (cs.all DV.one) true) (by simp)
                    have hkn : ((List.range (l * it.size)).all fun o => (mu b o).isSome) = true := hob (.eq ((List.range (l * it.size)).all fun o => (mu b o).isSome) true) (by simp)
                    have hkn : ∀ j, j < l * it.size → (mu b j).isSome = true := fun j hj => (List.all_eq_true.1 hkn) j (List.mem_range.2 hj)
                    have hxv := (plain x _ (by simp [Op.operands, Call.operands]) hx).abs rfl
                    have hyv := (plain y _ (by simp [Op.operands, Call.operands]) hy).abs rfl
                    simp only [Abs] at hxv hyv
                    obtain ⟨xa, xcap, hxv, hlx, hxor⟩ := hxv
                    obtain ⟨p, hp, rfl, cur, ce, hblk, hfit⟩ := hxor.resolve_left (by omega)
                    rw [Nat.zero_add] at hfit
                    obtain ⟨ya, cap, news, hyv, hcap, hnw, hor⟩ := hyv
                    have hnl := hnw.length
                    have hposl : 0 < l * it.size := Nat.mul_pos hl0 hpos
                    have hz2 : zv.cells.size = it.size := by rw [← hzl, hzero]; simp
                    -- the new elements' address
                    obtain ⟨yaddr, hya, hyc⟩ : ∃ f : Builtin.firstCells it.size m (.slice ya m cap) = Builtin.firstCells it.size m (.slice ya m cap), (∀ w2 : World, (∀ k, k < w.heap.size → w2.heap[k]? = w.heap[k]?) → (Builtin.firstCells it.size m (.slice ya m cap)).run P w2 = .ok news.toArray w2) ∧ True := by
                      refine ⟨rfl, fun w2 hw2 => ?_, trivial⟩
                      rcases hor with h0 | ⟨yb, yo, rfl, hyS, hyc⟩
                      · subst h0
                        have hnn : news = [] := List.eq_nil_of_length_eq_zero (by simpa [hlen] using hnl)
                        subst hnn
                        cases ya with
                        | none => exact run_firstCells_none (P := P) w2 it.size 0 0 cap
                        | some ad => exact run_firstCells_some (P := P) w2 it.size 0 ad 0 cap [] (by simp) (fun j v hj => by simp at hj)
                      · refine run_firstCells_some (P := P) w2 it.size m ⟨yb, yo, none⟩ m cap news (by omega) (fun j v hj => ?_)
                        rw [addr_add]
                        exact (hyc.mono (hw2 yb (sane yb hyS))) j v hj
                    by_cases hroom : l + m ≤ xcap
                    · have hfits : l * it.size + m * it.size ≤ xcap * it.size := by rw [← Nat.add_mul]; exact Nat.mul_le_mul_right _ hroom
                      obtain ⟨w', vs', hr, hh, hv, hk, hs, ho, hta, hou⟩ := run_storeCells (P := P) p (l * it.size) ce news 0 w cur hblk (hnw.oneCell hone) (by omega)
                      rw [Nat.add_zero] at hv
                      have hrun : (Builtin.append_ #[t, t] type #[a.eval x, a.eval y]).run P w = .ok (.slice (some ⟨p, 0, none⟩) (l + m) xcap) w' := by
                        have hf := hya w (fun _ _ => rfl)
                        rw [hxv, hyv]
                        simp [Builtin.append_, run_underlying hut, sizeOf, typeInfo, hit, Builtin.lenOf, hroom, hf, addr_add, hr]
                      exact Oper.wp_value (exec _ _ hrun) (hnext _ _ ι _ S (append_in hnm hmu (hfresh n (by simp)) hp hposl hkn hblk hfit hroom hnw hlen hh hv hk hs ho hta hou))
                    · obtain ⟨olds, hol, hog⟩ := hmu.firstCells hp (l * it.size) 0 (fun j hj => by rw [Nat.zero_add]; exact hkn j hj)
                      have hrun : (Builtin.append_ #[t, t] type #[a.eval x, a.eval y]).run P w = .ok (.slice (some ⟨w.heap.size, 0, none⟩) (l + m) (grownCap w (l + m) xcap el)) (w.drew.alloc (.cells (olds.toArray ++ news.toArray ++ Builtin.zeroCells zv.cells (grownCap w (l + m) xcap el - (l + m))) el)) := by
                        have hf := hya w.drew (fun _ _ => rfl)
                        have hfo := run_firstCells_some (P := P) w.drew it.size l ⟨p, 0, none⟩ l xcap olds hol (fun j v hj => by
                          rw [addr_add, Nat.zero_add]
                          have hlt := (List.getElem?_eq_some_iff.1 hj).1
                          obtain ⟨u, d, h1, _, h3, _⟩ := hog j (by omega)
                          rw [hj] at h1; cases h1
                          rw [Nat.zero_add] at h3
                          exact h3)
                        have h63' : ¬ (9223372036854775807 < ((l : Int) + (m : Int))) := by omega
                        have h48 := growslice_fits (need := l + m) (old := xcap) (bytes := it.bytes) (by omega) (by have := Nat.mul_le_mul hm1 hbytes; omega)
                        have h48' : ¬ (281474976710656 < Builtin.nextslicecap (l + m) xcap * it.bytes) := by omega
                        rw [hxv, hyv]
                        simp [Builtin.append_, run_underlying hut, sizeOf, typeInfo, zeroValue, hit, hzi, Builtin.lenOf, hroom, h63', h48', Question.forced, hf, hfo, newRow, grownCap]
                        exact congrArg (fun x => w.drew.alloc (Obj.cells x el)) (Array.ext' (by simp))
                      have mp := append_new (o := ⟨dst, .call ⟨.builtin .append, #[x, y], #[t, t]⟩, type, pos, after, guard⟩) (ι := ι) (n := n) (b := b) (l := l) (m := m) (cs := cs) (e := el) (olds := olds) (news := news) hnm hmu sane (hfresh n (by simp)) hz2 hol (fun j hj => by
                        obtain ⟨v, d, h1, h2, _, h4⟩ := hog j hj
                        rw [Nat.zero_add] at h2
                        exact ⟨v, d, h1, h2, h4⟩) hnw hlen (grownCap_ge w (l + m) xcap el)
                      exact Oper.wp_value (exec _ _ hrun) (hnext _ _ ι _ S mp)
                  · cases h
                · rename_i b off m sz' hx hy
                  split at h
                  · rename_i hc
                    obtain ⟨hsz, hzl⟩ := hc
                    subst hsz
                    simp only [Option.some.injEq, Prod.mk.injEq] at h
                    obtain ⟨rfl, rfl, rfl, rfl⟩ := h
                    have hd1 : decide (0 < m ∧ m ≤ 1000000000) = true := hob (.eq _ _) (by simp)
                    obtain ⟨hm0, hm1⟩ := of_decide_eq_true hd1
                    have hkn : ((List.range (m * it.size)).all fun o => (mu b (off + o)).isSome) = true := hob (.eq ((List.range (m * it.size)).all fun o => (mu b (off + o)).isSome) true) (by simp)
                    have hkn : ∀ j, j < m * it.size → (mu b (off + j)).isSome = true := fun j hj => (List.all_eq_true.1 hkn) j (List.mem_range.2 hj)
                    have hxv := (plain x _ (by simp [Op.operands, Call.operands]) hx).abs rfl
                    have hyv := (plain y _ (by simp [Op.operands, Call.operands]) hy).abs rfl
                    simp only [Abs] at hxv hyv
                    obtain ⟨xa, hxv⟩ := hxv
                    obtain ⟨ya, cap, hyv, hcap, hor⟩ := hyv
                    obtain ⟨p, hp, rfl, cur, ce, hblk, hfit⟩ := hor.resolve_left (by omega)
                    obtain ⟨news, hnl, hng⟩ := hmu.firstCells hp (m * it.size) off hkn
                    have hnw : AbsL ρ S w (rowOf mu b off (m * it.size)) news := .of_get (by simp [rowOf, hnl]) fun j d v hd hv => by
                      have hlt : j < m * it.size := by have := (List.getElem?_eq_some_iff.1 hv).1; omega
                      obtain ⟨u, d', h1, h2, _, h4⟩ := hng j hlt
                      rw [hv] at h1; cases h1
                      simp only [rowOf, List.getElem?_map, List.getElem?_range hlt, Option.map_some, h2, Option.getD_some, Option.some.injEq] at hd
                      subst hd; exact h4
                    have hr := run_append_nils (P := P) w _ type _ it zv hut hit hzi xa ⟨p, off, none⟩ m cap news hnl (fun j v hj => by
                      have hlt : j < m * it.size := by have := (List.getElem?_eq_some_iff.1 hj).1; omega
                      obtain ⟨u, d', h1, _, h3, _⟩ := hng j hlt
                      rw [hj] at h1; cases h1
                      rw [addr_add]; exact h3) hm0 (by omega) (by have := Nat.mul_le_mul hm1 hbytes; omega)
                    have hge := grownCap_ge w m 0 el
                    have hz2 : zv.cells.size = it.size := by rw [← hzl, hzero]; simp
                    have mp := append_new (o := ⟨dst, .call ⟨.builtin .append, #[x, y], #[t, t]⟩, type, pos, after, guard⟩) (ι := ι) (n := n) (b := n) (l := 0) (m := m) (cs := rowOf mu b off (m * it.size)) (e := el) (olds := []) (news := news) hnm hmu sane (hfresh n (by simp)) hz2 (by simp) (fun j hj => by omega) hnw (by simp [rowOf]) (by simpa using hge)
                    simp only [Nat.zero_add, Nat.zero_mul, Nat.sub_zero, List.nil_append] at mp
                    refine Oper.wp_value (exec _ _ (by rw [hxv, hyv]; exact hr)) (hnext _ _ ι (fun m => if m = n then some w.heap.size else ρ m) S ?_)
                    simpa using mp
                  · cases h
                · cases h
              · cases h
            · cases h
          · cases h
        · cases h
      split at h
      · rename_i x _ _ _ _ el _ _ _ _ _ _ _ hxs hts
        split at h
        · rename_i cs n hx
          obtain ⟨hd, rfl, rfl, rfl⟩ := done _ h
          cases hd
          simp only [Option.bind_eq_some_iff] at hts
          obtain ⟨t, ht0, hts⟩ := hts
          obtain ⟨_, ut, _, hut, _, _, _, _, hel, _⟩ := tiOf_spec (hT _ _ hts)
          simp only at hel
          cases ut <;> simp only [] at hel <;> first | (cases hel; done) | skip
          have hmem : x ∈ args := by rw [← Array.mem_toList_iff, hxs]; simp
          have hv := (plain x _ (by simp only [Op.operands, Call.operands, Array.mem_append]; right; exact hmem) hx).abs rfl
          simp only [Abs] at hv
          obtain ⟨ad, cap, vs, hv, _⟩ := hv
          have harr : args = #[x] := by apply Array.ext'; simpa using hxs
          subst harr
          exact fin (.int .i64 n) (by
            simp only [execOp, resolve, Sem.run_bind, Sem.run_pure, Result.andThen, invoke, builtin, Builtin.len_, ht0, List.map_toArray, List.map_cons, List.map_nil, hv]
            simp [ht0, run_under hut, Sem.run_bind, Sem.run_pure, Result.andThen, hv, goInt]) rfl rfl (by simp only [TAbs, Abs])
        · rename_i b off n sz hx
          obtain ⟨hd, rfl, rfl, rfl⟩ := done _ h
          cases hd
          simp only [Option.bind_eq_some_iff] at hts
          obtain ⟨t, ht0, hts⟩ := hts
          obtain ⟨_, ut, _, hut, _, _, _, _, hel, _⟩ := tiOf_spec (hT _ _ hts)
          simp only at hel
          cases ut <;> simp only [] at hel <;> first | (cases hel; done) | skip
          have hmem : x ∈ args := by rw [← Array.mem_toList_iff, hxs]; simp
          have hv := (plain x _ (by simp only [Op.operands, Call.operands, Array.mem_append]; right; exact hmem) hx).abs rfl
          simp only [Abs] at hv
          obtain ⟨_, cap, hv, _⟩ := hv
          have harr : args = #[x] := by apply Array.ext'; simpa using hxs
          subst harr
          exact fin (.int .i64 n) (by
            simp only [execOp, resolve, Sem.run_bind, Sem.run_pure, Result.andThen, invoke, builtin, Builtin.len_, ht0, List.map_toArray, List.map_cons, List.map_nil, hv]
            simp [ht0, run_under hut, Sem.run_bind, Sem.run_pure, Result.andThen, hv, goInt]) rfl rfl (by simp only [TAbs, Abs])
        · rename_i hx
          obtain ⟨hd, rfl, rfl, rfl⟩ := done _ h
          cases hd
          simp only [Option.bind_eq_some_iff] at hts
          obtain ⟨t, ht0, hts⟩ := hts
          obtain ⟨_, ut, _, hut, _, _, _, _, hel, _⟩ := tiOf_spec (hT _ _ hts)
          simp only at hel
          cases ut <;> simp only [] at hel <;> first | (cases hel; done) | skip
          have hmem : x ∈ args := by rw [← Array.mem_toList_iff, hxs]; simp
          have hv := (plain x _ (by simp only [Op.operands, Call.operands, Array.mem_append]; right; exact hmem) hx).abs rfl
          simp only [Abs] at hv
          obtain ⟨na, hv⟩ := hv
          have harr : args = #[x] := by apply Array.ext'; simpa using hxs
          subst harr
          exact fin (.int .i64 0) (by
            simp only [execOp, resolve, Sem.run_bind, Sem.run_pure, Result.andThen, invoke, builtin, Builtin.len_, ht0, List.map_toArray, List.map_cons, List.map_nil, hv]
            simp [ht0, run_under hut, Sem.run_bind, Sem.run_pure, Result.andThen, hv, goInt]) rfl rfl (by simp only [TAbs, Abs])
        · cases h
      · rename_i x _ _ _ _ _ _ _ _ _ _ _ hxs hts
        split at h
        · rename_i sb hx
          obtain ⟨hd, rfl, rfl, rfl⟩ := done _ h
          cases hd
          simp only [Option.bind_eq_some_iff] at hts
          obtain ⟨t, ht0, hts⟩ := hts
          have hu := tiOf_str (hT _ _ hts) rfl rfl
          have hmem : x ∈ args := by rw [← Array.mem_toList_iff, hxs]; simp
          have hv := (plain x _ (by simp only [Op.operands, Call.operands, Array.mem_append]; right; exact hmem) hx).abs rfl
          simp only [Abs] at hv
          have harr : args = #[x] := by apply Array.ext'; simpa using hxs
          subst harr
          exact fin (.int .i64 (lenS sb)) (by
            simp only [execOp, resolve, Sem.run_bind, Sem.run_pure, Result.andThen, invoke, builtin, Builtin.len_, ht0, List.map_toArray, List.map_cons, List.map_nil, hv]
            simp [ht0, run_under hu, Sem.run_bind, Sem.run_pure, Result.andThen, hv, goInt, lenS_eq]) rfl rfl (by simp only [TAbs, Abs])
        · cases h
      · cases h
end
end Go.Proofs.YtehihnapbpcfbaaGreat.Fun
