/- (First part.) One operation that writes no variable, whole. -/
import Derived.Test.YtpckjfncecoibaaGreatFunEq
import Derived.Laws.BytesString
import Derived.Lib.SliceRun
namespace Go.Proofs.YtpckjfncecoibaaGreat.Fun
open Go
set_option linter.unusedSimpArgs false
set_option linter.unusedVariables false
section
variable {P : Program} {T : TypeId → Option TI}

theorem evPairs_get {ev : Operand → Option DV} : ∀ {xs : List (Nat × Operand)} {ds : List (Nat × DV)}, evPairs ev xs = some ds → ds.length = xs.length ∧ ∀ (k i : Nat) (d : DV), ds[k]? = some (i, d) → ∃ x, xs[k]? = some (i, x) ∧ ev x = some d
  | [], ds, h => by simp only [evPairs, Option.some.injEq] at h; subst h; exact ⟨rfl, fun k i d hd => by simp at hd⟩
  | (i, x) :: xs, ds, h => by
    simp only [evPairs] at h
    split at h
    · rename_i d es hx hes
      cases h
      obtain ⟨hl, hg⟩ := evPairs_get hes
      refine ⟨by simp [hl], fun k j e he => ?_⟩
      cases k with
      | zero => simp at he; obtain ⟨rfl, rfl⟩ := he; exact ⟨x, rfl, hx⟩
      | succ k => exact hg k j e (by simpa using he)
    · cases h

theorem Post.monoPost {ι ρ ρ' : Nat → Option Nat} {S : Nat → Prop} {mu : Mu} {w w' : World} {S' : Nat → Prop} {o : Oper} {d : DV} {m : Option Mu} {fresh : List Nat} {dirty : Bool} {v : Value} (h : Post S (Dom ρ mu) w w' S' dirty)
    (hn : Named ρ' (m.getD mu) w') (hg : Ext ρ w ρ' w') (hb : ∀ n b, ρ' n = some b → ρ n = some b ∨ n ∈ fresh)
    (hm : MuOk ρ' S' w' (m.getD mu)) (hd : ∀ b, Dom ρ' (m.getD mu) b → Dom ρ mu b ∨ w.heap.size ≤ b) (hv : Abs ρ' S' w' d v) : MonoPost ι ρ S mu w o d { mu := m, use := fresh } dirty v w' ι ρ' S' :=
  ⟨h.os, h.tape, h.output, h.size, h.old, h.clean, h.up, fun b hb => (h.from_ b hb).imp id .inl, TAbs.of_abs hv, hm, hd, fun _ => rfl, fun _ h => by simp at h, hn, hg, hb, fun _ h => by simp at h⟩

def toV : DV → Value
  | .int k n => .int k n
  | .bool b => .bool b
  | .str s => .string s
  | _ => undef
theorem binInt_run {op : BinOp} {k : IntKind} {x y : Int} {d : DV} (h : binInt op k x y = some d) (t : TypeId) (w : World) :
    (binOp op t (.int k x) (.int k y)).run P w = .ok (toV d) w ∧ ∀ ρ S, Abs ρ S w d (toV d) := by
  cases op <;> simp only [binInt, Option.some.injEq] at h <;> first | (cases h; done) | skip
  case quo => split at h <;> first | (cases h; done) | (rename_i hy; cases h; exact ⟨by simp only [binOp, ne_eq, not_true_eq_false, if_false, Op.intDiv, if_neg hy]; rfl, fun ρ S => by simp only [Abs, toV]⟩)
  case rem => split at h <;> first | (cases h; done) | (rename_i hy; cases h; exact ⟨by simp only [binOp, ne_eq, not_true_eq_false, if_false, Op.intDiv, if_neg hy]; rfl, fun ρ S => by simp only [Abs, toV]⟩)
  all_goals (subst h; exact ⟨by simp only [binOp, ne_eq, not_true_eq_false, if_false]; rfl, fun ρ S => by simp only [Abs, toV]⟩)
theorem shift_run {op : BinOp} {k k' : IntKind} {x n : Int} {d : DV} (hn : 0 ≤ n) (h : shiftBy op k x n.toNat = some d) (t : TypeId) (w : World) :
    (binOp op t (.int k x) (.int k' n)).run P w = .ok (toV d) w ∧ ∀ ρ S, Abs ρ S w d (toV d) := by
  cases op <;> simp only [shiftBy, Option.some.injEq] at h <;> first | (cases h; done) | skip
  all_goals
    subst h
    refine ⟨?_, fun ρ S => by simp only [Abs, toV]⟩
    simp only [binOp, Op.shift]
    rw [if_neg (by omega)]
    rfl
theorem equal_bool {t : TypeId} (hu : P.underlying t = some .bool) (a b : Bool) (w : World) : (Op.equal t (.bool a) (.bool b)).run P w = .ok (a == b) w := by
  rw [Op.equal, show Op.maxDepth = 9999 + 1 from rfl, Op.equalIn]
  simp only [Sem.run_bind, run_under hu, Result.andThen]
  rfl
theorem equal_ptr {t e : TypeId} (hu : P.underlying t = some (.pointer e)) (a : Addr) (w : World) : (Op.equal t (.pointer (some a)) (.pointer none)).run P w = .ok false w := by
  rw [Op.equal, show Op.maxDepth = 9999 + 1 from rfl, Op.equalIn]
  simp only [Sem.run_bind, run_under hu, Result.andThen]
  rfl
theorem equal_nil {t e : TypeId} (hu : P.underlying t = some (.pointer e)) (w : World) : (Op.equal t (.pointer none) (.pointer none)).run P w = .ok true w := by
  rw [Op.equal, show Op.maxDepth = 9999 + 1 from rfl, Op.equalIn]
  simp only [Sem.run_bind, run_under hu, Result.andThen]
  rfl
theorem equal_fun {t : TypeId} {ps rs : Array TypeId} {b : Bool} (hu : P.underlying t = some (.func ps rs b)) {f : Fn} {as cs : Array Value} (w : World) : (Op.equal t (.func f as cs) .nilFunc).run P w = .ok false w := by
  rw [Op.equal, show Op.maxDepth = 9999 + 1 from rfl, Op.equalIn]
  simp only [Sem.run_bind, run_under hu, Result.andThen]
  rfl
theorem equal_nilf {t : TypeId} {ps rs : Array TypeId} {b : Bool} (hu : P.underlying t = some (.func ps rs b)) (w : World) : (Op.equal t .nilFunc .nilFunc).run P w = .ok true w := by
  rw [Op.equal, show Op.maxDepth = 9999 + 1 from rfl, Op.equalIn]
  simp only [Sem.run_bind, run_under hu, Result.andThen]
  rfl
theorem tiOf_fun {t : TypeId} {ti : TI} (h : tiOf P t = some ti) (ha : ti.agg = false) (hc : ti.cmp = some [9]) : ∃ ps rs b, P.underlying t = some (.func ps rs b) := by
  unfold tiOf at h
  split at h
  · rename_i i u hi hu
    cases h
    simp only at ha hc
    rw [show (8 : Nat) = 7 + 1 from rfl, cmpOf] at hc
    simp only [hi, hu] at hc
    cases u <;> simp only [isAggD, clsOf] at ha hc <;> first | (cases ha; done) | exact ⟨_, _, _, hu⟩ | (simp at hc; done) | (split at hc <;> first | (cases hc; done) | (split at hc <;> first | (cases hc; done) | simp at hc))
  · cases h
theorem eqGuard_any {op : BinOp} {t : TypeId} {x y : Operand} {a b : Value} {w : World} (h : ∀ cs, a ≠ .agg cs) (h' : a ≠ .nilIface) : (eqGuard op t x y a b).run P w = .ok () w := by
  cases op <;> first | rfl | (cases a <;> first | rfl | (exact absurd rfl (h _)) | (exact absurd rfl h'))
theorem lenS_eq (s : ByteArray) : lenS s = s.size := by unfold lenS; exact Array.length_toList
theorem joinS_eq (s t : ByteArray) : joinS s t = s ++ t := by
  unfold joinS
  apply ByteArray.ext
  apply Array.ext'
  simp
theorem binD_spec (hT : ∀ t ti, T t = some ti → tiOf P t = some ti) {ev : Operand → Option DV} {op : BinOp} {t : TypeId} {x y : Operand} {d : DV} (h : binD T ev op t x y = some d) :
    ∃ dx dy, ev x = some dx ∧ dx.noLoc = true ∧ dy.noLoc = true ∧ (ev y = some dy ∨ ∃ v, y = .const v ∧ dy = .any ∧ (∃ k n, v = .int k n)) ∧ ∀ (vx vy : Value) (ρ : Nat → Option Nat) (S : Nat → Prop) (w : World), Abs ρ S w dx vx → (ev y = some dy → Abs ρ S w dy vy) → (∀ v, y = .const v → vy = v) →
      (eqGuard op t x y vx vy).run P w = .ok () w ∧ (binOp op t vx vy).run P w = .ok (toV d) w ∧ ∀ ρ S, Abs ρ S w d (toV d) := by
  unfold binD at h
  by_cases hs : isShift op = true
  · rw [if_pos hs] at h
    split at h
    · rename_i k m k' n hx hy
      split at h
      · rename_i h0
        refine ⟨_, _, hx, rfl, rfl, .inl hy, fun vx vy ρ S w hvx hvy _ => ?_⟩
        have hvy := hvy hy
        simp only [Abs] at hvx hvy
        subst hvx; subst hvy
        exact ⟨eqGuard_any (fun _ h => (by cases h)) (fun h => (by cases h)), shift_run h0 h t w⟩
      · cases h
    · cases h
  · rw [if_neg hs] at h
    split at h
    · rename_i k m k' n hx hy
      split at h
      · rename_i hk
        subst hk
        refine ⟨_, _, hx, rfl, rfl, .inl hy, fun vx vy ρ S w hvx hvy _ => ?_⟩
        have hvy := hvy hy
        simp only [Abs] at hvx hvy
        subst hvx; subst hvy
        exact ⟨eqGuard_any (fun _ h => (by cases h)) (fun h => (by cases h)), binInt_run h t w⟩
      · cases h
    · rename_i a b hx hy
      refine ⟨_, _, hx, rfl, rfl, .inl hy, fun vx vy ρ S w hvx hvy _ => ?_⟩
      have hvy := hvy hy
      simp only [Abs] at hvx hvy
      subst hvx; subst hvy
      refine ⟨eqGuard_any (fun _ h => (by cases h)) (fun h => (by cases h)), ?_⟩
      split at h <;> first | (cases h; done) | skip
      all_goals
        rename_i ht
        obtain ⟨_, u, _, hu, _, _, _, _, _, _, _, hb, _⟩ := tiOf_spec (hT _ _ ht)
        simp only at hb
        cases u <;> simp only [] at hb <;> first | (cases hb; done) | skip
        cases h
        exact ⟨by simp only [binOp, Sem.run_bind, equal_bool hu, Result.andThen, Sem.run_pure]; rfl, fun ρ S => by simp only [Abs, toV]⟩
    · rename_i b off hx hy
      refine ⟨_, _, hx, rfl, rfl, .inl hy, fun vx vy ρ S w hvx hvy _ => ?_⟩
      have hvy := hvy hy
      simp only [Abs] at hvx hvy
      obtain ⟨p, _, rfl⟩ := hvx; subst hvy
      refine ⟨eqGuard_any (fun _ h => (by cases h)) (fun h => (by cases h)), ?_⟩
      split at h <;> first | (cases h; done) | skip
      all_goals
        rename_i ht
        obtain ⟨_, u, _, hu, _, _, _, _, _, _, hb, _⟩ := tiOf_spec (hT _ _ ht)
        simp only at hb
        cases u <;> simp only [] at hb <;> first | (cases hb; done) | skip
        cases h
        exact ⟨by simp only [binOp, Sem.run_bind, equal_ptr hu, Result.andThen, Sem.run_pure]; rfl, fun ρ S => by simp only [Abs, toV]⟩
    · rename_i hx hy
      refine ⟨_, _, hx, rfl, rfl, .inl hy, fun vx vy ρ S w hvx hvy _ => ?_⟩
      have hvy := hvy hy
      simp only [Abs] at hvx hvy
      subst hvx; subst hvy
      refine ⟨eqGuard_any (fun _ h => (by cases h)) (fun h => (by cases h)), ?_⟩
      split at h <;> first | (cases h; done) | skip
      all_goals
        rename_i ht
        obtain ⟨_, u, _, hu, _, _, _, _, _, _, hb, _⟩ := tiOf_spec (hT _ _ ht)
        simp only at hb
        cases u <;> simp only [] at hb <;> first | (cases hb; done) | skip
        cases h
        exact ⟨by simp only [binOp, Sem.run_bind, equal_nil hu, Result.andThen, Sem.run_pure]; rfl, fun ρ S => by simp only [Abs, toV]⟩
    · rename_i g gs hx hy
      refine ⟨_, _, hx, rfl, rfl, .inl hy, fun vx vy ρ S w hvx hvy _ => ?_⟩
      have hvy := hvy hy
      simp only [Abs] at hvx hvy
      obtain ⟨vs, rfl, _⟩ := hvx; subst hvy
      refine ⟨eqGuard_any (fun _ h => (by cases h)) (fun h => (by cases h)), ?_⟩
      split at h <;> first | (cases h; done) | skip
      all_goals
        rename_i ht
        obtain ⟨_, _, _, hu⟩ := tiOf_fun (hT _ _ ht) rfl rfl
        cases h
        exact ⟨by simp only [binOp, Sem.run_bind, equal_fun hu, Result.andThen, Sem.run_pure]; rfl, fun ρ S => by simp only [Abs, toV]⟩
    · rename_i hx hy
      refine ⟨_, _, hx, rfl, rfl, .inl hy, fun vx vy ρ S w hvx hvy _ => ?_⟩
      have hvy := hvy hy
      simp only [Abs] at hvx hvy
      subst hvx; subst hvy
      refine ⟨eqGuard_any (fun _ h => (by cases h)) (fun h => (by cases h)), ?_⟩
      split at h <;> first | (cases h; done) | skip
      all_goals
        rename_i ht
        obtain ⟨_, _, _, hu⟩ := tiOf_fun (hT _ _ ht) rfl rfl
        cases h
        exact ⟨by simp only [binOp, Sem.run_bind, equal_nilf hu, Result.andThen, Sem.run_pure]; rfl, fun ρ S => by simp only [Abs, toV]⟩
    · rename_i a b hx hy
      refine ⟨_, _, hx, rfl, rfl, .inl hy, fun vx vy ρ S w hvx hvy _ => ?_⟩
      have hvy := hvy hy
      simp only [Abs] at hvx hvy
      subst hvx; subst hvy
      refine ⟨eqGuard_any (fun _ h => (by cases h)) (fun h => (by cases h)), ?_⟩
      split at h <;> first | (cases h; done) | skip
      case' h_1 =>
        split at h <;> first | (cases h; done) | skip
        rename_i hle
        cases h
        refine ⟨?_, fun ρ S => by simp only [Abs, toV]⟩
        rw [lenS_eq, lenS_eq] at hle
        simp only [binOp, Op.stringOp, joinS_eq, toV]
        rw [if_neg (by simp only [IntKind.max, IntKind.signed, IntKind.bits]; simp; omega)]
        rfl
      all_goals
        cases h
        exact ⟨by simp only [binOp, Op.stringOp, strEq_spec, Sem.run_pure]; rfl, fun ρ S => by simp only [Abs, toV]⟩
    · rename_i xs ys hx hy
      refine ⟨_, _, hx, rfl, rfl, .inl hy, fun vx vy ρ S w hvx hvy _ => ?_⟩
      have hvy := hvy hy
      simp only [Abs] at hvx hvy
      obtain ⟨vs, rfl, hvs⟩ := hvx
      obtain ⟨us, rfl, hus⟩ := hvy
      split at h <;> first | (cases h; done) | skip
      all_goals
        rename_i ht
        obtain ⟨i0, u, hi0, hu, _, hag, _, _, _, _, _, _, _, _, _, hcmp, _⟩ := tiOf_spec (hT _ _ ht)
        simp only at hcmp hag
        rw [show clsOf u (if P.eqGuardType P.depth t then none else cmpOf P 8 t) = (if P.eqGuardType P.depth t then none else cmpOf P 8 t) by
          clear h hcmp
          cases u <;> first | rfl | (simp [isAggD] at hag)] at hcmp
        simp only [Option.map_eq_some_iff] at h
        obtain ⟨r, hr, rfl⟩ := h
        split at hcmp
        · cases hcmp
        · rename_i hg
          obtain ⟨i, u', hi, hu', _, hrun, _⟩ := cmp_run 8 9992 t _ hcmp.symm ρ S w xs ys r vs us hvs hus hr
          rw [hu] at hu'; cases hu'
          have hrun := hrun hag.symm
          refine ⟨run_eqGuard_agg w _ t x y _ _ (by simpa using hg), ?_, fun ρ S => by simp only [Abs, toV]⟩
          first
          | (rw [run_eql_struct, hrun]; rfl)
          | (rw [run_neq_struct, hrun]; rfl)
    · cases h
/-- Loads of others' cells. -/
theorem cellObs_get {mu : Mu} {b : Nat} : ∀ {ds : List DV} {off : Nat}, (∀ x ∈ cellObs mu b off ds, x.ok P) → ∀ (j : Nat) (d : DV), ds[j]? = some d → mu b (off + j) = some d
  | [], _, _, j, d, h => by simp at h
  | e :: ds, off, hob, 0, d, h => by
    simp at h; subst h
    exact hob (.part (mu b off) e) (by simp [cellObs])
  | e :: ds, off, hob, j + 1, d, h => by
    have := cellObs_get (ds := ds) (off := off + 1) (fun x hx => hob x (List.mem_cons_of_mem _ hx)) j d (by simpa using h)
    rw [← this]; congr 1; omega
theorem MuOk.row {ρ : Nat → Option Nat} {S : Nat → Prop} {w : World} {mu : Mu} (h : MuOk ρ S w mu) {b p : Nat} (hp : ρ b = some p) : ∀ {ds : List DV} {off : Nat}, (ds.all DV.plain = true ∨ ∃ vs e fz, w.heap[p]? = some (.cells vs e fz)) → (∀ (j : Nat) (d : DV), ds[j]? = some d → mu b (off + j) = some d) → ∃ vs, CellsAt w p off vs ∧ AbsL ρ S w ds vs
  | [], off, _, _ => ⟨[], fun j u hj => by simp at hj, .nil⟩
  | d :: ds, off, hpl, hg => by
    obtain ⟨p', hp', _, hl⟩ := h b off d (by simpa using hg 0 d rfl)
    rw [hp] at hp'; cases hp'
    obtain ⟨_, v, hv, ha⟩ : w.frozen? ⟨p, off, none⟩ = false ∧ ∃ v, w.cell? ⟨p, off, none⟩ = some v ∧ Abs ρ S w d v := hpl.elim (fun q => hl.cell ((List.all_eq_true.1 q) d (List.mem_cons_self ..))) (fun ⟨_, _, _, q⟩ => hl.cell_in q)
    have hpl' : ds.all DV.plain = true ∨ ∃ vs e fz, w.heap[p]? = some (.cells vs e fz) := hpl.imp (fun q => by rw [List.all_cons, Bool.and_eq_true] at q; exact q.2) id
    obtain ⟨vs, hc, hab⟩ := MuOk.row h hp (ds := ds) (off := off + 1) hpl' (fun j e he => by have := hg (j + 1) e (by simpa using he); rwa [show off + (j + 1) = off + 1 + j by omega] at this)
    refine ⟨v :: vs, fun j u hj => ?_, .cons ha hab⟩
    cases j with
    | zero => simp at hj; subst hj; simpa using hv
    | succ j => have := hc j u (by simpa using hj); rwa [show off + 1 + j = off + (j + 1) by omega] at this

theorem eqGuard_run {op : BinOp} {t : TypeId} {x y : Operand} {k k' : IntKind} {a b : Int} {w : World} : (eqGuard op t x y (.int k a) (.int k' b)).run P w = .ok () w := by
  cases op <;> rfl

theorem slice_run {ρ : Nat → Option Nat} {t e : TypeId} {te : TI} {i : TypeInfo} (hu : P.underlying t = some (.slice e)) (hi : P.info? e = some i) {w : World} {S : Nat → Prop} {cs : List DV} {n : Nat} {v : Value} {k : IntKind} {l : Int}
    (hv : Abs ρ S w (.slice cs n) v) (h0 : 0 ≤ l) (h1 : l ≤ n) :
    ∃ u, (Instr.sliceAt t v (some (.int k l)) none none).run P w = .ok u w ∧ Abs ρ S w (.slice (cs.drop (l.toNat * i.size)) (n - l.toNat)) u := by
  simp only [Abs] at hv
  obtain ⟨a, cap, vs, rfl, hcap, hab, hor⟩ := hv
  have hb : (Instr.sliceBounds true n cap (some (.int k l)) none none).run P w = .ok (l.toNat, n, cap) w := by
    simp only [Instr.sliceBounds, Instr.sliceBound, asIntOf, Sem.run_bind, Sem.run_pure, Result.andThen]
    rw [if_pos ⟨h0, h1⟩]
    simp only [Sem.run_pure, Result.andThen]
  refine ⟨_, by simp only [Instr.sliceAt, Sem.run_bind, run_under hu, Result.andThen, Instr.slice, hb, run_size hi, Sem.run_pure]; rfl, ?_⟩
  simp only [Abs]
  refine ⟨_, _, vs.drop (l.toNat * i.size), rfl, by omega, hab.drop _, ?_⟩
  rcases hor with h0 | ⟨b, off, rfl, hb, hc⟩
  · left; omega
  · by_cases hz : n - l.toNat = 0
    · exact .inl hz
    · right
      rw [if_neg (by omega)]
      refine ⟨b, off + l.toNat * i.size, by simp [addr_add], hb, hc.drop _⟩

theorem slice_run2 {ρ : Nat → Option Nat} {t e : TypeId} {i : TypeInfo} (hu : P.underlying t = some (.slice e)) (hi : P.info? e = some i) {w : World} {S : Nat → Prop} {cs : List DV} {n : Nat} {v : Value} {lo hh mx : Option Value} {l h m : Int}
    (hv : Abs ρ S w (.slice cs n) v) (hl : lo = none ∧ l = 0 ∨ ∃ k, lo = some (.int k l)) (he : ∃ k, hh = some (.int k h)) (hm : mx = none ∧ m = h ∨ ∃ k, mx = some (.int k m)) (h0 : 0 ≤ l) (h1 : l ≤ h) (h2 : h ≤ m) (h3 : m ≤ n) :
    ∃ u, (Instr.sliceAt t v lo hh mx).run P w = .ok u w ∧ Abs ρ S w (.slice (cs.drop (l.toNat * i.size)) (h.toNat - l.toNat)) u := by
  simp only [Abs] at hv
  obtain ⟨a, cap, vs, rfl, hcap, hab, hor⟩ := hv
  obtain ⟨kh, rfl⟩ := he
  have hb : ∃ M : Nat, h ≤ (M : Int) ∧ (Instr.sliceBounds true n cap lo (some (.int kh h)) mx).run P w = .ok (l.toNat, h.toNat, M) w := by
    rcases hm with ⟨rfl, rfl⟩ | ⟨km, rfl⟩
    · refine ⟨cap, by omega, ?_⟩
      rcases hl with ⟨rfl, rfl⟩ | ⟨kl, rfl⟩
      · simp only [Instr.sliceBounds, Instr.sliceBound, asIntOf, Sem.run_bind, Sem.run_pure, Result.andThen]
        rw [if_pos ⟨by omega, by omega⟩]
        simp only [Sem.run_pure, Result.andThen]; rfl
      · simp only [Instr.sliceBounds, Instr.sliceBound, asIntOf, Sem.run_bind, Sem.run_pure, Result.andThen]
        rw [if_pos ⟨by omega, by omega⟩]
        simp only [Sem.run_pure, Result.andThen]
        rw [if_pos ⟨by omega, by omega⟩]
        simp only [Sem.run_pure, Result.andThen]
    · refine ⟨m.toNat, by omega, ?_⟩
      rcases hl with ⟨rfl, rfl⟩ | ⟨kl, rfl⟩
      · simp only [Instr.sliceBounds, Instr.sliceBound, asIntOf, Sem.run_bind, Sem.run_pure, Result.andThen]
        rw [if_pos ⟨by omega, by omega⟩]
        simp only [Sem.run_pure, Result.andThen]
        rw [if_pos ⟨by omega, by omega⟩]
        simp only [Sem.run_pure, Result.andThen]; rfl
      · simp only [Instr.sliceBounds, Instr.sliceBound, asIntOf, Sem.run_bind, Sem.run_pure, Result.andThen]
        rw [if_pos ⟨by omega, by omega⟩]
        simp only [Sem.run_pure, Result.andThen]
        rw [if_pos ⟨by omega, by omega⟩]
        simp only [Sem.run_pure, Result.andThen]
        rw [if_pos ⟨by omega, by omega⟩]
        simp only [Sem.run_pure, Result.andThen]
  obtain ⟨M, hM, hb⟩ := hb
  refine ⟨_, by simp only [Instr.sliceAt, Sem.run_bind, run_under hu, Result.andThen, Instr.slice, hb, run_size hi, Sem.run_pure]; rfl, ?_⟩
  simp only [Abs]
  refine ⟨_, _, vs.drop (l.toNat * i.size), rfl, by omega, hab.drop _, ?_⟩
  rcases hor with h0 | ⟨b, off, rfl, hb, hc⟩
  · left; omega
  · by_cases hz : h.toNat - l.toNat = 0
    · exact .inl hz
    · right
      rw [if_neg (by omega)]
      refine ⟨b, off + l.toNat * i.size, by simp [addr_add], hb, hc.drop _⟩
theorem sliceF_spec {T : TypeId → Option TI} {ev : Operand → Option DV} {t : TypeId} {x : Operand} {lo hi mx : Option Operand} {d : DV} (hs : sliceF T ev t x lo hi mx = some (d, true)) :
    ∃ ti e te y cs n l k h m, hi = some y ∧ T t = some ti ∧ ti.elem = some e ∧ ev x = some (.slice cs n) ∧ T e = some te ∧ boundD ev 0 lo = some l ∧ ev y = some (.int k h) ∧ maxD ev h mx = some m ∧
      d = .slice (cs.drop (l.toNat * te.size)) (h.toNat - l.toNat) ∧ 0 ≤ l ∧ l ≤ h ∧ h ≤ m ∧ m ≤ (n : Int) := by
  unfold sliceF at hs
  split at hs
  · rename_i y e cs n he hx
    split at hs
    · rename_i te l k h hte hl hy
      split at hs
      · rename_i m hm
        simp only [Option.some.injEq, Prod.mk.injEq, decide_eq_true_eq] at hs
        obtain ⟨rfl, h1, h2, h3, h4⟩ := hs
        cases ht : T t with
        | none => rw [ht] at he; cases he
        | some ti =>
          rw [ht] at he
          exact ⟨ti, e, te, y, cs, n, l, k, h, m, rfl, rfl, he, hx, hte, hl, hy, hm, rfl, h1, h2, h3, h4⟩
      · cases hs
    · cases hs
  · cases hs
theorem sliceV_spec {T : TypeId → Option TI} {ev : Operand → Option DV} {t : TypeId} {x : Operand} {lo hi mx : Option Operand} {d : DV} (hs : sliceV T ev t x lo hi mx = some (d, true)) :
    ∃ ti e te b off n l h, mx = none ∧ T t = some ti ∧ ti.elem = some e ∧ ev x = some (.vec b off n te.size) ∧ T e = some te ∧ boundD ev 0 lo = some l ∧ boundD ev n hi = some h ∧
      d = .vec b (off + l.toNat * te.size) (h.toNat - l.toNat) te.size ∧ 0 ≤ l ∧ l ≤ h ∧ h ≤ (n : Int) := by
  cases mx with
  | some m => simp [sliceV] at hs
  | none =>
  cases ht : T t with
  | none => simp [sliceV, ht] at hs
  | some ti =>
  cases hx : ev x with
  | none => simp [sliceV, ht, hx] at hs
  | some dx =>
  cases dx <;> (try (simp [sliceV, ht, hx] at hs; done))
  rename_i b off n sz
  cases he : ti.elem with
  | none => obtain ⟨_, _, _, _, elem, _⟩ := ti; simp only at he; subst he; simp [sliceV, ht, hx] at hs
  | some e =>
  obtain ⟨a1, a2, a3, a4, elem, a6, a7, a8, a9, a10, a11, a12⟩ := ti
  simp only at he
  subst he
  simp only [sliceV, ht, hx] at hs
  cases hte : T e with
  | none => simp [hte] at hs
  | some te =>
  cases hl : boundD ev 0 lo with
  | none => simp [hte, hl] at hs
  | some l =>
  cases hh : boundD ev n hi with
  | none => simp [hte, hl, hh] at hs
  | some h =>
  simp only [hte, hl, hh] at hs
  by_cases hz : te.size = sz
  · subst hz
    rw [if_pos rfl] at hs
    simp only [Option.some.injEq, Prod.mk.injEq, decide_eq_true_eq] at hs
    obtain ⟨rfl, h0, h1, h2⟩ := hs
    exact ⟨_, e, te, b, off, n, l, h, rfl, rfl, rfl, rfl, hte, rfl, hh, rfl, h0, h1, h2⟩
  · rw [if_neg hz] at hs; cases hs
theorem tiOf_arr {t : TypeId} {ti : TI} (h : tiOf P t = some ti) {m : Nat} {e : TypeId} (ha : ti.arr = some (m, e)) {u : TypeDesc} (hu : P.underlying t = some u) : u = .array m e := by
  unfold tiOf at h
  rw [hu] at h
  split at h
  · rename_i i u' _ hu'
    cases hu'
    cases h
    simp only at ha
    cases u <;> simp only [] at ha <;> first | (cases ha; done) | skip
    simp only [Option.some.injEq, Prod.mk.injEq] at ha
    rw [ha.1, ha.2]
  · cases h
theorem tiOf_str {t : TypeId} {ti : TI} (h : tiOf P t = some ti) (ha : ti.agg = false) (hc : ti.cmp = some [2]) : P.underlying t = some .string := by
  unfold tiOf at h
  split at h
  · rename_i i u hi hu
    cases h
    simp only at ha hc
    replace hc : (if P.eqGuardType P.depth t then none else cmpOf P 8 t) = some [2] := by
      cases u <;> first | exact hc | (simp [clsOf] at hc)
    split at hc
    · cases hc
    · rw [show (8 : Nat) = 7 + 1 from rfl, cmpOf] at hc
      simp only [hi, hu] at hc
      cases u <;> simp only [isAggD] at ha hc <;> first | (cases ha; done) | exact hu | (cases hc; done) | (split at hc <;> first | (cases hc; done) | simp at hc)
  · cases h
theorem byteD_eq (s : ByteArray) {k : Nat} (h : k < lenS s) : ∃ b : UInt8, s[k]? = some b ∧ byteD s k = (b.toNat : Int) := by
  rw [lenS_eq] at h
  refine ⟨s[k], getElem?_pos s k h, ?_⟩
  have h' : k < s.data.toList.length := by rw [Array.length_toList]; exact h
  unfold byteD
  rw [List.getElem?_eq_getElem h', Option.getD_some]; rfl
theorem cutS_eq (s : ByteArray) (l h : Nat) : cutS s l h = s.extract l h := by
  unfold cutS
  apply ByteArray.ext
  simp [ByteArray.data_extract]
  apply Array.ext'
  simp [List.extract_eq_take_drop]
theorem sliceS_spec {T : TypeId → Option TI} {ev : Operand → Option DV} {t : TypeId} {x : Operand} {lo hi mx : Option Operand} {d : DV} (hs : sliceS T ev t x lo hi mx = some (d, true)) :
    ∃ ti s l h, mx = none ∧ T t = some ti ∧ ti.cmp = some [2] ∧ ti.agg = false ∧ ev x = some (.str s) ∧ boundD ev 0 lo = some l ∧ boundD ev (lenS s) hi = some h ∧ d = .str (cutS s l.toNat h.toNat) ∧ 0 ≤ l ∧ l ≤ h ∧ h ≤ (lenS s : Int) := by
  unfold sliceS at hs
  split at hs
  · rename_i _ _ _ _ _ s ht hx
    split at hs
    · rename_i l h hl hh
      simp only [Option.some.injEq, Prod.mk.injEq, decide_eq_true_eq] at hs
      obtain ⟨rfl, h0, h1, h2⟩ := hs
      exact ⟨_, s, l, h, rfl, ht, rfl, rfl, hx, hl, hh, rfl, h0, h1, h2⟩
    · cases hs
  · cases hs
theorem slice_str_run {t : TypeId} (hu : P.underlying t = some .string) {w : World} {s : ByteArray} {lo hi' : Option Value} {l h : Int}
    (hlo : lo = none ∧ l = 0 ∨ ∃ k, lo = some (.int k l)) (hhi : hi' = none ∧ h = (lenS s : Int) ∨ ∃ k, hi' = some (.int k h)) (h0 : 0 ≤ l) (h1 : l ≤ h) (h2 : h ≤ (lenS s : Int)) :
    (Instr.sliceAt t (.string s) lo hi' none).run P w = .ok (.string (cutS s l.toNat h.toNat)) w := by
  rw [lenS_eq] at hhi h2
  have hb : (Instr.sliceBounds false s.size s.size lo hi' none).run P w = .ok (l.toNat, h.toNat, s.size) w := by
    rcases hlo with ⟨rfl, rfl⟩ | ⟨k, rfl⟩
    · rcases hhi with ⟨rfl, rfl⟩ | ⟨k', rfl⟩
      · simp [Instr.sliceBounds, Sem.run_bind, Sem.run_pure, Result.andThen]
      · simp only [Instr.sliceBounds, Instr.sliceBound, asIntOf, Sem.run_bind, Sem.run_pure, Result.andThen]
        rw [if_pos ⟨by omega, by omega⟩]
        simp [Sem.run_pure]
    · rcases hhi with ⟨rfl, rfl⟩ | ⟨k', rfl⟩
      · simp only [Instr.sliceBounds, Instr.sliceBound, asIntOf, Sem.run_bind, Sem.run_pure, Result.andThen]
        rw [if_pos ⟨by omega, by omega⟩]
        simp [Sem.run_pure]
      · simp only [Instr.sliceBounds, Instr.sliceBound, asIntOf, Sem.run_bind, Sem.run_pure, Result.andThen]
        rw [if_pos ⟨by omega, by omega⟩]
        simp only [Sem.run_pure, Result.andThen]
        rw [if_pos ⟨by omega, by omega⟩]
        simp [Sem.run_pure]
  simp only [Instr.sliceAt, Sem.run_bind, run_under hu, Result.andThen, Instr.slice, hb, Sem.run_pure, cutS_eq, Option.isSome_none, Bool.false_eq_true, if_false]
theorem sliceA_spec {T : TypeId → Option TI} {ev : Operand → Option DV} {lc : Nat → Option (List DV)} {t : TypeId} {x : Operand} {lo hi mx : Option Operand} {d : DV} {n : Nat} (hs : sliceA T ev lc t x lo hi mx = some (d, n)) :
    ∃ ti m e off te cs, lo = none ∧ hi = none ∧ mx = none ∧ T t = some ti ∧ ti.arr = some (m, e) ∧ ev x = some (.loc n off) ∧ T e = some te ∧ lc n = some cs ∧ d = .slice ((cs.drop off).take (m * te.size)) m := by
  unfold sliceA at hs
  split at hs
  · rename_i _ _ _ _ _ m e _ n' off ht hx
    split at hs
    · rename_i te cs hte hlc
      simp only [Option.some.injEq, Prod.mk.injEq] at hs
      obtain ⟨rfl, rfl⟩ := hs
      exact ⟨_, m, e, off, te, cs, rfl, rfl, rfl, ht, rfl, hx, hte, hlc, rfl⟩
    · cases hs
  · cases hs
theorem slice_vec_run {ρ : Nat → Option Nat} {t e : TypeId} {i : TypeInfo} (hu : P.underlying t = some (.slice e)) (hi : P.info? e = some i) {w : World} {S : Nat → Prop} {b off n : Nat} {v : Value} {lo hi' : Option Value} {l h : Int}
    (hv : Abs ρ S w (.vec b off n i.size) v) (hlo : lo = none ∧ l = 0 ∨ ∃ k, lo = some (.int k l)) (hhi : hi' = none ∧ h = n ∨ ∃ k, hi' = some (.int k h)) (h0 : 0 ≤ l) (h1 : l ≤ h) (h2 : h ≤ n) :
    ∃ u, (Instr.sliceAt t v lo hi' none).run P w = .ok u w ∧ Abs ρ S w (.vec b (off + l.toNat * i.size) (h.toNat - l.toNat) i.size) u := by
  simp only [Abs] at hv
  obtain ⟨a, cap, rfl, hcap, hor⟩ := hv
  have hb : (Instr.sliceBounds true n cap lo hi' none).run P w = .ok (l.toNat, h.toNat, cap) w := by
    rcases hlo with ⟨rfl, rfl⟩ | ⟨k, rfl⟩
    · rcases hhi with ⟨rfl, rfl⟩ | ⟨k', rfl⟩
      · simp [Instr.sliceBounds, Sem.run_bind, Sem.run_pure, Result.andThen]
      · simp only [Instr.sliceBounds, Instr.sliceBound, asIntOf, Sem.run_bind, Sem.run_pure, Result.andThen]
        rw [if_pos ⟨by omega, by omega⟩]
        simp [Sem.run_pure]
    · rcases hhi with ⟨rfl, rfl⟩ | ⟨k', rfl⟩
      · simp only [Instr.sliceBounds, Instr.sliceBound, asIntOf, Sem.run_bind, Sem.run_pure, Result.andThen]
        rw [if_pos ⟨by omega, by omega⟩]
        simp [Sem.run_pure]
      · simp only [Instr.sliceBounds, Instr.sliceBound, asIntOf, Sem.run_bind, Sem.run_pure, Result.andThen]
        rw [if_pos ⟨by omega, by omega⟩]
        simp only [Sem.run_pure]
        rw [if_pos ⟨by omega, by omega⟩]
        simp only [Sem.run_pure]
  refine ⟨_, by simp only [Instr.sliceAt, Sem.run_bind, run_under hu, Result.andThen, Instr.slice, hb, run_size hi, Sem.run_pure]; rfl, ?_⟩
  simp only [Abs]
  refine ⟨_, _, rfl, by omega, ?_⟩
  by_cases hz : h.toNat - l.toNat = 0
  · exact .inl hz
  · right
    have hn0 : ¬ n = 0 := by omega
    have hcl : ¬ cap = l.toNat := by omega
    have hlc : l.toNat ≤ cap := by omega
    obtain ⟨p, hp, rfl, vs, el, hblk, hfit⟩ := hor.resolve_left hn0
    refine ⟨p, hp, ?_, vs, el, hblk, ?_⟩
    · rw [if_neg hcl]; simp [addr_add]
    · have e1 : (cap - l.toNat) * i.size = cap * i.size - l.toNat * i.size := Nat.sub_mul ..
      have e2 : l.toNat * i.size ≤ cap * i.size := Nat.mul_le_mul_right _ hlc
      rw [e1, Nat.add_assoc, Nat.add_sub_cancel' e2]
      exact hfit

theorem run_byteOf {w : World} {b o : Nat} {vs : Array Value} {el : TypeId} (hheap : w.heap[b]? = some (.cells vs el (0, 0))) (hne : P.cellsOf el ≠ 0) (hb : (byteOfCell P P.depth el (o % P.cellsOf el)).isSome = true) :
    ∃ k, (byteOf ⟨b, o, none⟩).run P w = .ok k w := by
  obtain ⟨k, hk⟩ := Option.isSome_iff_exists.1 hb
  have hs : (shape b).run P w = .ok (some (el, vs.size)) w := by
    simp only [shape, Sem.run, World.shape?, hheap]
  have hv : (noView ⟨b, o, none⟩).run P w = .ok () w := by
    simp only [noView, viewAt, Sem.run_bind, hs, Result.andThen, Option.isSome_some, if_true, Sem.run_pure, Option.isSome_none, Bool.false_eq_true, if_false]
  refine ⟨o / P.cellsOf el * P.bytesOf el + k, ?_⟩
  have hp : (program).run P w = .ok P w := rfl
  simp only [byteOf, Sem.run_bind, hp, hv, hs, Result.andThen]
  rw [if_neg hne]
  simp only [hk]
  rfl

theorem freshRow_length (zs : List DV) : ∀ n, (freshRow zs n).length = n * zs.length
  | 0 => by simp [freshRow]
  | n + 1 => by rw [freshRow, List.length_append, freshRow_length zs n, Nat.succ_mul]; omega
theorem freshRow_get (zs : List DV) : ∀ (n o : Nat), (freshRow zs n)[o]? = if o < n * zs.length then zs[o % zs.length]? else none
  | 0, o => by simp [freshRow]
  | n + 1, o => by
    rw [freshRow, List.getElem?_append]
    split
    · rename_i h
      rw [if_pos (by rw [Nat.succ_mul]; omega), Nat.mod_eq_of_lt h]
    · rename_i h
      rw [freshRow_get zs n, Nat.succ_mul]
      by_cases h2 : o - zs.length < n * zs.length
      · have e : o % zs.length = (o - zs.length) % zs.length := Nat.mod_eq_sub_mod (by omega)
        rw [if_pos h2, if_pos (by omega), e]
      · rw [if_neg h2, if_neg (by omega)]
theorem foldMax {ρ : Nat → Option Nat} {S : Nat → Prop} {w : World} {k : IntKind} : ∀ {ds : List DV} {x : Int} {d : DV} {vs : List Value}, foldInt (fun x y => if y > x then y else x) k x ds = some d → AbsL ρ S w ds vs → (vs.foldlM Builtin.max2 (.int k x)).run P w = .ok (toV d) w ∧ ∀ ρ S, Abs ρ S w d (toV d)
  | [], x, d, vs, h, hab => by
    simp only [foldInt, Option.some.injEq] at h
    subst h
    rw [hab.nil_inv]
    exact ⟨by simp [List.foldlM, toV, Sem.run_pure], fun _ _ => by simp only [Abs, toV]⟩
  | e :: ds, x, d, vs, h, hab => by
    obtain ⟨v, rest, rfl, hv, hr⟩ := hab.cons_inv
    cases e <;> simp only [foldInt] at h <;> first | (cases h; done) | skip
    rename_i k' y
    split at h
    · rename_i hk
      simp only [Abs] at hv; subst hv; subst hk
      obtain ⟨h1, h2⟩ := foldMax h hr
      exact ⟨by simp only [List.foldlM_cons, Sem.run_bind, Builtin.max2, Sem.run_pure, Result.andThen, h1], h2⟩
    · cases h
theorem foldMin {ρ : Nat → Option Nat} {S : Nat → Prop} {w : World} {k : IntKind} : ∀ {ds : List DV} {x : Int} {d : DV} {vs : List Value}, foldInt (fun x y => if y < x then y else x) k x ds = some d → AbsL ρ S w ds vs → (vs.foldlM Builtin.min2 (.int k x)).run P w = .ok (toV d) w ∧ ∀ ρ S, Abs ρ S w d (toV d)
  | [], x, d, vs, h, hab => by
    simp only [foldInt, Option.some.injEq] at h
    subst h
    rw [hab.nil_inv]
    exact ⟨by simp [List.foldlM, toV, Sem.run_pure], fun _ _ => by simp only [Abs, toV]⟩
  | e :: ds, x, d, vs, h, hab => by
    obtain ⟨v, rest, rfl, hv, hr⟩ := hab.cons_inv
    cases e <;> simp only [foldInt] at h <;> first | (cases h; done) | skip
    rename_i k' y
    split at h
    · rename_i hk
      simp only [Abs] at hv; subst hv; subst hk
      obtain ⟨h1, h2⟩ := foldMin h hr
      exact ⟨by simp only [List.foldlM_cons, Sem.run_bind, Builtin.min2, Sem.run_pure, Result.andThen, h1], h2⟩
    · cases h
/-- A new block that will bear a name. -/
theorem MonoPost.ofPend {ι ρ : Nat → Option Nat} {S : Nat → Prop} {mu : Mu} {w w' : World} {o : Oper} {d : DV} {v : Value} {n : Nat} (hnm : Named ρ mu w) (hmu : MuOk ρ S w mu) (sane : ∀ b, S b → b < w.heap.size) (hn : ρ n = none)
    {cs : List DV} {cells : Array Value} {elem : TypeId} (hab : AbsL ρ S w cs cells.toList) (hh : w'.heap = w.heap.push (.cells cells elem (0, 0))) (h1 : w'.os = w.os) (h2 : w'.tape = w.tape) (h3 : w'.output = w.output)
    (hv : Abs (fun m => if m = n then some w.heap.size else ρ m) S w' d v) :
    MonoPost ι ρ S mu w o d { new := some cs, el := elem, use := [n], pend := some n } false v w' (fun m => if m = o.dst.getD 0 then some w.heap.size else ι m) (fun m => if m = n then some w.heap.size else ρ m) S := by
  have hold : ∀ b, b < w.heap.size → w'.heap[b]? = w.heap[b]? := fun b hb => by rw [hh, Array.getElem?_push, if_neg (by omega)]
  have hnew : w'.heap[w.heap.size]? = some (.cells cells elem (0, 0)) := by rw [hh]; simp
  have hne : ∀ m b, ρ m = some b → m ≠ n := fun m b hm he => by subst he; rw [hn] at hm; cases hm
  have hE : Ext ρ w (fun m => if m = n then some w.heap.size else ρ m) w' := fun m b hm => ⟨(if_neg (hne m b hm)).trans hm, fun vs e fz hb => ⟨vs, by rw [hold b (hnm.lt m b hm)]; exact hb, rfl⟩⟩
  have hkS : ∀ b, S b → w'.heap[b]? = w.heap[b]? := fun b hb => hold b (sane b hb)
  have hnone : ∀ o, mu n o = none := fun o => by
    cases hh : mu n o with
    | none => rfl
    | some e' => obtain ⟨p, hp, _⟩ := hmu n o e' hh; rw [hn] at hp; cases hp
  have hcells' : MuOk (fun m => if m = n then some w.heap.size else ρ m) S w' mu := fun b off e he => by
    obtain ⟨p, hp, hS, hl⟩ := hmu b off e he
    exact ⟨p, (hE b p hp).1, hS, hl.mono hE hkS (fun _ h => h) (hold p hl.lt)⟩
  have back : ∀ b m off e, (if m = n then some w.heap.size else ρ m) = some b → mu m off = some e → ρ m = some b := fun b m off e hm he => by
    split at hm
    · rename_i hmn; subst hmn; rw [hnone] at he; cases he
    · exact hm
  refine ⟨h1, h2, h3, (by rw [hh]; simp), fun b hb _ _ => hold b hb, fun _ b hb _ => hold b hb, fun _ h => h, fun _ h => .inl h, .of_abs hv, hcells', ?_, fun h => by simp at h, fun cs' h => ?_, ⟨fun a b c p q ha hb hp hq => ?_, fun m b hm => ?_⟩, hE, fun m b hm => ?_, fun g hg => ?_⟩
  · rintro b ⟨m, off, e, hm, he⟩
    exact .inl ⟨m, off, e, back b m off e hm he, he⟩
  · cases h
    refine ⟨w.heap.size, cells, fun m => rfl, Nat.le_refl _, by rw [hh]; simp, hnew, AbsL.mono hE hkS (fun _ h => h) _ _ hab, fun h => by have := sane _ h; omega, ?_⟩
    rintro ⟨m, off, e, hm, he⟩
    have := hnm.lt m _ (back _ m off e hm he)
    omega
  · obtain ⟨x, hx⟩ := Option.isSome_iff_exists.1 hp
    obtain ⟨y, hy⟩ := Option.isSome_iff_exists.1 hq
    exact hnm.inj a b c p q (back c a p x ha hx) (back c b q y hb hy) hp hq
  · replace hm : (if m = n then some w.heap.size else ρ m) = some b := hm
    have hs : w.heap.size < w'.heap.size := by rw [hh]; simp
    split at hm
    · cases hm; exact hs
    · have := hnm.lt m b hm; omega
  · replace hm : (if m = n then some w.heap.size else ρ m) = some b := hm
    split at hm
    · rename_i hmn; subst hmn; exact .inr (by simp)
    · exact .inl hm
  · simp only [Option.some.injEq] at hg
    subst hg
    exact ⟨w.heap.size, if_pos rfl, if_pos rfl⟩

/-- A new block that bears a name: whatever it is. -/
theorem MonoPost.ofNew {ι ρ : Nat → Option Nat} {S : Nat → Prop} {mu mu' : Mu} {w w' : World} {o : Oper} {d : DV} {v : Value} {n : Nat} (hnm : Named ρ mu w) (hmu : MuOk ρ S w mu) (sane : ∀ b, S b → b < w.heap.size) (hn : ρ n = none)
    {obj : Obj} (hh : w'.heap = w.heap.push obj) (h1 : w'.os = w.os) (h2 : w'.tape = w.tape) (h3 : w'.output = w.output)
    (hkeep : ∀ b o, b ≠ n → mu' b o = mu b o ∨ mu' b o = none) (hlies : ∀ o d, mu' n o = some d → Lies (fun m => if m = n then some w.heap.size else ρ m) S w' w.heap.size o d)
    (hv : Abs (fun m => if m = n then some w.heap.size else ρ m) S w' d v) :
    MonoPost ι ρ S mu w o d { mu := some mu', use := [n] } false v w' ι (fun m => if m = n then some w.heap.size else ρ m) S := by
  have hold : ∀ b, b < w.heap.size → w'.heap[b]? = w.heap[b]? := fun b hb => by rw [hh, Array.getElem?_push, if_neg (by omega)]
  have hne : ∀ m b, ρ m = some b → m ≠ n := fun m b hm he => by subst he; rw [hn] at hm; cases hm
  have hE : Ext ρ w (fun m => if m = n then some w.heap.size else ρ m) w' := fun m b hm => ⟨(if_neg (hne m b hm)).trans hm, fun vs e fz hb => ⟨vs, by rw [hold b (hnm.lt m b hm)]; exact hb, rfl⟩⟩
  have hkS : ∀ b, S b → w'.heap[b]? = w.heap[b]? := fun b hb => hold b (sane b hb)
  have hdom : ∀ b, Dom (fun m => if m = n then some w.heap.size else ρ m) mu' b → Dom ρ mu b ∨ w.heap.size ≤ b := by
    rintro b ⟨m, off, e, hm, he⟩
    replace hm : (if m = n then some w.heap.size else ρ m) = some b := hm
    split at hm
    · cases hm; exact .inr (Nat.le_refl _)
    · rename_i hmn
      rcases hkeep m off hmn with h | h
      · exact .inl ⟨m, off, e, hm, by rw [← h]; exact he⟩
      · rw [h] at he; cases he
  refine ⟨h1, h2, h3, (by rw [hh]; simp), fun b hb _ _ => hold b hb, fun _ b hb _ => hold b hb, fun _ h => h, fun _ h => .inl h, .of_abs hv, fun b off e he => ?_, hdom, fun _ => rfl, fun _ h => by simp at h, ⟨fun a b c p q ha hb hp hq => ?_, fun m b hm => ?_⟩, hE, fun m b hm => ?_, fun _ h => by simp at h⟩
  · replace he : mu' b off = some e := he
    by_cases hb : b = n
    · subst hb
      exact ⟨w.heap.size, by simp, fun h => by have := sane _ h; omega, hlies off e he⟩
    · rcases hkeep b off hb with h | h
      · rw [h] at he
        obtain ⟨p, hp, q1, hl⟩ := hmu b off e he
        exact ⟨p, by simp only [if_neg hb]; exact hp, q1, hl.mono hE hkS (fun _ h => h) (hold p hl.lt)⟩
      · rw [h] at he; cases he
  · replace hp : (mu' a p).isSome = true := hp
    replace hq : (mu' b q).isSome = true := hq
    replace ha : (if a = n then some w.heap.size else ρ a) = some c := ha
    replace hb : (if b = n then some w.heap.size else ρ b) = some c := hb
    have keepS : ∀ m o', m ≠ n → (mu' m o').isSome = true → (mu m o').isSome = true := fun m o' hm h => by
      rcases hkeep m o' hm with h' | h'
      · rw [← h']; exact h
      · rw [h'] at h; cases h
    split at ha <;> split at hb
    · subst_vars; rfl
    · cases ha; have := hnm.lt b _ hb; omega
    · cases hb; have := hnm.lt a _ ha; omega
    · rename_i h1 h2; exact hnm.inj a b c p q ha hb (keepS a p h1 hp) (keepS b q h2 hq)
  · replace hm : (if m = n then some w.heap.size else ρ m) = some b := hm
    rw [hh]
    simp only [Array.size_push]
    split at hm
    · cases hm; omega
    · have := hnm.lt m b hm; omega
  · replace hm : (if m = n then some w.heap.size else ρ m) = some b := hm
    split at hm
    · rename_i h; subst h; exact .inr (by simp)
    · exact .inl hm

/-- A new block of cells that bears a name. -/
theorem MonoPost.ofNamed {ι ρ : Nat → Option Nat} {S : Nat → Prop} {mu mu' : Mu} {w w' : World} {o : Oper} {d : DV} {v : Value} {n : Nat} (hnm : Named ρ mu w) (hmu : MuOk ρ S w mu) (sane : ∀ b, S b → b < w.heap.size) (hn : ρ n = none)
    {cells : Array Value} {elem : TypeId} (hh : w'.heap = w.heap.push (.cells cells elem (0, 0))) (h1 : w'.os = w.os) (h2 : w'.tape = w.tape) (h3 : w'.output = w.output)
    (hkeep : ∀ b o, b ≠ n → mu' b o = mu b o ∨ mu' b o = none) (hcells : ∀ o d, mu' n o = some d → ∃ v, cells[o]? = some v ∧ Abs ρ S w d v)
    (hv : Abs (fun m => if m = n then some w.heap.size else ρ m) S w' d v) :
    MonoPost ι ρ S mu w o d { mu := some mu', use := [n] } false v w' ι (fun m => if m = n then some w.heap.size else ρ m) S := by
  have hold : ∀ b, b < w.heap.size → w'.heap[b]? = w.heap[b]? := fun b hb => by rw [hh, Array.getElem?_push, if_neg (by omega)]
  have hnew : w'.heap[w.heap.size]? = some (.cells cells elem (0, 0)) := by rw [hh]; simp
  have hne : ∀ m b, ρ m = some b → m ≠ n := fun m b hm he => by subst he; rw [hn] at hm; cases hm
  have hE : Ext ρ w (fun m => if m = n then some w.heap.size else ρ m) w' := fun m b hm => ⟨(if_neg (hne m b hm)).trans hm, fun vs e fz hb => ⟨vs, by rw [hold b (hnm.lt m b hm)]; exact hb, rfl⟩⟩
  have hkS : ∀ b, S b → w'.heap[b]? = w.heap[b]? := fun b hb => hold b (sane b hb)
  refine .ofNew hnm hmu sane hn hh h1 h2 h3 hkeep (fun o d hd => ?_) hv
  obtain ⟨u, hu, ha⟩ := hcells o d hd
  refine .of_cell (v := u) (by simp [World.frozen?, hnew]) ?_ (ha.mono hE hkS (fun _ h => h))
  simp only [World.cell?, hnew, Option.isSome_none, Bool.false_eq_true, if_false]
  exact hu

theorem fillRow_spec {ρ : Nat → Option Nat} {S : Nat → Prop} {w : World} (sz : Nat) :
    ∀ {ps : List (Nat × DV)} {cs ds : List DV} {us : List (Nat × Value)} {vs : List Value}, fillRow sz cs ps = some ds → AbsL ρ S w cs vs → us.length = ps.length →
      (∀ (k : Nat) (i : Nat) (d : DV) (j : Nat) (v : Value), ps[k]? = some (i, d) → us[k]? = some (j, v) → i = j ∧ (d.noLoc = true → Abs ρ S w d v)) →
      ∃ out : Array Value, Instr.fill (fun i => some (i * sz, sz)) vs.toArray us = some out ∧ AbsL ρ S w ds out.toList
  | [], cs, ds, us, vs, h, hc, hl, _ => by
    simp only [fillRow, Option.some.injEq] at h; subst h
    cases us with
    | nil => exact ⟨vs.toArray, rfl, by simpa using hc⟩
    | cons => simp at hl
  | (i, d) :: ps, cs, ds, us, vs, h, hc, hl, hv => by
    cases us with
    | nil => simp at hl
    | cons ju us =>
    obtain ⟨j, v⟩ := ju
    obtain ⟨rfl, hdv⟩ := hv 0 i d j v rfl rfl
    simp only [fillRow] at h
    split at h
    · rename_i hcond
      simp only [Bool.and_eq_true, beq_iff_eq, decide_eq_true_eq] at hcond
      obtain ⟨⟨hfirm, hsz⟩, hle⟩ := hcond
      have hnl : d.noLoc = true := by cases d <;> first | rfl | simp [DV.firm] at hfirm
      have hany : d ≠ .any := by rintro rfl; simp [DV.firm] at hfirm
      have hcells := (hdv hnl).cells hany
      have hlen : v.cells.size = sz := by have := hcells.length; rw [Array.length_toList] at this; omega
      have hvl : vs.length = cs.length := hc.length
      have hset := AbsL.fill hcells (off := i * sz) hc
      have e : (v.cells.zipIdx.foldl (fun cs (c, j) => cs.setIfInBounds (i * sz + j) c) vs.toArray).toList = (v.cells.toList.zipIdx (i * sz)).foldl (fun cs (c, j) => cs.set j c) vs := by
        rw [← Array.foldl_toList, Array.toList_zipIdx]
        have gen : ∀ (l : List Value) (k : Nat) (xs : Array Value), ((l.zipIdx k).foldl (fun (cs : Array Value) (x : Value × Nat) => cs.setIfInBounds (i * sz + x.2) x.1) xs).toList = (l.zipIdx (i * sz + k)).foldl (fun cs (x : Value × Nat) => cs.set x.2 x.1) xs.toList := by
          intro l
          induction l with
          | nil => intro k xs; rfl
          | cons a l ih => intro k xs; simp only [List.zipIdx_cons, List.foldl_cons]; rw [ih]; simp [Nat.add_assoc]
        simpa using gen v.cells.toList 0 vs.toArray
      obtain ⟨out, ho, hab⟩ := fillRow_spec sz h hset (by simpa using hl) (fun k i' d' j' v' h1 h2 => hv (k + 1) i' d' j' v' (by simpa using h1) (by simpa using h2))
      refine ⟨out, ?_, hab⟩
      rw [Instr.fill]
      simp only []
      rw [if_neg (by simp [hlen]; omega)]
      rw [← ho]
      congr 1
      apply Array.ext'
      rw [e]
    · cases h
theorem oneC_cell {v : Value} (h : oneC v = true) : v.oneCell' = true := by
  cases v <;> first | rfl | (simp [oneC] at h)
/-- Cells known by a row, as values. -/
theorem MuOk.firstCells {ρ : Nat → Option Nat} {S : Nat → Prop} {w : World} {mu : Mu} (h : MuOk ρ S w mu) {b p : Nat} (hp : ρ b = some p) (hblk : ∃ vs e fz, w.heap[p]? = some (.cells vs e fz)) : ∀ (k off : Nat), (∀ j, j < k → (mu b (off + j)).isSome = true) → ∃ vs : List Value, vs.length = k ∧ ∀ j, j < k → ∃ v d, vs[j]? = some v ∧ mu b (off + j) = some d ∧ w.cell? ⟨p, off + j, none⟩ = some v ∧ Abs ρ S w d v
  | 0, off, _ => ⟨[], rfl, fun j hj => by omega⟩
  | k + 1, off, hk => by
    obtain ⟨d, hd⟩ := Option.isSome_iff_exists.1 (hk 0 (by omega))
    obtain ⟨p', hp', _, hli⟩ := h b (off + 0) d hd
    rw [hp] at hp'; cases hp'
    obtain ⟨_, _, _, hbk⟩ := hblk
    obtain ⟨_, v, hv, ha⟩ := hli.cell_in hbk
    obtain ⟨vs, hl, hg⟩ := MuOk.firstCells h hp ⟨_, _, _, hbk⟩ k (off + 1) (fun j hj => by have := hk (j + 1) (by omega); rwa [show off + (j + 1) = off + 1 + j by omega] at this)
    refine ⟨v :: vs, by simp [hl], fun j hj => ?_⟩
    cases j with
    | zero => exact ⟨v, d, rfl, hd, hv, ha⟩
    | succ j =>
      obtain ⟨u, e, h1, h2, h3, h4⟩ := hg j (by omega)
      refine ⟨u, e, by simpa using h1, ?_, ?_, h4⟩
      · rwa [show off + (j + 1) = off + 1 + j by omega]
      · rwa [show off + (j + 1) = off + 1 + j by omega]
/-- 'append' to a slice without room. -/
theorem run_append_nils {P : Program} (w : World) (t ty e : TypeId) (i : TypeInfo) (z : Value) (ht : P.underlying t = some (.slice e)) (hi : P.info? e = some i) (hz : i.zero = some z)
    (x : Option Addr) (a : Addr) (n c : Nat) (news : List Value) (hl : news.length = n * i.size) (hnews : ∀ j v, news[j]? = some v → w.cell? (a.add j) = some v)
    (h0 : 0 < n) (h63 : (n : Int) ≤ 9223372036854775807) (h48 : n * i.bytes ≤ 281474976710656) :
    (Builtin.append_ #[t, t] ty #[.slice x 0 0, .slice (some a) n c]).run P w =
      .ok (.slice (some ⟨w.heap.size, 0, none⟩) n (grownCap w n 0 e)) (w.drew.alloc (.cells (news.toArray ++ Builtin.zeroCells z.cells (grownCap w n 0 e - n)) e)) := by
  cases x with
  | none => exact run_append_nil (P := P) w t ty e i z ht hi hz a n c news hl hnews h0 h63 h48
  | some b =>
    have hn : n ≠ 0 := by omega
    have h63' : ¬ (9223372036854775807 < (n : Int)) := by omega
    have h48' : ¬ (281474976710656 < Builtin.nextslicecap n 0 * i.bytes) := by rw [nextslicecap_zero h0]; omega
    have hf := run_firstCells_some (P := P) w.drew i.size n a n c news hl (by simpa using hnews)
    have hg := run_firstCells_some (P := P) w.drew i.size 0 b 0 0 [] (by simp) (fun j v hj => by simp at hj)
    simp [Builtin.append_, run_underlying ht, sizeOf, typeInfo, zeroValue, hi, hz, Builtin.lenOf, hn, h63', h48', Question.forced, hg, hf, newRow, grownCap]
/-- 'append' that makes a new block. -/
theorem append_new {ι ρ : Nat → Option Nat} {S : Nat → Prop} {mu : Mu} {w : World} {o : Oper} {n b l m cap : Nat} {cs : List DV} {e : TypeId} {i : TypeInfo} {z : Value} {olds news : List Value}
    (hnm : Named ρ mu w) (hmu : MuOk ρ S w mu) (sane : ∀ b, S b → b < w.heap.size) (hn : ρ n = none) (hz : z.cells.size = i.size)
    (ho : olds.length = l * i.size) (hold : ∀ j, j < l * i.size → ∃ v d, olds[j]? = some v ∧ mu b j = some d ∧ Abs ρ S w d v) (hnw : AbsL ρ S w cs news) (hlen : cs.length = m * i.size) (hcap : l + m ≤ cap) :
    MonoPost ι ρ S mu w o (.vec n 0 (l + m) i.size) { mu := some (appMu mu b (l * i.size) n cs), use := [n] } false (.slice (some ⟨w.heap.size, 0, none⟩) (l + m) cap)
      (w.drew.alloc (.cells (olds.toArray ++ news.toArray ++ Builtin.zeroCells z.cells (cap - (l + m))) e)) ι (fun m => if m = n then some w.heap.size else ρ m) S := by
  have hnl := hnw.length
  have hsz : (olds.toArray ++ news.toArray ++ Builtin.zeroCells z.cells (cap - (l + m))).size = cap * i.size := by
    simp only [Array.size_append, List.size_toArray, size_zeroCells, hz, ho, hnl, hlen, ← Nat.add_mul]
    congr 1; omega
  refine .ofNamed hnm hmu sane hn (cells := olds.toArray ++ news.toArray ++ Builtin.zeroCells z.cells (cap - (l + m))) (elem := e) rfl rfl rfl rfl (fun c q hc => ?_) (fun q d hd => ?_) ?_
  · unfold appMu
    rw [if_neg hc]
    split
    · exact .inr rfl
    · exact .inl rfl
  · unfold appMu at hd
    rw [if_pos rfl] at hd
    split at hd
    · rename_i hq
      obtain ⟨v, d', h1, h2, h3⟩ := hold q hq
      rw [hd] at h2; cases h2
      refine ⟨v, ?_, h3⟩
      rw [Array.getElem?_append_left (by simp [ho]; omega), Array.getElem?_append_left (by simp [ho]; omega)]
      simpa using h1
    · rename_i hq
      obtain ⟨v, h1, h2⟩ := hnw.get hd
      refine ⟨v, ?_, h2⟩
      have hlt := (List.getElem?_eq_some_iff.1 h1).1
      rw [Array.getElem?_append_left (by simp [ho]; omega), Array.getElem?_append_right (by simp [ho]; omega)]
      simpa [ho] using h1
  · simp only [Abs]
    refine ⟨_, cap, rfl, hcap, .inr ⟨w.heap.size, by simp, rfl, olds.toArray ++ news.toArray ++ Builtin.zeroCells z.cells (cap - (l + m)), e, ?_, by rw [hsz]; omega⟩⟩
    show (w.heap.push _)[w.heap.size]? = _
    simp
theorem foldl_set_get {α : Type} : ∀ (us : List α) (off : Nat) (cs : List α) (q : Nat), off + us.length ≤ cs.length → ((us.zipIdx off).foldl (fun cs (x : α × Nat) => cs.set x.2 x.1) cs)[q]? = if off ≤ q ∧ q < off + us.length then us[q - off]? else cs[q]?
  | [], off, cs, q, _ => by simp; intro h1 h2; omega
  | u :: us, off, cs, q, h => by
    simp only [List.length_cons] at h
    rw [List.zipIdx_cons, List.foldl_cons, foldl_set_get us (off + 1) _ q (by simp; omega)]
    simp only [List.length_cons]
    by_cases h1 : off + 1 ≤ q ∧ q < off + 1 + us.length
    · rw [if_pos h1, if_pos (by omega), show q - off = (q - (off + 1)) + 1 by omega, List.getElem?_cons_succ]
    · rw [if_neg h1, List.getElem?_set]
      by_cases h2 : off = q
      · subst h2
        rw [if_pos rfl, if_pos (by omega), if_pos (by omega)]
        simp
      · rw [if_neg h2, if_neg (by omega)]
theorem u8s_cons {d : DV} {ds : List DV} {ns : List Int} (h : u8s (d :: ds) = some ns) : ∃ k ms, d = .int .u8 k ∧ u8s ds = some ms ∧ ns = k :: ms := by
  unfold u8s at h
  split at h
  · rename_i he; cases he
  · rename_i k ds' he
    cases he
    simp only [Option.map_eq_some_iff] at h
    obtain ⟨ms, hm, rfl⟩ := h
    exact ⟨_, ms, rfl, hm, rfl⟩
  · cases h
theorem u8s_abs {ρ : Nat → Option Nat} {S : Nat → Prop} {w : World} : ∀ {ds : List DV} {ns : List Int} {vs : List Value}, u8s ds = some ns → AbsL ρ S w ds vs → vs = ns.map (Value.int .u8)
  | [], ns, vs, h, hab => by simp only [u8s, Option.some.injEq] at h; subst h; rw [hab.nil_inv]; rfl
  | d :: ds, ns, vs, h, hab => by
    obtain ⟨v, rest, rfl, h1, h2⟩ := hab.cons_inv
    obtain ⟨k, ms, rfl, hm, rfl⟩ := u8s_cons h
    simp only [Abs] at h1
    rw [h1, u8s_abs hm h2]; rfl
theorem pushAll : ∀ (ns : List Int) (s : ByteArray), ns.foldl (fun r n => r.push (UInt8.ofNat n.toNat)) s = ⟨⟨s.data.toList ++ ns.map fun n => UInt8.ofNat n.toNat⟩⟩
  | [], s => by apply ByteArray.ext; apply Array.ext'; simp
  | n :: ns, s => by
    rw [List.foldl_cons, pushAll ns]
    apply ByteArray.ext; apply Array.ext'
    simp [ByteArray.push]
theorem str_run {src dst e : TypeId} (hs : P.underlying src = some (.slice e)) (he : P.underlying e = some (.int .u8)) (hd : P.underlying dst = some .string) {w : World} {a : Option Addr} {cap n : Nat} {vs : List Value} {ns : List Int}
    (hc : n = 0 ∨ ∃ b off, a = some ⟨b, off, none⟩ ∧ CellsAt w b off vs) (hv : vs = ns.map (Value.int .u8)) (hn : ns.length = n) : (Go.convert src dst (.slice a n cap)).run P w = .ok (.string (strOf ns)) w := by
  rw [run_convert_bytes_string w src dst e a n cap hs he hd]
  have e0 : strOf ns = ns.foldl (fun r n => r.push (UInt8.ofNat n.toNat)) ByteArray.empty := by rw [pushAll]; apply ByteArray.ext; apply Array.ext'; simp [strOf]
  rw [e0]
  rcases Nat.eq_zero_or_pos n with h0 | hp
  · subst h0
    obtain rfl : ns = [] := List.length_eq_zero_iff.1 hn
    cases a with
    | none => rfl
    | some a => exact run_bytesToString w a 0 cap [] rfl
  · rcases hc with h0 | ⟨b, off, rfl, hc⟩
    · omega
    · refine run_bytesToString w _ n cap ns ?_
      have := run_loadCells_list (P := P) w (⟨b, off, none⟩ : Addr) vs (fun j v hj => by
        have := hc j v hj
        by_cases h0 : j = 0
        · subst h0; simpa [Addr.add] using this
        · simpa [Addr.add, h0] using this)
      rw [show vs.length = n by rw [hv]; simpa using hn] at this
      rw [this, hv]
/-- 'append' where there is room. -/
theorem append_in {ι ρ : Nat → Option Nat} {S : Nat → Prop} {mu : Mu} {w w' : World} {o : Oper} {n b p l m cap sz : Nat} {cs : List DV} {e : TypeId} {cur vs' : Array Value} {news : List Value}
    (hnm : Named ρ mu w) (hmu : MuOk ρ S w mu) (hn : ρ n = none) (hp : ρ b = some p) (hpos : 0 < l * sz) (hknown : ∀ j, j < l * sz → (mu b j).isSome = true)
    (hb : w.heap[p]? = some (.cells cur e (0, 0))) (hfit : cap * sz ≤ cur.size) (hroom : l + m ≤ cap) (hnw : AbsL ρ S w cs news) (hlen : cs.length = m * sz)
    (hh : w'.heap[p]? = some (.cells vs' e (0, 0))) (hv : vs'.toList = (news.zipIdx (l * sz)).foldl (fun cs (x : Value × Nat) => cs.set x.2 x.1) cur.toList)
    (hk : ∀ k, k ≠ p → w'.heap[k]? = w.heap[k]?) (hs : w'.heap.size = w.heap.size) (h1 : w'.os = w.os) (h2 : w'.tape = w.tape) (h3 : w'.output = w.output) :
    MonoPost ι ρ S mu w o (.vec n 0 (l + m) sz) { mu := some (appMu mu b (l * sz) n cs), use := [n] } false (.slice (some ⟨p, 0, none⟩) (l + m) cap) w' ι (fun m => if m = n then some p else ρ m) S := by
  have hnl := hnw.length
  have hbn : b ≠ n := by rintro rfl; rw [hn] at hp; cases hp
  have hpD : Dom ρ mu p := by
    obtain ⟨d, hd⟩ := Option.isSome_iff_exists.1 (hknown 0 hpos)
    exact ⟨b, 0, d, hp, hd⟩
  have hlm : l * sz + m * sz ≤ cap * sz := by rw [← Nat.add_mul]; exact Nat.mul_le_mul_right _ hroom
  have hvs : vs'.size = cur.size := by have := congrArg List.length hv; rw [foldl_set_length] at this; simpa using this
  have hget : ∀ q, vs'[q]? = if l * sz ≤ q ∧ q < l * sz + news.length then news[q - l * sz]? else cur[q]? := fun q => by
    have hcl : cur.toList.length = cur.size := Array.length_toList
    have := foldl_set_get news (l * sz) cur.toList q (by omega)
    have e1 : vs'.toList[q]? = vs'[q]? := Array.getElem?_toList
    have e2 : cur.toList[q]? = cur[q]? := Array.getElem?_toList
    rw [← hv, e1, e2] at this
    exact this
  have hne : ∀ k c, ρ k = some c → k ≠ n := fun k c hc he => by subst he; rw [hn] at hc; cases hc
  have hE : Ext ρ w (fun m => if m = n then some p else ρ m) w' := fun k c hc => ⟨(if_neg (hne k c hc)).trans hc, fun us ee fz hu => by
    by_cases hcp : c = p
    · subst hcp; rw [hb] at hu; cases hu; exact ⟨vs', hh, hvs⟩
    · exact ⟨us, by rw [hk c hcp]; exact hu, rfl⟩⟩
  have hpS : ¬ S p := hmu.notS hpD
  have hkS : ∀ k, S k → w'.heap[k]? = w.heap[k]? := fun k hS => hk k (by rintro rfl; exact hpS hS)
  have hoth : ∀ k c, ρ k = some c → k ≠ b → (∃ q, (mu k q).isSome = true) → c ≠ p := fun k c hc hkb ⟨q, hq⟩ => by
    rintro rfl
    exact hkb (hnm.inj k b c q 0 hc hp hq (hknown 0 hpos))
  -- what is known behind it
  have hmu' : ∀ k q d, appMu mu b (l * sz) n cs k q = some d → (k = n ∧ ((q < l * sz ∧ mu b q = some d) ∨ (l * sz ≤ q ∧ cs[q - l * sz]? = some d))) ∨ (k ≠ n ∧ k ≠ b ∧ mu k q = some d) := by
    intro k q d h
    unfold appMu at h
    split at h
    · rename_i hkn
      split at h
      · rename_i hq; exact .inl ⟨hkn, .inl ⟨hq, h⟩⟩
      · rename_i hq; exact .inl ⟨hkn, .inr ⟨by omega, h⟩⟩
    · rename_i hkn
      split at h
      · cases h
      · rename_i hkb; exact .inr ⟨hkn, hkb, h⟩
  have hdom : ∀ c, Dom (fun m => if m = n then some p else ρ m) (appMu mu b (l * sz) n cs) c → Dom ρ mu c ∨ w.heap.size ≤ c := by
    rintro c ⟨k, q, d, hc, hd⟩
    replace hc : (if k = n then some p else ρ k) = some c := hc
    rcases hmu' k q d hd with ⟨rfl, _⟩ | ⟨hkn, hkb, h⟩
    · rw [if_pos rfl] at hc; cases hc; exact .inl hpD
    · rw [if_neg hkn] at hc; exact .inl ⟨k, q, d, hc, h⟩
  refine ⟨h1, h2, h3, (by omega), fun c hc _ hD => hk c (by rintro rfl; exact hD hpD), fun _ c hc hD => hk c (by rintro rfl; exact hD hpD), fun _ h => h, fun _ h => .inl h, .of_abs ?_, fun k q d hd => ?_, hdom, fun _ => rfl, fun _ h => by simp at h, ⟨fun k k' c q q' hc hc' hq hq' => ?_, fun k c hc => ?_⟩, hE, fun k c hc => ?_, fun _ h => by simp at h⟩
  · simp only [Abs]
    exact ⟨_, cap, rfl, hroom, .inr ⟨p, by simp, rfl, vs', e, hh, by omega⟩⟩
  · replace hd : appMu mu b (l * sz) n cs k q = some d := hd
    rcases hmu' k q d hd with ⟨rfl, h⟩ | ⟨hkn, hkb, h⟩
    · suffices hs : ∃ v, World.cell? _ ⟨p, q, none⟩ = some v ∧ Abs _ S _ d v by
        obtain ⟨v, hv, ha⟩ := hs
        exact ⟨p, by simp, hpS, .of_cell (by simp [World.frozen?, hh]) hv ha⟩
      rcases h with ⟨hq, h⟩ | ⟨hq, h⟩
      · obtain ⟨p', hp', _, hli⟩ := hmu b q d h
        rw [hp] at hp'; cases hp'
        obtain ⟨_, v, hv', ha⟩ := hli.cell_in hb
        refine ⟨v, ?_, ha.mono hE hkS (fun _ h => h)⟩
        simp only [World.cell?, hh, hb, Option.isSome_none, Bool.false_eq_true, if_false] at hv' ⊢
        rw [hget, if_neg (by omega)]
        exact hv'
      · obtain ⟨v, hv', ha⟩ := hnw.get h
        refine ⟨v, ?_, ha.mono hE hkS (fun _ h => h)⟩
        have := (List.getElem?_eq_some_iff.1 hv').1
        simp only [World.cell?, hh, Option.isSome_none, Bool.false_eq_true, if_false]
        rw [hget, if_pos (by omega)]
        exact hv'
    · obtain ⟨c, hc, q1, hl⟩ := hmu k q d h
      have hcp := hoth k c hc hkb ⟨q, by rw [h]; rfl⟩
      exact ⟨c, (if_neg hkn).trans hc, q1, hl.mono hE hkS (fun _ h => h) (hk c hcp)⟩
  · obtain ⟨d, hd⟩ := Option.isSome_iff_exists.1 hq
    obtain ⟨d', hd'⟩ := Option.isSome_iff_exists.1 hq'
    replace hc : (if k = n then some p else ρ k) = some c := hc
    replace hc' : (if k' = n then some p else ρ k') = some c := hc'
    rcases hmu' k q d hd with ⟨e1, _⟩ | ⟨hkn, hkb, h⟩ <;> rcases hmu' k' q' d' hd' with ⟨e2, _⟩ | ⟨hkn', hkb', h'⟩
    · rw [e1, e2]
    · rw [if_pos e1] at hc; rw [if_neg hkn'] at hc'; cases hc
      exact absurd rfl (hoth k' p hc' hkb' ⟨q', by rw [h']; rfl⟩)
    · rw [if_pos e2] at hc'; rw [if_neg hkn] at hc; cases hc'
      exact absurd rfl (hoth k p hc hkb ⟨q, by rw [h]; rfl⟩)
    · rw [if_neg hkn] at hc; rw [if_neg hkn'] at hc'
      exact hnm.inj k k' c q q' hc hc' (by rw [h]; rfl) (by rw [h']; rfl)
  · replace hc : (if k = n then some p else ρ k) = some c := hc
    rw [hs]
    split at hc
    · cases hc; exact hnm.lt b _ hp
    · exact hnm.lt k c hc
  · replace hc : (if k = n then some p else ρ k) = some c := hc
    split at hc
    · rename_i h; subst h; exact .inr (by simp)
    · exact .inl hc
theorem Oper.wp_value {o : Oper} {a : Act} {w w' : World} {v : Value} {next : Act → World → Prop} {Q : Exit → Act → World → Prop} (hr : (execOp a.eval o).run P w = .ok (.value v) w') (h : next (a.put o.dst v) w') : o.wp P a w next Q := by
  unfold Oper.wp; rw [hr]; exact h

theorem equalIn_nil {t e : TypeId} (ht : P.underlying t = some (.slice e)) (w : World) (a : Addr) (n c : Nat) : (Op.equal t (.slice (some a) n c) (.slice none 0 0)).run P w = .ok false w := by
  have h := Lib.run_eql_slice_nil (P := P) w t e (some a) n c 0 0 ht
  simp only [binOp, Sem.run_bind] at h
  cases hX : (Op.equal t (.slice (some a) n c) (.slice none 0 0)).run P w with
  | ok b w1 =>
    rw [hX] at h
    simp only [Result.andThen, Sem.run_pure, Result.ok.injEq, Value.bool.injEq, Option.isNone_some] at h
    rw [h.1, h.2]
  | halt => rw [hX] at h; simp [Result.andThen] at h
theorem nilD_run (hT : ∀ t ti, T t = some ti → tiOf P t = some ti) {ev : Operand → Option DV} {op : BinOp} {t : TypeId} {x y : Operand} {b : Bool} (h : nilD T ev op t x y = some b) : ∃ d, ev x = some d ∧ d.noLoc = true ∧ y = .const (.slice none 0 0) ∧
    ∀ ρ S (w : World) v, Abs ρ S w d v → (do eqGuard op t x y v (.slice none 0 0); binOp op t v (.slice none 0 0)).run P w = .ok (.bool b) w := by
  unfold nilD at h
  split at h
  · rename_i el _ _ _ _ _ _ _ bb off n sz ht hx
    obtain ⟨_, u, _, hu, _, _, _, _, hel, _⟩ := tiOf_spec (hT _ _ ht)
    simp only at hel
    cases u <;> simp only [] at hel <;> first | (cases hel; done) | skip
    refine ⟨_, hx, rfl, rfl, fun ρ S w v hv => ?_⟩
    simp only [Abs] at hv
    obtain ⟨a, cap, rfl, _, hor⟩ := hv
    obtain ⟨p, _, rfl, _⟩ := hor.resolve_left (by omega)
    have hg : ∀ op, (eqGuard op t x (.const (.slice none 0 0)) (.slice (some ⟨p, off, none⟩) (n + 1) cap) (.slice none 0 0)).run P w = .ok () w := fun op => eqGuard_any (fun _ h => (by cases h)) (fun h => (by cases h))
    split at h <;> first | (cases h; done) | skip
    all_goals
      cases h
      simp only [Sem.run_bind, hg, Result.andThen, binOp, equalIn_nil hu, Sem.run_pure]
      try rfl
  · cases h
end
end Go.Proofs.YtpckjfncecoibaaGreat.Fun
