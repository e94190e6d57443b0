/- Stores; operations in a row. -/
import Derived.Test.YtpckjfncecoibaaGreatFunRel
namespace Go.Proofs.YtpckjfncecoibaaGreat.Fun
open Go
set_option linter.unusedSimpArgs false
set_option linter.unusedVariables false
section
variable {P : Program} {T : TypeId → Option TI}

/-- Cells of a row, stored to one by one. -/
theorem run_storeMu (b off : Nat) : ∀ (us : List Value) (i : Nat) (w : World), (∀ u ∈ us, oneC u = true) → (∀ j, j < us.length → w.frozen? ⟨b, off + i + j, none⟩ = false ∧ ∃ v, w.cell? ⟨b, off + i + j, none⟩ = some v) →
    ∃ w', (storeCells (⟨b, off, none⟩ : Addr) us i).run P w = .ok () w' ∧ (∀ j u, us[j]? = some u → w'.cell? ⟨b, off + i + j, none⟩ = some u) ∧ (∀ o, (∀ j, j < us.length → o ≠ off + i + j) → w'.cell? ⟨b, o, none⟩ = w.cell? ⟨b, o, none⟩) ∧
      (∀ o, w'.frozen? ⟨b, o, none⟩ = w.frozen? ⟨b, o, none⟩) ∧ (∀ k, k ≠ b → w'.heap[k]? = w.heap[k]?) ∧ w'.heap.size = w.heap.size ∧ w'.os = w.os ∧ w'.tape = w.tape ∧ w'.output = w.output ∧
      (∀ vs e fz, w.heap[b]? = some (.cells vs e fz) → ∃ vs', w'.heap[b]? = some (.cells vs' e fz) ∧ vs'.size = vs.size)
  | [], i, w, _, _ => ⟨w, rfl, fun j u h => by simp at h, fun _ _ => rfl, fun _ => rfl, fun _ _ => rfl, rfl, rfl, rfl, rfl, fun vs _ _ h => ⟨vs, h, rfl⟩⟩
  | u :: us, i, w, hone, hc => by
    obtain ⟨hfz, v0, hv0⟩ := hc 0 (by simp)
    rw [Nat.add_zero] at hfz hv0
    let w1 := w.setCell ⟨b, off + i, none⟩ u
    obtain ⟨c, elem, fz, hb⟩ : ∃ c elem fz, w.heap[b]? = some (.cells c elem fz) := by
      unfold World.cell? at hv0
      split at hv0
      · rename_i c e fz h; exact ⟨c, e, fz, h⟩
      · cases hv0
    have hlt : off + i < c.size := by
      simp only [World.cell?, hb, Option.isSome_none, Bool.false_eq_true, if_false] at hv0
      exact (Array.getElem?_eq_some_iff.1 hv0).1
    have h1 : w1.heap[b]? = some (.cells (c.setIfInBounds (off + i) u) elem fz) := by
      simp only [w1, World.setCell, Array.getElem?_modify, if_true, hb]
      simp
    have hcell : ∀ o, w1.cell? ⟨b, o, none⟩ = if o = off + i then some u else w.cell? ⟨b, o, none⟩ := fun o => by
      simp only [World.cell?, h1, hb, Option.isSome_none, Bool.false_eq_true, if_false]
      by_cases ho : o = off + i
      · subst ho; simp [hlt]
      · rw [if_neg ho, Array.getElem?_setIfInBounds_ne (Ne.symm ho)]
    have hfr : ∀ o, w1.frozen? ⟨b, o, none⟩ = w.frozen? ⟨b, o, none⟩ := fun o => by simp only [World.frozen?, h1, hb]
    obtain ⟨w', hr, hcs, hco, hf, hk, hs, ho, ht, hp, hz⟩ := run_storeMu b off us (i + 1) w1 (fun x hx => hone x (List.mem_cons_of_mem _ hx)) (fun j hj => by
      have := hc (j + 1) (by simp; omega)
      rw [show off + i + (j + 1) = off + (i + 1) + j by omega] at this
      obtain ⟨h1, v, h2⟩ := this
      exact ⟨by rw [hfr]; exact h1, by rw [hcell, if_neg (by omega)]; exact ⟨v, h2⟩⟩)
    refine ⟨w', ?_, fun j x hj => ?_, fun o hne => ?_, fun o => by rw [hf, hfr], fun k hkb => ?_, ?_, ho, ht, hp, fun vs e fz' hvs => ?_⟩
    · have hstore : (store (Addr.add ⟨b, off, none⟩ i) u).run P w = .ok () w1 := by
        rw [addr_add]
        have hu := hone u (by simp)
        unfold store
        cases u <;> first | (simp [oneC] at hu; done) | (simp only [Sem.run, hv0, hfz, Bool.false_eq_true, if_false]; rfl)
      simp only [storeCells, Sem.run_bind, hstore, Result.andThen]
      exact hr
    · cases j with
      | zero =>
        simp at hj; subst hj
        rw [hco _ (fun j _ => by omega), hcell, if_pos (by omega)]
      | succ j =>
        have := hcs j x (by simpa using hj)
        rwa [show off + (i + 1) + j = off + i + (j + 1) by omega] at this
    · rw [hco o (fun j hj => by have := hne (j + 1) (by simp; omega); omega), hcell, if_neg (by have := hne 0 (by simp); omega)]
    · rw [hk k hkb]
      simp only [w1, World.setCell, Array.getElem?_modify]
      rw [if_neg (Ne.symm hkb)]
    · rw [hs]; simp [w1, World.setCell]
    · rw [hb] at hvs
      cases hvs
      obtain ⟨vs', h2, h3⟩ := hz _ _ _ h1
      exact ⟨vs', h2, by simpa using h3⟩

theorem someObs_get {mu : Mu} {b : Nat} : ∀ {ds : List DV} {off : Nat}, (∀ x ∈ someObs mu b off ds, x.ok P) → ∀ j, j < ds.length → ∃ d, mu b (off + j) = some d ∧ d.plain = true
  | [], _, _, j, h => by simp at h
  | e :: ds, off, hob, 0, _ => by
    have : (mu b off).any DV.plain = true := hob (.eq _ _) (by simp [someObs])
    cases h : mu b off with
    | none => rw [h] at this; cases this
    | some d => rw [h] at this; exact ⟨d, rfl, this⟩
  | e :: ds, off, hob, j + 1, h => by
    have := someObs_get (ds := ds) (off := off + 1) (fun x hx => hob x (List.mem_cons_of_mem _ hx)) j (by simpa using h)
    rwa [show off + 1 + j = off + (j + 1) by omega] at this

/-- A store. -/
theorem storeOp_sound (hT : ∀ t ti, T t = some ti → tiOf P t = some ti) {w0 : World} {S0 D0 : Nat → Prop} {ρ0 : Nat → Option Nat} {F0 : List Nat} {ι ρ : Nat → Option Nat} {S : Nat → Prop} {w : World} {s s' : St} {obs : List Ob} {a : Act} {o : Oper}
    (r : Rel w0 S0 D0 ρ0 F0 ι ρ S w s a) (h : storeOp T s o = some (s', obs)) (hob : ∀ x ∈ obs, x.ok P) {next : Act → World → Prop} {Q : Exit → Act → World → Prop} (hnext : ∀ w', Rel w0 S0 D0 ρ0 F0 ι ρ S w' s' (a.put o.dst undef) → next (a.put o.dst undef) w') : o.wp P a w next Q := by
  obtain ⟨dst, op, type, pos, after, guard⟩ := o
  cases op <;> simp only [storeOp] at h <;> first | (cases h; done) | skip
  rename_i t ad x
  split at h
  · rename_i ti n off d hti had hx
    split at h
    · rename_i cs hl
      split at h
      · rename_i hcond
        simp only [Bool.and_eq_true, beq_iff_eq, decide_eq_true_eq, Option.isNone_iff_eq_none] at hcond
        obtain ⟨⟨⟨⟨hfirm, hone⟩, hsz⟩, hle⟩, hdst⟩ := hcond
        cases h
        subst hdst
        have hnl : d.noLoc = true := by cases d <;> first | rfl | simp [DV.firm] at hfirm
        have hany : d ≠ .any := by rintro rfl; simp [DV.firm] at hfirm
        obtain ⟨b, hb, hadv⟩ := ev_abs (a := a) ad (fun t d _ h => r.tm t d h) _ had
        have hxv := (ev_abs (a := a) x (fun t d _ h => r.tm t d h) _ hx).abs hnl
        have hcells := hxv.cells hany
        obtain ⟨fr, cs', vs, elem, hl2, hheap, hab, hfr, hge, hnd, hel⟩ := r.lo n b hb
        rw [hl] at hl2; cases hl2
        obtain ⟨i, u, hi, _, hts, _⟩ := tiOf_spec (hT _ _ hti)
        have hlen := hcells.length
        have hvl : vs.toList.length = cs.length := hab.length
        rw [Array.length_toList] at hlen hvl
        obtain ⟨w', vs', hr, hh, hv, hk, hs, ho, ht, hp⟩ := run_storeCells (P := P) b off elem (a.eval x).cells.toList 0 w vs hheap (hcells.oneCell hone) (by rw [Array.length_toList]; omega)
        have hrun : (execOp a.eval ⟨none, .store t ad x, type, pos, after, guard⟩).run P w = .ok .skip w' := by
          simp only [execOp, Instr.storeAt, hadv, Instr.sureAddr, Sem.run_bind, Sem.run_pure, Result.andThen, storeVar, run_size hi]
          rw [if_neg (by simp; omega)]
          simp only [hr, Sem.run_pure, Result.andThen]
        unfold Oper.wp
        rw [hrun]
        have hnS : ¬ S b := hfr rfl
        have keep : ∀ k, S k → w'.heap[k]? = w.heap[k]? := fun k hS => hk k (by rintro rfl; exact hnS hS)
        have hE : Ext ρ w ρ w' := fun m c hc => ⟨hc, fun us e fz hu => by
          by_cases hcb : c = b
          · subst hcb
            rw [hheap] at hu; cases hu
            exact ⟨vs', hh, by have := congrArg List.length hv; rw [foldl_set_length] at this; simpa using this⟩
          · exact ⟨us, by rw [hk c hcb]; exact hu, rfl⟩⟩
        refine hnext w' ⟨r.len, fun t d hd => ?_, fun m c hm => ?_, r.inj, r.defers, ?_, r.mu.mono hE keep (fun k hD => hk k (by rintro rfl; exact hnd hD)) (fun _ h => h) (fun k hD => r.mu.notS hD), r.dom, r.named.mono (by omega), r.free, r.older.trans hE, r.newer, fun k g hp hl => r.link k g hp (by simp only [look_set] at hl; split at hl <;> simpa using hl)⟩
        · obtain ⟨v, hv, hd'⟩ := r.tm t d hd
          exact ⟨v, hv, hd'.mono hE keep (fun _ h => h) (fun _ _ h => h)⟩
        · obtain ⟨fr, ds, us, el, hl3, hheap3, hab3, hfr3, hge3, hnd3, hel3⟩ := r.lo m c hm
          by_cases hmn : m = n
          · subst hmn
            rw [hb] at hm; cases hm
            rw [hheap] at hheap3; cases hheap3
            rw [hl] at hl3; cases hl3
            refine ⟨false, _, vs', elem, by rw [look_set, if_pos rfl, hl]; rfl, hh, ?_, fun _ => hnS, hge, hnd, hel⟩
            rw [hv]
            have := AbsL.fill (hcells.mono hE keep (fun _ h => h)) (off := off) (hab.mono hE keep (fun _ h => h))
            simpa using this
          · have hcb : c ≠ b := by rintro rfl; exact hmn (r.inj m n c hm hb)
            exact ⟨fr, ds, us, el, by rw [look_set, if_neg hmn]; exact hl3, by rw [hk c hcb]; exact hheap3, hab3.mono hE keep (fun _ h => h), hfr3, hge3, hnd3, hel3⟩
        · have k0 := r.kept
          exact ⟨ho.trans k0.os, ht.trans k0.tape, hp.trans k0.output, by rw [hs]; exact k0.size, fun k hk' hn hD => by rw [hk k (by omega)]; exact k0.old k hk' hn hD,
            fun hd k hk' hD => by rw [hk k (by omega)]; exact k0.clean hd k hk' hD, k0.up, k0.from_, fun k hk' => by rw [hs]; exact k0.sane k hk'⟩
      · cases h
    · cases h
  · rename_i ti b off d hti had hx
    split at h
    · rename_i hcond
      simp only [Bool.and_eq_true, beq_iff_eq, Option.isNone_iff_eq_none] at hcond
      obtain ⟨⟨⟨hfirm, hone⟩, hsz⟩, hdst⟩ := hcond
      cases h
      subst hdst
      have hnl : d.noLoc = true := by cases d <;> first | rfl | simp [DV.firm] at hfirm
      have hany : d ≠ .any := by rintro rfl; simp [DV.firm] at hfirm
      have hadv := (ev_abs (a := a) ad (fun t d _ h => r.tm t d h) _ had).abs rfl
      simp only [Abs] at hadv
      obtain ⟨pb, hpb, hadv⟩ := hadv
      have hxv := (ev_abs (a := a) x (fun t d _ h => r.tm t d h) _ hx).abs hnl
      have hcells := hxv.cells hany
      obtain ⟨i, u, hi, _, hts, _⟩ := tiOf_spec (hT _ _ hti)
      have hlen := hcells.length
      have hget := someObs_get (P := P) hob
      have hpos : 0 < d.cells.length ∨ d.cells = [] := by cases d.cells <;> simp
      obtain ⟨w', hr, hcs, hco, hf, hk, hs, ho, ht, hp, hz⟩ := run_storeMu (P := P) pb off (a.eval x).cells.toList 0 w (hcells.oneCell hone) (fun j hj => by
        obtain ⟨e, he, hpl⟩ := hget j (by omega)
        obtain ⟨p', hp', _, hli⟩ := r.mu b (off + j) e he
        obtain ⟨h1, v, h2, _⟩ := hli.cell hpl
        rw [hpb] at hp'; cases hp'
        exact ⟨h1, v, h2⟩)
      have hrun : (execOp a.eval ⟨none, .store t ad x, type, pos, after, guard⟩).run P w = .ok .skip w' := by
        simp only [execOp, Instr.storeAt, hadv, Instr.sureAddr, Sem.run_bind, Sem.run_pure, Result.andThen, storeVar, run_size hi]
        rw [if_neg (by rw [Array.length_toList] at hlen; simp; omega)]
        simp only [hr, Sem.run_pure, Result.andThen]
      unfold Oper.wp
      rw [hrun]
      have hcase : Dom ρ s.mu pb ∨ d.cells = [] := by
        rcases hpos with h | h
        · obtain ⟨e, he, _⟩ := hget 0 h
          exact .inl ⟨b, _, e, hpb, he⟩
        · exact .inr h
      have hsame : ∀ k, ¬ Dom ρ s.mu k → w'.heap[k]? = w.heap[k]? := fun k hk' => by
        by_cases hkb : k = pb
        · subst hkb
          rcases hcase with h | h
          · exact absurd h hk'
          · have hnil : (a.eval x).cells.toList = [] := by rw [h] at hlen; simpa using hlen
            rw [hnil] at hr
            simp only [storeCells, Sem.run_pure, Result.ok.injEq] at hr
            rw [hr.2]
        · exact hk k hkb
      have keep : ∀ k, S k → w'.heap[k]? = w.heap[k]? := fun k hS => hsame k (fun hD => r.mu.notS hD hS)
      have hE : Ext ρ w ρ w' := fun m c hc => ⟨hc, fun us e fz hu => by
        by_cases hcb : c = pb
        · subst hcb; exact hz us e fz hu
        · exact ⟨us, by rw [hk c hcb]; exact hu, rfl⟩⟩
      have hsome : ∀ k o, (updMu s.mu b off d.cells k o).isSome = true → ∃ o', (s.mu k o').isSome = true := fun k o h => by
        rw [updMu_get] at h
        split at h
        · rename_i hcond
          obtain ⟨rfl, h1, h2⟩ := hcond
          obtain ⟨e', he', hpl'⟩ := hget (o - off) (by omega)
          exact ⟨_, by rw [he']; rfl⟩
        · exact ⟨o, h⟩
      have hnm' : Named ρ (updMu s.mu b off d.cells) w' := ⟨fun n m c o o' hn hm h1 h2 => by
        obtain ⟨p1, h1⟩ := hsome n o h1
        obtain ⟨p2, h2⟩ := hsome m o' h2
        exact r.named.inj n m c p1 p2 hn hm h1 h2, fun n c hn => by rw [hs]; exact r.named.lt n c hn⟩
      have hdomle : ∀ k, Dom ρ (updMu s.mu b off d.cells) k → Dom ρ s.mu k := fun k ⟨n, o, e, hn, he⟩ => by
        rw [updMu_get] at he
        split at he
        · rename_i hcond
          obtain ⟨rfl, h1, h2⟩ := hcond
          obtain ⟨e', he', hpl'⟩ := hget (o - off) (by omega)
          exact ⟨n, _, e', hn, he'⟩
        · exact ⟨n, o, e, hn, he⟩
      refine hnext w' ⟨r.len, fun t d hd => ?_, fun m c hm => ?_, r.inj, r.defers, ?_, fun k o e he => ?_, fun k hD => r.dom k (hdomle k hD), hnm', r.free, r.older.trans hE, r.newer, r.link⟩
      · obtain ⟨v, hv, hd'⟩ := r.tm t d hd
        exact ⟨v, hv, hd'.mono hE keep (fun _ h => h) (fun _ _ h => h)⟩
      · obtain ⟨fr, ds, us, el, hl3, hheap3, hab3, hfr3, hge3, hnd3, hel3⟩ := r.lo m c hm
        exact ⟨fr, ds, us, el, hl3, by rw [hsame c hnd3]; exact hheap3, hab3.mono hE keep (fun _ h => h), hfr3, hge3, fun hD => hnd3 (hdomle c hD), hel3⟩
      · have k0 := r.kept
        exact ⟨ho.trans k0.os, ht.trans k0.tape, hp.trans k0.output, by rw [hs]; exact k0.size, fun k hk' hn hD => by rw [hsame k (fun h => (r.dom k h).elim hD (fun h => by omega))]; exact k0.old k hk' hn hD,
          fun hd k hk' hD => by rw [hsame k (fun h => (r.dom k h).elim hD (fun h => by omega))]; exact k0.clean hd k hk' hD, k0.up, k0.from_, fun k hk' => by rw [hs]; exact k0.sane k hk'⟩
      · replace he : updMu s.mu b off d.cells k o = some e := he
        rw [updMu_get] at he
        split at he
        · rename_i hcond
          obtain ⟨rfl, h1, h2⟩ := hcond
          obtain ⟨e', he', hpl'⟩ := hget (o - off) (by omega)
          obtain ⟨p', q0, q1, hli⟩ := r.mu k (off + (o - off)) e' he'
          obtain ⟨q2, v0, q3, _⟩ := hli.cell hpl'
          rw [hpb] at q0; cases q0
          obtain ⟨v, hv, ha⟩ := hcells.get he
          have := hcs (o - off) v hv
          rw [show off + 0 + (o - off) = o by omega] at this
          rw [show off + (o - off) = o by omega] at q2
          exact ⟨pb, hpb, q1, .of_cell (by rw [hf]; exact q2) this (Abs.mono hE keep (fun _ h => h) _ _ ha)⟩
        · rename_i hcond
          obtain ⟨p', q0, q1, hl⟩ := r.mu k o e he
          refine ⟨p', q0, q1, ?_⟩
          by_cases hkb : p' = pb
          · subst hkb
            rcases hpos with h | h
            · obtain ⟨e2, he2, hpl2⟩ := hget 0 h
              have hkk : k = b := r.named.inj k b p' _ _ q0 hpb (by rw [he]; rfl) (by rw [he2]; rfl)
              subst hkk
              obtain ⟨p2, hp2, _, hl2⟩ := r.mu k (off + 0) e2 he2
              rw [hpb] at hp2; cases hp2
              obtain ⟨_, _, hc2, _⟩ := hl2.cell hpl2
              obtain ⟨_, _, _, hbl⟩ := block_of_cell hc2
              obtain ⟨q2, v, q3, q4⟩ := hl.cell_in hbl
              exact .of_cell (by rw [hf]; exact q2) (by rw [hco o (fun j hj => by rw [hlen] at hj; rintro rfl; exact hcond ⟨rfl, by omega, by omega⟩)]; exact q3) (Abs.mono hE keep (fun _ h => h) _ _ q4)
            · have hnil : (a.eval x).cells.toList = [] := by rw [h] at hlen; simpa using hlen
              rw [hnil] at hr
              simp only [storeCells, Sem.run_pure, Result.ok.injEq] at hr
              exact hl.mono hE keep (fun _ h => h) (by rw [← hr.2])
          · exact hl.mono hE keep (fun _ h => h) (hk p' hkb)
    · cases h
  · cases h

/-- What a store into others' cells is. -/
theorem storeAdr_spec {s s' : St} {o : Oper} {ob : List Ob} (h : storeOp T s o = some (s', ob)) (hf : storeAdr s o = true) :
    ∃ t ad x b off ti d, o.op = .store t ad x ∧ s.ev ad = some (.adr b off) ∧ s.ev x = some d ∧ T t = some ti ∧ d.firm = true ∧ d.cells.all DV.one = true ∧ d.cells.length = ti.size ∧ o.dst = none ∧ s' = { s with mu := updMu s.mu b off d.cells } ∧ ob = someObs s.mu b off d.cells := by
  unfold storeAdr at hf
  unfold storeOp at h
  split at hf
  · rename_i t ad x hop
    rw [hop] at h
    simp only at h
    split at hf
    · rename_i b off had
      cases hti : T t with
      | none => rw [hti] at h; cases h
      | some ti =>
      cases hx : s.ev x with
      | none => rw [hti, had, hx] at h; cases h
      | some d =>
      rw [hti, had, hx] at h
      simp only at h
      split at h
      · rename_i hcond
        simp only [Bool.and_eq_true, beq_iff_eq, Option.isNone_iff_eq_none] at hcond
        obtain ⟨⟨⟨hfirm, hone⟩, hsz⟩, hdst⟩ := hcond
        cases h
        exact ⟨t, ad, x, b, off, ti, d, hop, had, hx, hti, hfirm, hone, hsz, hdst, rfl, rfl⟩
      · cases h
    · cases hf
  · cases hf
/-- A store into others' cells, whatever else is known. -/
theorem storeAdr_sound (hT : ∀ t ti, T t = some ti → tiOf P t = some ti) {ι ρ : Nat → Option Nat} {S : Nat → Prop} {mu : Mu} {w : World} {a : Act} {o : Oper} {t : TypeId} {ad x : Operand} {b off : Nat} {ti : TI} {d : DV}
    (hop : o.op = .store t ad x) (hadv : TAbs ι ρ S w (.adr b off) (a.eval ad)) (hxv : TAbs ι ρ S w d (a.eval x)) (hti : T t = some ti) (hfirm : d.firm = true) (hone : d.cells.all DV.one = true) (hsz : d.cells.length = ti.size) (hdst : o.dst = none)
    (hob : ∀ y ∈ someObs mu b off d.cells, y.ok P) (hnm : Named ρ mu w) (hmu : MuOk ρ S w mu) {next : Act → World → Prop} {Q : Exit → Act → World → Prop}
    (hnext : ∀ v w', MonoPost ι ρ S mu w o .any { mu := some (updMu mu b off d.cells) } false v w' ι ρ S → next (a.put o.dst v) w') : o.wp P a w next Q := by
  have hnl : d.noLoc = true := by cases d <;> first | rfl | simp [DV.firm] at hfirm
  have hany : d ≠ .any := by rintro rfl; simp [DV.firm] at hfirm
  simp only [TAbs, Abs] at hadv
  obtain ⟨pb, hpb, hadv⟩ := hadv
  have hcells := (hxv.abs hnl).cells hany
  obtain ⟨i, u, hi, _, hts, _⟩ := tiOf_spec (hT _ _ hti)
  have hlen := hcells.length
  have hget := someObs_get (P := P) hob
  have hpos : 0 < d.cells.length ∨ d.cells = [] := by cases d.cells <;> simp
  obtain ⟨w', hr, hcs, hco, hf, hk, hs, ho, ht, hp, hz⟩ := run_storeMu (P := P) pb off (a.eval x).cells.toList 0 w (hcells.oneCell hone) (fun j hj => by
    obtain ⟨e, he, hpl⟩ := hget j (by omega)
    obtain ⟨p', hp', _, hli⟩ := hmu b (off + j) e he
    obtain ⟨h1, v, h2, _⟩ := hli.cell hpl
    rw [hpb] at hp'; cases hp'
    exact ⟨h1, v, h2⟩)
  have hrun : (execOp a.eval o).run P w = .ok .skip w' := by
    obtain ⟨dst, op, type, pos, after, guard⟩ := o
    simp only at hop
    subst hop
    simp only [execOp, Instr.storeAt, hadv, Instr.sureAddr, Sem.run_bind, Sem.run_pure, Result.andThen, storeVar, run_size hi]
    rw [if_neg (by rw [Array.length_toList] at hlen; simp; omega)]
    simp only [hr, Sem.run_pure, Result.andThen]
  unfold Oper.wp
  rw [hrun]
  have hcase : Dom ρ mu pb ∨ d.cells = [] := by
    rcases hpos with h | h
    · obtain ⟨e, he, _⟩ := hget 0 h
      exact .inl ⟨b, _, e, hpb, he⟩
    · exact .inr h
  have hsame : ∀ k, ¬ Dom ρ mu k → w'.heap[k]? = w.heap[k]? := fun k hk' => by
    by_cases hkb : k = pb
    · subst hkb
      rcases hcase with h | h
      · exact absurd h hk'
      · have hnil : (a.eval x).cells.toList = [] := by rw [h] at hlen; simpa using hlen
        rw [hnil] at hr
        simp only [storeCells, Sem.run_pure, Result.ok.injEq] at hr
        rw [hr.2]
    · exact hk k hkb
  have keep : ∀ k, S k → w'.heap[k]? = w.heap[k]? := fun k hS => hsame k (fun hD => hmu.notS hD hS)
  have hE : Ext ρ w ρ w' := fun m c hc => ⟨hc, fun us e fz hu => by
    by_cases hcb : c = pb
    · subst hcb; exact hz us e fz hu
    · exact ⟨us, by rw [hk c hcb]; exact hu, rfl⟩⟩
  have hsome : ∀ k o, (updMu mu b off d.cells k o).isSome = true → ∃ o', (mu k o').isSome = true := fun k o h => by
    rw [updMu_get] at h
    split at h
    · rename_i hcond
      obtain ⟨rfl, h1, h2⟩ := hcond
      obtain ⟨e', he', hpl'⟩ := hget (o - off) (by omega)
      exact ⟨_, by rw [he']; rfl⟩
    · exact ⟨o, h⟩
  have hnm' : Named ρ (updMu mu b off d.cells) w' := ⟨fun n m c o o' hn hm h1 h2 => by
    obtain ⟨p1, h1⟩ := hsome n o h1
    obtain ⟨p2, h2⟩ := hsome m o' h2
    exact hnm.inj n m c p1 p2 hn hm h1 h2, fun n c hn => by rw [hs]; exact hnm.lt n c hn⟩
  have hdomle : ∀ k, Dom ρ (updMu mu b off d.cells) k → Dom ρ mu k := fun k ⟨n, o, e, hn, he⟩ => by
    rw [updMu_get] at he
    split at he
    · rename_i hcond
      obtain ⟨rfl, h1, h2⟩ := hcond
      obtain ⟨e', he', hpl'⟩ := hget (o - off) (by omega)
      exact ⟨n, _, e', hn, he'⟩
    · exact ⟨n, o, e, hn, he⟩
  show next (a.put o.dst undef) w'
  refine hnext undef w' ⟨ho, ht, hp, by omega, fun k _ _ hD => hsame k hD, fun _ k _ hD => hsame k hD, fun _ h => h, fun _ h => .inl h, by simp only [TAbs, Abs], fun k o e he => ?_, fun k hD => .inl (hdomle k hD), fun _ => rfl, fun _ h => by simp at h, hnm', hE, fun _ _ h => .inl h, fun _ h => by simp at h⟩
  replace he : updMu mu b off d.cells k o = some e := he
  rw [updMu_get] at he
  split at he
  · rename_i hcond
    obtain ⟨rfl, h1, h2⟩ := hcond
    obtain ⟨e', he', hpl'⟩ := hget (o - off) (by omega)
    obtain ⟨p', q0, q1, hli⟩ := hmu k (off + (o - off)) e' he'
    obtain ⟨q2, v0, q3, _⟩ := hli.cell hpl'
    rw [hpb] at q0; cases q0
    obtain ⟨v, hv, ha⟩ := hcells.get he
    have := hcs (o - off) v hv
    rw [show off + 0 + (o - off) = o by omega] at this
    rw [show off + (o - off) = o by omega] at q2
    exact ⟨pb, hpb, q1, .of_cell (by rw [hf]; exact q2) this (Abs.mono hE keep (fun _ h => h) _ _ ha)⟩
  · rename_i hcond
    obtain ⟨p', q0, q1, hl⟩ := hmu k o e he
    refine ⟨p', q0, q1, ?_⟩
    by_cases hkb : p' = pb
    · subst hkb
      rcases hpos with h | h
      · obtain ⟨e2, he2, hpl2⟩ := hget 0 h
        have hkk : k = b := hnm.inj k b p' _ _ q0 hpb (by rw [he]; rfl) (by rw [he2]; rfl)
        subst hkk
        obtain ⟨p2, hp2, _, hl2⟩ := hmu k (off + 0) e2 he2
        rw [hpb] at hp2; cases hp2
        obtain ⟨_, _, hc2, _⟩ := hl2.cell hpl2
        obtain ⟨_, _, _, hbl⟩ := block_of_cell hc2
        obtain ⟨q2, v, q3, q4⟩ := hl.cell_in hbl
        exact .of_cell (by rw [hf]; exact q2) (by rw [hco o (fun j hj => by rw [hlen] at hj; rintro rfl; exact hcond ⟨rfl, by omega, by omega⟩)]; exact q3) (Abs.mono hE keep (fun _ h => h) _ _ q4)
      · have hnil : (a.eval x).cells.toList = [] := by rw [h] at hlen; simpa using hlen
        rw [hnil] at hr
        simp only [storeCells, Sem.run_pure, Result.ok.injEq] at hr
        exact hl.mono hE keep (fun _ h => h) (by rw [← hr.2])
    · exact hl.mono hE keep (fun _ h => h) (hk p' hkb)

/-- What one operation of the evaluator was. -/
theorem stepI_inv {ops : Array Oper} {hide : List Nat} {mine : Option Nat} {i : Nat} {s : St} {script : List Say} {out : Out} (h : stepI T ops hide mine i s script = some out) (hob : ∀ x ∈ out.obs, x.ok P) :
    ∃ o, ops[i]? = some o ∧ (∀ t, o.dst = some t → t < s.tm.length) ∧
      ((GuardIs ops s.tm o false ∧ out.st = { s with tm := putTm s.tm o.dst (.tup []) } ∧ out.wr = false ∧ out.sens = false) ∨
       (GuardIs ops s.tm o true ∧ isStore o.op = true ∧ ∃ ob, storeOp T s o = some (out.st, ob) ∧ (∀ x ∈ ob, x.ok P) ∧ out.loud = (!storeFull mine s o && !storeAdr s o) ∧ out.wr = storeAdr s o ∧ out.sens = storeAdr s o) ∨
       (GuardIs ops s.tm o true ∧ isStore o.op = false ∧ ∃ say d e ob dirty, monoOp T s.ev (lcH hide s.lo) (s.leH hide) s.mu o say = some (d, e, ob, dirty) ∧ (∀ x ∈ ob, x.ok P) ∧ s.apply o d e dirty = some out.st ∧ (∀ n ∈ e.use, n ∈ s.free) ∧ out.loud = dirty ∧ out.wr = e.wr ∧ out.sens = (sensOp s.ev o || e.wr))) := by
  unfold stepI at h
  split at h
  · cases h
  · rename_i o ho
    split at h
    · rename_i hdst
      refine ⟨o, ho, fun t ht => by rw [ht] at hdst; simpa using hdst, ?_⟩
      split at h
      · cases h
      · rename_i rest obs hg
        cases h
        exact .inl ⟨guardOf_is hg hob, rfl, rfl, rfl⟩
      · rename_i rest obs hg
        split at h
        · rename_i hst
          simp only [Option.map_eq_some_iff] at h
          obtain ⟨⟨s', ob⟩, hs', rfl⟩ := h
          exact .inr (.inl ⟨guardOf_is hg (fun x hx => hob x (List.mem_append_left _ hx)), hst, ob, hs', fun x hx => hob x (List.mem_append_right _ hx), rfl, rfl, rfl⟩)
        · rename_i hst
          split at h
          · rename_i d e ob dirty hm
            simp only [Option.map_eq_some_iff] at h
            obtain ⟨s', hs', rfl⟩ := h
            exact .inr (.inr ⟨guardOf_is hg (fun x hx => hob x (List.mem_append_left _ hx)), by simpa using hst, _, d, e, ob, dirty, hm, fun x hx => hob x (List.mem_append_right _ (List.mem_append_left _ hx)), hs', useObs_ok fun x hx => hob x (List.mem_append_right _ (List.mem_append_right _ hx)), rfl, rfl, rfl⟩)
          · cases h
    · cases h

/-- One operation, in the order of the text. -/
theorem stepI_sound (hT : ∀ t ti, T t = some ti → tiOf P t = some ti) {w0 : World} {S0 D0 : Nat → Prop} {ρ0 : Nat → Option Nat} {F0 : List Nat} {ι ρ : Nat → Option Nat} {S : Nat → Prop} {w : World} {a : Act} {ops : Array Oper} {hide : List Nat} {mine : Option Nat} {i : Nat} {s : St} {script : List Say} {out : Out}
    (r : Rel w0 S0 D0 ρ0 F0 ι ρ S w s a) (h : stepI T ops hide mine i s script = some out) (hob : ∀ x ∈ out.obs, x.ok P) {K : Act → World → Prop} {Q : Exit → Act → World → Prop}
    (hK : ∀ ι' ρ' S' w' a', Rel w0 S0 D0 ρ0 F0 ι' ρ' S' w' out.st a' → K a' w') : wpOp P ops Q i K a w := by
  obtain ⟨o, ho, hdst, hcase⟩ := stepI_inv h hob
  have hwant : ∀ b, GuardIs ops s.tm o b → Region.wanted o (yielded ops a.tmps) = b := fun b hg => hg.wanted (fun t d _ h => r.tm t d h)
  unfold wpOp
  simp only [ho]
  rcases hcase with ⟨hg, hst, _⟩ | ⟨hg, _, ob, hst, hobs, _⟩ | ⟨hg, _, say, d, e, ob, dirty, hm, hob', hst, huse, _⟩
  · rw [if_neg (by rw [hwant _ hg]; simp)]
    refine hK ι ρ S w _ ?_
    rw [hst]
    obtain ⟨h1, h2⟩ := put_get (a := a) (dst := o.dst) (v := undef) (tm := s.tm) (d := .tup []) r.len
    refine ⟨h1, fun t x hx => ?_, r.lo, r.inj, by rw [put_defers]; exact r.defers, r.kept, r.mu, r.dom, r.named, r.free, r.older, r.newer, r.link⟩
    rcases h2 t x hx with ⟨_, rfl, hv⟩ | ⟨_, hx, hv⟩
    · exact ⟨undef, hv, by simp only [TAbs, Abs]; exact ⟨[], rfl, .nil⟩⟩
    · rw [hv]; exact r.tm t x hx
  · rw [if_pos (hwant _ hg)]
    exact .inl (storeOp_sound hT r hst hobs fun w' r' => hK _ _ _ _ _ r')
  · rw [if_pos (hwant _ hg)]
    refine .inl (monoOp_sound hT hm hob' r.named r.kept.sane r.mu (fun x _ => ev_abs x (fun t d _ h => r.tm t d h)) (fun n b hn => by obtain ⟨_, _, _, _, _, hb, _⟩ := r.lo n b hn; exact lt_of_block hb) (fun n b hn => by obtain ⟨_, _, _, _, _, _, _, _, _, hd, _⟩ := r.lo n b hn; exact hd) (fun n hn => ?_) (fun n b cs hn hl => ?_) (fun n b t hn ht => by
      obtain ⟨_, _, vs, elem, _, hb, _, _, _, _, he⟩ := r.lo n b hn
      unfold St.leH at ht
      split at ht
      · cases ht
      · unfold St.le1 at ht
        split at ht
        · have := he t ht; subst this; exact ⟨vs, hb⟩
        · cases ht) fun v w' ι' ρ' S' hp => ?_)
    · exact (r.free n (huse n hn)).1
    · obtain ⟨fr, cs', vs, elem, hl2, hheap, hab, _⟩ := r.lo n b hn
      unfold lcH at hl
      split at hl
      · cases hl
      · simp only [lcOf, hl2, Option.map_some, Option.some.injEq] at hl
        subst hl
        exact ⟨vs, elem, hheap, hab⟩
    · obtain ⟨ι2, S2, r2⟩ := r.apply hst huse hp
      exact hK _ _ _ _ _ r2

/-- Operations in a row, in the order of the text. -/
theorem runOps_sound (hT : ∀ t ti, T t = some ti → tiOf P t = some ti) {w0 : World} {S0 D0 : Nat → Prop} {ρ0 : Nat → Option Nat} {F0 : List Nat} {ops : Array Oper} {hide : List Nat} {g : Nat → Option Nat} {Q : Exit → Act → World → Prop} : ∀ (l : List Nat) {ι ρ : Nat → Option Nat} {S : Nat → Prop} {w : World} {a : Act} {s : St} {script : List Say} {out : Out},
    Rel w0 S0 D0 ρ0 F0 ι ρ S w s a → runOps T ops hide g l s script = some out → (∀ x ∈ out.obs, x.ok P) → (∀ ι' ρ' S' w' a', Rel w0 S0 D0 ρ0 F0 ι' ρ' S' w' out.st a' → Q .normal a' w') → wpOps P ops Q l a w
  | [], _, _, _, _, _, _, _, _, r, h, _, hQ => by
    simp only [runOps, Option.some.injEq] at h
    subst h
    exact hQ _ _ _ _ _ r
  | i :: l, _, _, _, _, _, _, _, _, r, h, hob, hQ => by
    simp only [runOps] at h
    split at h
    · cases h
    · rename_i r1 h1
      split at h
      · cases h
      · rename_i q h2
        cases h
        rw [wpOps_cons]
        exact stepI_sound hT r h1 (fun x hx => hob x (List.mem_append_left _ hx)) fun ι' ρ' S' w' a' r' => runOps_sound hT l r' h2 (fun x hx => hob x (List.mem_append_right _ hx)) hQ
end
end Go.Proofs.YtpckjfncecoibaaGreat.Fun
