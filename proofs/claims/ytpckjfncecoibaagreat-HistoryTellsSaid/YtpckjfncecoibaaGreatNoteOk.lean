/- service.note: a tenant's log with an entry more. (125: its number; the tables are FunTabs'.) -/
import Derived.Test.YtpckjfncecoibaaGreatFunLend
import Derived.Test.YtpckjfncecoibaaGreatFunDeep
import Derived.Test.YtpckjfncecoibaaGreatFunTabs
namespace Go.Proofs.YtpckjfncecoibaaGreat.Fun
open Go
set_option linter.unusedSimpArgs false
set_option linter.unusedVariables false
theorem appMu_low {m : Mu} {b k n c : Nat} {cs : List DV} (h1 : c ≠ n) (h2 : c ≠ b) {o : Nat} : appMu m b k n cs c o = m c o := by
  unfold appMu; rw [if_neg h1, if_neg h2]
theorem obsPt {P : Program} {x : Option DV} {d : DV} {l : List Ob} (h : x = some d) (t : ∀ y ∈ l, y.ok P) : ∀ y ∈ Ob.part x d :: l, y.ok P := fun y hy => by rcases List.mem_cons.1 hy with rfl | hy; exact h; exact t y hy
theorem noteD0 {mu : Mu} {n lg k : Nat} {t th e v : Int} (h1 : decide ((0 : Int) ≤ t ∧ t < (k : Int)) = true) (h2 : mu lg (0 + t.toNat * 1) = some .nils) (h3 : ((appMu mu n 0 n [.int .i64 th, .int .i64 e, .int .u64 v]) lg (0 + t.toNat * 1)).any DV.plain = true) :
    CallOk Tryz.prog 125 [.ptr [.any, .any, .any, .any, .any, .any, .any, .any, .any, .any, .any, .any, .vec lg 0 k 1, .any], .ptr [.any, .int .i64 t, .int .i64 th, .any, .any], .agg [.int .i64 e, .int .u64 v]] mu (.tup [])
      (updMu (appMu mu n 0 n [.int .i64 th, .int .i64 e, .int .u64 v]) lg (0 + t.toNat * 1) [.vec n 0 1 3]) false (List.range' n (n + 1 - n)) :=
  (callOk_M (deepS_ok Auto.tabOk (by kernel_rfl) Auto.fnsOk sumsL_nil 1000 30) [.d 1, .v .nils, .d 2, .d 1, .d 1] (obsE h1 (obsPt h2 (obsE (b := true) (y := true) rfl (obsE (b := true) (y := true) rfl (obsE h1 (obsE h3 obsN)))))) (by kernel_rfl)).1
/-- An empty log's first entry. -/
theorem note_nil {mu : Mu} {n s w lg k : Nat} {t th e v : Int} (hs : ∀ o, o < 14 → (mu s o).any DV.plain = true) (hs12 : mu s 12 = some (.vec lg 0 k 1)) (hw : ∀ o, o < 5 → (mu w o).any DV.plain = true) (hw1 : mu w 1 = some (.int .i64 t)) (hw2 : mu w 2 = some (.int .i64 th))
    (hlg : ∀ o c, mu lg o = some c → flat1 c = true ∧ ∀ x ∈ nameOf c, x ≠ s ∧ x ≠ w) (h1 : lg ≠ s) (h2 : lg ≠ w) (h3 : lg ≠ n) (ht : 0 ≤ t ∧ t < (k : Int)) (hnil : mu lg t.toNat = some .nils) (hn : ∀ o, mu n o = none) :
    CallOk Tryz.prog 125 [.adr s 0, .adr w 0, .agg [.int .i64 e, .int .u64 v]] mu (.tup []) (updMu (appMu mu n 0 n [.int .i64 th, .int .i64 e, .int .u64 v]) lg t.toNat [.vec n 0 1 3]) false [n] := by
  have hns : n ≠ s := fun q => by subst q; have := hs 0 (by omega); rw [hn] at this; cases this
  have hnw : n ≠ w := fun q => by subst q; rw [hn] at hw1; cases hw1
  let mu0 : Mu := fun b o => if b = lg then mu b o else none
  have c := noteD0 (mu := mu0) (n := n) (lg := lg) (k := k) (t := t) (th := th) (e := e) (v := v) (decide_eq_true ht) (by show (if lg = lg then mu lg (0 + t.toNat * 1) else none) = _; rw [if_pos rfl, show 0 + t.toNat * 1 = t.toNat by omega]; exact hnil)
    (by rw [appMu_low h3 h3]; show ((if lg = lg then mu lg (0 + t.toNat * 1) else none) : Option DV).any DV.plain = true; rw [if_pos rfl, show 0 + t.toNat * 1 = t.toNat by omega, hnil]; rfl)
  rw [show n + 1 - n = 1 by omega, show List.range' n 1 = [n] from rfl, show 0 + t.toNat * 1 = t.toNat by omega] at c
  have at1 : ∀ b o, updMu (appMu mu0 n 0 n [.int .i64 th, .int .i64 e, .int .u64 v]) lg t.toNat [.vec n 0 1 3] b o = if b = lg ∧ o = t.toNat then some (.vec n 0 1 3) else if b = n then [DV.int .i64 th, .int .i64 e, .int .u64 v][o]? else mu0 b o := fun b o => by
    simp only [updMu, appMu]
    by_cases q : b = lg ∧ o = t.toNat
    · rw [if_pos q, if_pos q]
    · rw [if_neg q, if_neg q]
      by_cases q2 : b = n
      · rw [if_pos q2, if_pos q2, if_neg (by omega)]; rfl
      · rw [if_neg q2, if_neg q2, if_neg q2]
  have l := CallOk.lend (mu := mu) (ds := [.adr s 0, .adr w 0, .agg [.int .i64 e, .int .u64 v]]) (fun b => b == s || b == w) (fun b => b == lg || b == n) c (fun b o x hx => by
    change (if b = lg then mu b o else none) = some x at hx
    split at hx
    · rename_i hb
      subst hb
      obtain ⟨f1, f2⟩ := hlg o x hx
      exact ⟨hx, by simp, by simp [h1, h2], f1, fun y hy => by have := f2 y hy; simp [this.1, this.2]⟩
    · cases hx) (fun b o x hx => by
    rw [at1] at hx
    split at hx
    · rename_i hb; cases hx; exact ⟨by simp [hb.1], rfl⟩
    · split at hx
      · rename_i hb
        refine ⟨by simp [hb], ?_⟩
        have : x ∈ [DV.int .i64 th, .int .i64 e, .int .u64 v] := List.mem_of_getElem? hx
        simp only [List.mem_cons, List.not_mem_nil, or_false] at this
        rcases this with rfl | rfl | rfl <;> rfl
      · change (if b = lg then mu b o else none) = some x at hx
        split at hx
        · rename_i hb
          subst hb
          exact ⟨by simp, (hlg o x hx).1⟩
        · cases hx) (fun b hb => by
    simp only [Bool.or_eq_true, beq_iff_eq] at hb
    rcases hb with rfl | rfl
    · exact .inr ⟨t.toNat, by show ((if b = b then mu b t.toNat else none) : Option DV).isSome = true; rw [if_pos rfl, hnil]; rfl⟩
    · exact .inl (by simp)) (fun ρ ρ' S S' w v h => by
      simp only [Abs] at h ⊢
      obtain ⟨vs, rfl, h⟩ := h
      exact ⟨vs, rfl, by rw [h.nil_inv]; exact .nil⟩) (fun ρ S W vs hnm hmu hab => by
    obtain ⟨v0, r0, rfl, hv0, hr0⟩ := hab.cons_inv
    obtain ⟨v1, r1, rfl, hv1, hr1⟩ := hr0.cons_inv
    obtain ⟨v2, r2, rfl, hv2, hr2⟩ := hr1.cons_inv
    cases hr2.nil_inv
    refine .cons (lent_ptr (b := s) hmu (by simp) (by simp) (fun o x hx => ?_) hv0) (.cons (lent_ptr (b := w) hmu (by simp) (by simp) (fun o x hx => ?_) hv1) (.cons ?_ .nil))
    · have ho : o < 14 := by have := (List.getElem?_eq_some_iff.1 hx).1; simpa using this
      obtain ⟨y, hy, hp⟩ : ∃ y, mu s o = some y ∧ y.plain = true := by
        have := hs o ho
        cases hq : mu s o with
        | none => rw [hq] at this; cases this
        | some y => rw [hq] at this; exact ⟨y, rfl, this⟩
      refine ⟨y, hy, hp, ?_⟩
      by_cases h12 : o = 12
      · subst h12
        rw [hs12] at hy
        cases hy; cases hx
        exact .inr ⟨rfl, rfl, fun z hz => by simp only [nameOf, List.mem_singleton] at hz; subst hz; simp [h1, h2]⟩
      · left
        have : o = 0 ∨ o = 1 ∨ o = 2 ∨ o = 3 ∨ o = 4 ∨ o = 5 ∨ o = 6 ∨ o = 7 ∨ o = 8 ∨ o = 9 ∨ o = 10 ∨ o = 11 ∨ o = 13 := by omega
        rcases this with rfl | rfl | rfl | rfl | rfl | rfl | rfl | rfl | rfl | rfl | rfl | rfl | rfl <;> (cases hx; rfl)
    · have ho : o < 5 := by have := (List.getElem?_eq_some_iff.1 hx).1; simpa using this
      obtain ⟨y, hy, hp⟩ : ∃ y, mu w o = some y ∧ y.plain = true := by
        have := hw o ho
        cases hq : mu w o with
        | none => rw [hq] at this; cases this
        | some y => rw [hq] at this; exact ⟨y, rfl, this⟩
      refine ⟨y, hy, hp, ?_⟩
      have : o = 0 ∨ o = 1 ∨ o = 2 ∨ o = 3 ∨ o = 4 := by omega
      rcases this with rfl | rfl | rfl | rfl | rfl
      · left; cases hx; rfl
      · rw [hw1] at hy; cases hy; cases hx; exact .inr ⟨rfl, rfl, fun z hz => by simp [nameOf] at hz⟩
      · rw [hw2] at hy; cases hy; cases hx; exact .inr ⟨rfl, rfl, fun z hz => by simp [nameOf] at hz⟩
      · left; cases hx; rfl
      · left; cases hx; rfl
    · simp only [Abs] at hv2 ⊢
      obtain ⟨us, rfl, hu⟩ := hv2
      obtain ⟨u0, q0, rfl, k0, hq0⟩ := hu.cons_inv
      obtain ⟨u1, q1, rfl, k1, hq1⟩ := hq0.cons_inv
      cases hq1.nil_inv
      simp only [Abs] at k0 k1
      exact ⟨[u0, u1], rfl, .cons (by simp only [Abs]; exact k0) (.cons (by simp only [Abs]; exact k1) .nil)⟩)
  have e : (fun b o => if (b == lg || b == n) = true then updMu (appMu mu0 n 0 n [.int .i64 th, .int .i64 e, .int .u64 v]) lg t.toNat [.vec n 0 1 3] b o else mu b o) = updMu (appMu mu n 0 n [.int .i64 th, .int .i64 e, .int .u64 v]) lg t.toNat [.vec n 0 1 3] := by
    funext b o
    rw [at1]
    simp only [updMu, appMu]
    by_cases q : b = lg ∧ o = t.toNat
    · rw [if_pos q, if_pos q, if_pos (by simp [q.1])]
    · rw [if_neg q, if_neg q]
      by_cases q2 : b = n
      · rw [if_pos q2, if_pos (by simp [q2]), if_pos q2, if_neg (by omega)]; rfl
      · rw [if_neg q2, if_neg q2, if_neg q2]
        by_cases q3 : b = lg
        · rw [if_pos (by simp [q3])]
          show (if b = lg then mu b o else none) = _
          rw [if_pos q3]
        · rw [if_neg (by simp [q2, q3])]
  rw [e] at l
  exact l
/-- The like, of rows. -/
def noteA : List DV → Mem → Option (DV × Mem)
  | [.adr s 0, .adr w 0, .agg [.int .i64 e, .int .u64 v]], .rows h =>
    match h[s]?, h[w]? with
    | some [_, _, _, _, _, _, _, _, _, _, _, _, .vec lg 0 k 1, _], some [_, .int .i64 t, .int .i64 th, _, _] =>
      match h[lg]? with
      | some row =>
        if ((h[s]?.getD []).all DV.plain && (h[w]?.getD []).all DV.plain && row.all (fun c => flat1 c && (nameOf c).all fun x => !(Nat.beq x s) && !(Nat.beq x w))) && (!(Nat.beq lg s) && !(Nat.beq lg w)) && decide (0 ≤ t ∧ t < (k : Int)) then
          (match row[t.toNat]? with
          | some .nils => some (.tup [], .rows (h.set lg (row.set t.toNat (.vec h.length 0 1 3)) ++ [[.int .i64 th, .int .i64 e, .int .u64 v]]))
          | _ => none)
        else none
      | none => none
    | _, _ => none
  | _, _ => none
theorem noteA_ok (args : List DV) (mem : Mem) (d : DV) (mem' : Mem) (h : noteA args mem = some (d, mem')) : CallOk Tryz.prog 125 args mem.mu d mem'.mu false (names mem mem') ∧ mem.size ≤ mem'.size := by
  unfold noteA at h
  split at h
  · rename_i s w e v h0
    split at h
    · rename_i x0 x1 x2 x3 x4 x5 x6 x7 x8 x9 x10 x11 lg k x13 y0 t th y3 y4 hs hw
      split at h
      · rename_i row hlg
        split at h
        · rename_i hc
          split at h
          · rename_i hnil
            cases h
            simp only [Bool.and_eq_true, decide_eq_true_eq, Bool.not_eq_true', hs, hw, Option.getD_some] at hc
            obtain ⟨⟨⟨⟨p1, p2⟩, p3⟩, p4, p5⟩, p6⟩ := hc
            have ltg : lg < h0.length := (List.getElem?_eq_some_iff.1 hlg).1
            have hne : ∀ {a b : Nat}, Nat.beq a b = false → a ≠ b := fun {a b} h q => by subst q; rw [Nat.beq_refl] at h; cases h
            have q := note_nil (mu := rowsMu h0) (n := h0.length) (s := s) (w := w) (lg := lg) (k := k) (t := t) (th := th) (e := e) (v := v) (fun o ho => ?_) (by simp [rowsMu, hs]) (fun o ho => ?_) (by simp [rowsMu, hw]) (by simp [rowsMu, hw]) (fun o c hc => ?_) (hne p4) (hne p5) (by omega) p6 (by simp [rowsMu, hlg, hnil]) (fun o => rowsMu_none h0 o)
            · refine ⟨?_, by simp [Mem.size]⟩
              rw [show names (.rows h0) (.rows (h0.set lg (row.set t.toNat (.vec h0.length 0 1 3)) ++ [[.int .i64 th, .int .i64 e, .int .u64 v]])) = [h0.length] by simp [names, Mem.size]]
              have em : Mem.mu (.rows (h0.set lg (row.set t.toNat (.vec h0.length 0 1 3)) ++ [[.int .i64 th, .int .i64 e, .int .u64 v]])) = updMu (appMu (rowsMu h0) h0.length 0 h0.length [.int .i64 th, .int .i64 e, .int .u64 v]) lg t.toNat [.vec h0.length 0 1 3] := by
                show rowsMu _ = _
                rw [rowsMu_app0]
                have := rowsMu_store (h := h0 ++ [[.int .i64 th, .int .i64 e, .int .u64 v]]) (b := lg) (off := t.toNat) (row := row) (cs := [.vec h0.length 0 1 3]) (by rw [List.getElem?_append_left ltg]; exact hlg) (.inr (by have := (List.getElem?_eq_some_iff.1 hnil).1; simp; omega))
                rw [← this, List.set_append_left _ _ ltg]
                rfl
              rw [em]; exact q
            · simp only [rowsMu, hs, Option.bind_some]
              rw [List.getElem?_eq_getElem (by simpa using ho)]
              exact List.all_eq_true.1 p1 _ (List.getElem_mem _)
            · simp only [rowsMu, hw, Option.bind_some]
              rw [List.getElem?_eq_getElem (by simpa using ho)]
              exact List.all_eq_true.1 p2 _ (List.getElem_mem _)
            · simp only [rowsMu, hlg, Option.bind_some] at hc
              have := List.all_eq_true.1 p3 c (List.mem_of_getElem? hc)
              simp only [Bool.and_eq_true] at this
              refine ⟨this.1, fun x hx => ?_⟩
              have := List.all_eq_true.1 this.2 x hx
              simp only [Bool.and_eq_true, Bool.not_eq_true'] at this
              exact ⟨hne this.1, hne this.2⟩
          · cases h
        · cases h
      · cases h
    · cases h
  · cases h
end Go.Proofs.YtpckjfncecoibaaGreat.Fun
