/- A fresh list, word by word: all words are told. -/
import Derived.Test.YtkhjkfbgcpjphaaGreatRD23
namespace Go.Proofs.YtkhjkfbgcpjphaaGreat.Fun
open Go
set_option linter.unusedVariables false
/-- What stands behind node q in a fresh list. -/
def lnk (n : Int) (q : Nat) : Int := if (q : Int) + 1 = n then 0 else (q : Int) + 2
/-- A fresh list's words, of the nodes ahead of k. -/
structure FreshQ (n nd : Int) (k : Nat) (w : Nat → Int) : Prop where
  next : ∀ q : Nat, q < k → w (nd + q * 5 + 1).toNat = lnk n q
  els : ∀ o : Nat, (∀ q : Nat, q < k → o ≠ (nd + q * 5 + 1).toNat) → w o = 0
structure FreshA (n nd : Int) (w : Nat → Int) : Prop where
  head : w 0 = 1
  next : ∀ q : Nat, q < n.toNat → w (nd + q * 5 + 1).toNat = lnk n q
  els : ∀ o : Nat, o ≠ 0 → (∀ q : Nat, q < n.toNat → o ≠ (nd + q * 5 + 1).toNat) → w o = 0
theorem FreshA.eq {n nd : Int} {w v : Nat → Int} (h : FreshA n nd w) (k : FreshA n nd v) : w = v := by
  funext o
  by_cases h0 : o = 0
  · subst h0; rw [h.head, k.head]
  by_cases hq : ∃ q : Nat, q < n.toNat ∧ o = (nd + q * 5 + 1).toNat
  · obtain ⟨q, h1, rfl⟩ := hq
    rw [h.next q h1, k.next q h1]
  · have hn : ∀ q : Nat, q < n.toNat → o ≠ (nd + q * 5 + 1).toNat := fun q h1 h2 => hq ⟨q, h1, h2⟩
    rw [h.els o h0 hn, k.els o h0 hn]
section
variable {n t r d b g : Int} (h : PF n t r d b g)
include h
theorem FreshA.wd {w : Nat → Int} (k : FreshA n (ndP t r d b) w) : ∀ o, Wd (w o) := fun o => by
  have hn := h.hn
  by_cases h0 : o = 0
  · subst h0; rw [k.head]; exact ⟨by omega, by omega⟩
  by_cases hq : ∃ q : Nat, q < n.toNat ∧ o = (ndP t r d b + q * 5 + 1).toNat
  · obtain ⟨q, h1, rfl⟩ := hq
    rw [k.next q h1]; unfold lnk Wd; split <;> omega
  · rw [k.els o h0 fun q h1 h2 => hq ⟨q, h1, h2⟩]; exact ⟨by omega, by omega⟩
theorem fresh68A {mb lb len i : Nat} {Q : Mu → Prop} (wb rb rn : Nat) (e : Int) : ∀ (j k : Nat), ((k + j : Nat) : Int) = n → ∀ (m : Mu) (w : Nat → Int), HasReg m mb lb len i ⟨rb, wb, rn, e, w⟩ → (rn : Int) = szP n t r d b → FreshQ n (ndP t r d b) k w →
    (∀ m' w', HasReg m' mb lb len i ⟨rb, wb, rn, e, w'⟩ → Far mb wb m m' → FreshA n (ndP t r d b) w' → Q m') →
    EndsN mb i e 40 [pl n t r d b g, .int .i64 (k : Int)] m (j + 1) Q
  | 0, k, hk, m, w, hR, hsz, hf, fin => by
    have hn := h.hn; have hnd := h.nd; have hct := h.ct; have hhz := h.hz
    have hz : ((k : Int) == n) = true := by rw [beq_iff_eq]; omega
    have hv : IntKind.u64.wrap (IntKind.i64.wrap (0 + 1)) = 1 := by decide
    have hkn : n.toNat = k := by omega
    refine EndsN.storeAt (R := ⟨rb, wb, rn, e, w⟩) (f := 117) (caps := []) (x := IntKind.u64.wrap (IntKind.i64.wrap (0 + 1))) (f40_3_s hz (head60 h m) f77_1 (f76_1_s (store94 _ _ _ _ m))) hR (by omega) (by unfold szP at hsz; simp only; omega) (fun m' hR' far => ?_)
    refine ⟨.over, m', f117_1_o f118_1, .over, fin m' _ hR' far ⟨by simp only [upd]; rw [hv]; rfl, fun q hq => ?_, fun o h0 ho => ?_⟩⟩
    · simp only [upd]; rw [if_neg (by simp; omega)]; exact hf.next q (by omega)
    · simp only [upd]; rw [if_neg (by simpa using h0)]; exact hf.els o (fun q hq => ho q (by omega))
  | j + 1, k, hk, m, w, hR, hsz, hf, fin => by
    have hn := h.hn; have hnd := h.nd; have hct := h.ct; have hhz := h.hz
    have hz : ((k : Int) == n) = false := by rw [beq_eq_false_iff_ne]; omega
    have hw : IntKind.i64.wrap ((k : Int) + 1) = ((k + 1 : Nat) : Int) := by rw [wrap64 (by omega) (by omega)]; omega
    have next : ∀ x, x = lnk n k → ∀ m', HasReg m' mb lb len i ⟨rb, wb, rn, e, upd w (ndP t r d b + k * 5 + 1).toNat x⟩ → Far mb wb m m' → EndsN mb i e 80 [.ptr (pls n t r d b g), .ptr [.int .i64 (k : Int)]] m' (j + 1) Q := fun x hx m' hR' far => by
      have ih := fresh68A wb rb rn e j (k + 1) (by omega) m' _ hR' hsz ⟨fun q hq => by
          simp only [upd]
          by_cases hqk : q = k
          · subst hqk; rw [if_pos rfl]; exact hx
          · rw [if_neg (by omega)]; exact hf.next q (by omega), fun o ho => by
          simp only [upd]; rw [if_neg (ho k (by omega))]; exact hf.els o (fun q hq => ho q (by omega))⟩ (fun m'' w'' h1 h2 h3 => fin m'' w'' h1 (far.trans h2) h3)
      refine ih.pass fun p hc => ?_
      rw [← hw] at hc
      cases p with
      | over => exact f80_1_o hc
      | step => exact f80_1_s hc
    by_cases hlast : (k : Int) + 1 = n
    · have hz2 : (IntKind.i64.wrap ((k : Int) + 1) == n) = true := by rw [hw, beq_iff_eq]; omega
      refine EndsN.storeAt (R := ⟨rb, wb, rn, e, w⟩) (x := 0) (f40_2_s hz f77_1 hz2 (next61 h (by omega) (by omega) m) (store94 _ _ _ _ m)) hR (by omega) (by unfold szP at hsz; simp only; omega) (fun m' hR' far => next 0 (by unfold lnk; rw [if_pos hlast]) m' hR' far)
    · have hz2 : (IntKind.i64.wrap ((k : Int) + 1) == n) = false := by rw [hw, beq_eq_false_iff_ne]; omega
      have hv : IntKind.u64.wrap (IntKind.i64.wrap (IntKind.i64.wrap ((k : Int) + 1) + 1)) = (k : Int) + 2 := by
        rw [hw, wrap64 (x := ((k + 1 : Nat) : Int) + 1) (by omega) (by omega), wrapu_of ⟨by omega, by omega⟩]; omega
      refine EndsN.storeAt (R := ⟨rb, wb, rn, e, w⟩) (x := IntKind.u64.wrap (IntKind.i64.wrap (IntKind.i64.wrap ((k : Int) + 1) + 1))) (f40_1_s hz f77_1 hz2 (next61 h (by omega) (by omega) m) (store94 _ _ _ _ m)) hR (by omega) (by unfold szP at hsz; simp only; omega) (fun m' hR' far => next _ (by rw [hv]; unfold lnk; rw [if_neg hlast]) m' hR' far)
/-- cubiclelaw09.Laid, with all words told. -/
theorem laid15A (m : Mu) (a : Nat) : ∃ m' w', CallOk Tryz.prog 6 [pl n t r d b g] m (.adr a 0) m' false (nms a 4) ∧ HasReg m' a (a + 3) 1 0 ⟨a + 2, a + 1, (szP n t r d b).toNat, 1, w'⟩ ∧ FreshA n (ndP t r d b) w' ∧ Low a m m' := by
  have hn := h.hn; have hnd := h.nd; have hct := h.ct; have hhz := h.hz
  have hs : 0 ≤ szP n t r d b ∧ szP n t r d b ≤ 16777216 := by unfold szP; omega
  obtain ⟨m1, h1, hR, low⟩ := new39 hs.1 hs.2 m a
  obtain ⟨p, m2, c41, runs, w', hR', far, hf⟩ := (fresh68A h (Q := fun m' => ∃ w', HasReg m' a (a + 3) 1 0 ⟨a + 2, a + 1, (szP n t r d b).toNat, 1, w'⟩ ∧ Far a (a + 1) m1 m' ∧ FreshA n (ndP t r d b) w') (a + 1) (a + 2) (szP n t r d b).toNat 1 n.toNat 0 (by omega) m1 (fun _ => 0) hR (by omega) ⟨fun q hq => by omega, fun _ _ => rfl⟩ (fun m' w' a b c => ⟨w', a, b, c⟩)).pass (g := 20) (args' := [pl n t r d b g]) fun p hc => by
    cases p with
    | over => exact f20_1_o hc
    | step => exact f20_1_s hc
  have hw : IntKind.i64.wrap (n + 1) = n + 1 := wrap64 (by omega) (by omega)
  have run := runOkN (most := n + 1) (by omega) runs (by omega)
  rw [← hw] at run
  refine ⟨m2, w', ?_, hR', hf, fun c hc o => by rw [far c (by omega) (by omega), low c hc]⟩
  cases p with
  | over => exact f6_1_o (size38 h m) h1 (all_self _) rfl c41 (capOk hR) run rfl
  | step => exact f6_1_s (size38 h m) h1 (all_self _) rfl c41 (capOk hR) run rfl
end
end Go.Proofs.YtkhjkfbgcpjphaaGreat.Fun
