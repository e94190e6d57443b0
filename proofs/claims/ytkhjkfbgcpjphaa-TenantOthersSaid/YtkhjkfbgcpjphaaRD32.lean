/- A fresh list, word by word. -/
import Derived.Test.YtkhjkfbgcpjphaaRD31
namespace Go.Proofs.Ytkhjkfbgcpjphaa.Fun
open Go
set_option linter.unusedVariables false
/-- What stands behind node q in a fresh list. -/
def lnk (n : Int) (q : Nat) : Int := if (q : Int) + 1 = n then 0 else (q : Int) + 2
/-- A fresh list's words, of the nodes ahead of k. -/
structure FreshK (n nd : Int) (k : Nat) (w : Nat → Int) : Prop where
  next : ∀ q : Nat, q < k → w (nd + q * 5 + 1).toNat = lnk n q
  state : ∀ q : Nat, w (nd + q * 5).toNat = 0
  wd : ∀ o, Wd (w o)
structure FreshE (n nd : Int) (w : Nat → Int) : Prop where
  head : w 0 = 1
  all : FreshK n nd n.toNat w
section
variable {n t r d b g : Int} (h : PF n t r d b g)
include h
theorem fresh68E {mb lb len i : Nat} {Q : Mu → Prop} (wb rb rn : Nat) (e : Int) : ∀ (j k : Nat), ((k + j : Nat) : Int) = n → ∀ (m : Mu) (w : Nat → Int), HasReg m mb lb len i ⟨rb, wb, rn, e, w⟩ → (rn : Int) = szP n t r d b → FreshK n (ndP t r d b) k w →
    (∀ m' w', HasReg m' mb lb len i ⟨rb, wb, rn, e, w'⟩ → Far mb wb m m' → FreshE n (ndP t r d b) w' → Q m') →
    EndsN mb i e 68 [pl n t r d b g, .int .i64 (k : Int)] m (j + 1) Q
  | 0, k, hk, m, w, hR, hsz, hf, fin => by
    have hn := h.hn; have hnd := h.nd; have hct := h.ct; have hhz := h.hz
    have hz : ((k : Int) == n) = true := by rw [beq_iff_eq]; omega
    have hv : IntKind.u64.wrap (IntKind.i64.wrap (0 + 1)) = 1 := by decide
    refine EndsN.storeAt (R := ⟨rb, wb, rn, e, w⟩) (f := 109) (caps := []) (x := IntKind.u64.wrap (IntKind.i64.wrap (0 + 1))) (f68_3_s hz (head60 h m) f93_1 (f92_1_s (store94 _ _ _ _ m))) hR (by omega) (by unfold szP at hsz; simp only; omega) (fun m' hR' far => ?_)
    refine ⟨.over, m', f109_1_o f110_1, .over, fin m' _ hR' far ⟨by simp only [upd]; rw [hv]; rfl, fun q hq => ?_, fun q => ?_, fun o => ?_⟩⟩
    · simp only [upd]; rw [if_neg (by simp; omega)]; exact hf.next q (by omega)
    · simp only [upd]; rw [if_neg (by simp; omega)]; exact hf.state q
    · simp only [upd]; split
      · exact wd_u64 _
      · exact hf.wd o
  | j + 1, k, hk, m, w, hR, hsz, hf, fin => by
    have hn := h.hn; have hnd := h.nd; have hct := h.ct; have hhz := h.hz
    have hz : ((k : Int) == n) = false := by rw [beq_eq_false_iff_ne]; omega
    have hw : IntKind.i64.wrap ((k : Int) + 1) = ((k + 1 : Nat) : Int) := by rw [wrap64 (by omega) (by omega)]; omega
    have next : ∀ x, x = lnk n k → ∀ m', HasReg m' mb lb len i ⟨rb, wb, rn, e, upd w (ndP t r d b + k * 5 + 1).toNat x⟩ → Far mb wb m m' → EndsN mb i e 95 [.ptr (pls n t r d b g), .ptr [.int .i64 (k : Int)]] m' (j + 1) Q := fun x hx m' hR' far => by
      have hlw : Wd (lnk n k) := by unfold lnk Wd; split <;> omega
      have ih := fresh68E wb rb rn e j (k + 1) (by omega) m' _ hR' hsz ⟨fun q hq => by
          simp only [upd]
          by_cases hqk : q = k
          · subst hqk; rw [if_pos rfl]; exact hx
          · rw [if_neg (by omega)]; exact hf.next q (by omega), fun q => by
          simp only [upd]; rw [if_neg (by omega)]; exact hf.state q, fun o => by
          simp only [upd]; split
          · rw [hx]; exact hlw
          · exact hf.wd o⟩ (fun m'' w'' h1 h2 h3 => fin m'' w'' h1 (far.trans h2) h3)
      refine ih.pass fun p hc => ?_
      rw [← hw] at hc
      cases p with
      | over => exact f95_1_o hc
      | step => exact f95_1_s hc
    by_cases hlast : (k : Int) + 1 = n
    · have hz2 : (IntKind.i64.wrap ((k : Int) + 1) == n) = true := by rw [hw, beq_iff_eq]; omega
      refine EndsN.storeAt (R := ⟨rb, wb, rn, e, w⟩) (x := 0) (f68_2_s hz f93_1 hz2 (next61 h (by omega) (by omega) m) (store94 _ _ _ _ m)) hR (by omega) (by unfold szP at hsz; simp only; omega) (fun m' hR' far => next 0 (by unfold lnk; rw [if_pos hlast]) m' hR' far)
    · have hz2 : (IntKind.i64.wrap ((k : Int) + 1) == n) = false := by rw [hw, beq_eq_false_iff_ne]; omega
      have hv : IntKind.u64.wrap (IntKind.i64.wrap (IntKind.i64.wrap ((k : Int) + 1) + 1)) = (k : Int) + 2 := by
        rw [hw, wrap64 (x := ((k + 1 : Nat) : Int) + 1) (by omega) (by omega), wrapu_of ⟨by omega, by omega⟩]; omega
      refine EndsN.storeAt (R := ⟨rb, wb, rn, e, w⟩) (x := IntKind.u64.wrap (IntKind.i64.wrap (IntKind.i64.wrap ((k : Int) + 1) + 1))) (f68_1_s hz f93_1 hz2 (next61 h (by omega) (by omega) m) (store94 _ _ _ _ m)) hR (by omega) (by unfold szP at hsz; simp only; omega) (fun m' hR' far => next _ (by rw [hv]; unfold lnk; rw [if_neg hlast]) m' hR' far)
/-- free.Fresh, run: the words of a fresh list. -/
theorem freshRun {mb lb len i : Nat} {rb wb rn : Nat} {e : Int} {m : Mu} (hR : HasReg m mb lb len i ⟨rb, wb, rn, e, fun _ => 0⟩) (hsz : (rn : Int) = szP n t r d b) :
    ∃ p m' w', CallOk Try.prog 41 [pl n t r d b g] m (PgN.dv p) m false [] ∧ CallOk Try.prog 40 [p.dv, .adr mb 0, .agg [.int .i64 i, .int .u64 e], .int .i64 (IntKind.i64.wrap (n + 1))] m (.tup [.agg [], .int .i64 (n + 1), .bool true]) m' false [] ∧
      HasReg m' mb lb len i ⟨rb, wb, rn, e, w'⟩ ∧ Far mb wb m m' ∧ FreshE n (ndP t r d b) w' ∧ p ≠ .over := by
  have hn := h.hn; have hnd := h.nd; have hct := h.ct; have hhz := h.hz
  obtain ⟨p, m', c41, runs, w', q1, q2, q3⟩ := (fresh68E h (Q := fun m' => ∃ w', HasReg m' mb lb len i ⟨rb, wb, rn, e, w'⟩ ∧ Far mb wb m m' ∧ FreshE n (ndP t r d b) w') wb rb rn e n.toNat 0 (by omega) m (fun _ => 0) hR hsz ⟨fun q hq => by omega, fun _ => rfl, fun _ => ⟨by simp, by simp⟩⟩ (fun m' w' a b c => ⟨w', a, b, c⟩)).pass (g := 41) (args' := [pl n t r d b g]) fun p hc => by
    cases p with
    | over => exact f41_1_o hc
    | step => exact f41_1_s hc
  have hw : IntKind.i64.wrap (n + 1) = n + 1 := wrap64 (by omega) (by omega)
  have run := runOkN (most := n + 1) (by omega) runs (by omega)
  rw [show ((n.toNat + 1 : Nat) : Int) = n + 1 by omega] at run
  refine ⟨p, m', w', c41, by rw [hw]; exact run, q1, q2, q3, ?_⟩
  rintro rfl
  have : n.toNat + 1 = 0 := by
    generalize n.toNat + 1 = k at runs
    cases runs; rfl
  omega
/-- The list of a fresh region: all nodes, in order. -/
theorem freshList {w : Nat → Int} (hf : FreshE n (ndP t r d b) w) : listW n (ndP t r d b) w n.toNat (w 0 % 2097152) = (List.range n.toNat).map fun q : Nat => (q : Int) := by
  have hn := h.hn
  have go : ∀ (j k : Nat), k + j = n.toNat → listW n (ndP t r d b) w j (if j = 0 then 0 else (k : Int) + 1) = (List.range' k j).map fun q : Nat => (q : Int) := by
    intro j
    induction j with
    | zero => intro k hk; simp [listW]
    | succ j ih =>
      intro k hk
      rw [if_neg (by omega)]
      simp only [listW]
      rw [if_pos ⟨by omega, by omega⟩, List.range'_succ, List.map_cons]
      have e1 : (k : Int) + 1 - 1 = k := by omega
      rw [e1, hf.all.next k (by omega)]
      congr 1
      rw [← ih (k + 1) (by omega)]
      congr 1
      unfold lnk
      by_cases hj : j = 0
      · rw [if_pos (by omega), if_pos hj]
      · rw [if_neg (by omega), if_neg hj]; omega
  have := go n.toNat 0 (by omega)
  rw [if_neg (by omega)] at this
  rw [hf.head, show (1 : Int) % 2097152 = ((0 : Nat) : Int) + 1 by decide, this, List.range_eq_range']
end
end Go.Proofs.Ytkhjkfbgcpjphaa.Fun
