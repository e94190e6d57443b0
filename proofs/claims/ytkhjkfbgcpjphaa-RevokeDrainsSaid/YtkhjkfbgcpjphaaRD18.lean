/- revoke.Drain, whole, with what stands behind the call that makes it. -/
import Derived.Test.YtkhjkfbgcpjphaaRD17
namespace Go.Proofs.Ytkhjkfbgcpjphaa.Fun
open Go
set_option linter.unusedVariables false
theorem storeAtP {mb lb len i : Nat} {R : Reg} {at_ x : Int} {f g : FuncId} {args caps : List DV} {m : Mu} {a k : Nat} {r : Int} {Q : Mu → Nat → Prop} (hc : CallOk Try.prog g args m (Pg.step 1 at_ x 0 97 [.ptr [.func f caps]]).dv m false []) (hR : HasReg m mb lb len i R) (h0 : 0 ≤ at_) (h1 : at_ < R.n)
    (next : ∀ m', HasReg m' mb lb len i { R with w := upd R.w at_.toNat x } → Far mb R.wb m m' → Ends mb i R.e f caps m' a k r Q) :
    ∃ p m' a', CallOk Try.prog g args m p.dv m false (nms a 0) ∧ Runs mb i R.e p m a (k + 1) r m' a' ∧ Q m' a' := by
  obtain ⟨m1, hd, hR', far⟩ := doStore hR h0 h1 x 0
  obtain ⟨p, m2, j, m', a', h2, h3, h4⟩ := next m1 hR' far
  exact ⟨_, m', a', hc, .step hd (pass97 _ p h2) h3, h4⟩
theorem zeroP {mb lb len i : Nat} {f : FuncId} {caps : List DV} {a k : Nat} {r : Int} {Q : Mu → Nat → Prop} {b : Nat} (p0 : Nat) (ats : List Nat) (o : Nat) (m : Mu) (R : Reg) (hR : HasReg m mb lb len i R) (hb1 : b ≠ R.wb) (hb2 : b ≠ mb)
    (hrow : ∀ (j p : Nat), (p0 :: ats)[j]? = some p → m b (o + j) = some (.int .i64 (p : Int))) (hin : ∀ p ∈ p0 :: ats, p < R.n)
    (next : ∀ m', HasReg m' mb lb len i { R with w := (p0 :: ats).foldl (fun w p => upd w p 0) R.w } → Far mb R.wb m m' → Ends mb i R.e f caps m' a k r Q) :
    ∃ p m' a', CallOk Try.prog 46 [.vec b o (p0 :: ats).length 1, .func f caps] m p.dv m false (nms a 0) ∧ Runs mb i R.e p m a (k + (p0 :: ats).length) r m' a' ∧ Q m' a' := by
  have hat : m b (o + (0 : Int).toNat * 1) = some (.int .i64 (p0 : Int)) := hrow 0 p0 rfl
  have hlt : p0 < R.n := hin p0 (by simp)
  have hd : (decide ((0 : Int) ≤ 0 ∧ (0 : Int) < ((ats.length + 1 : Nat) : Nat))) = true := decide_eq_true (by omega)
  have hz : ((((ats.length + 1 : Nat) : Int) : Int) == 0) = false := by rw [beq_eq_false_iff_ne]; omega
  rw [List.length_cons, ← Nat.add_assoc]
  refine storeAtP (x := 0) (f := 70) (caps := [.ptr [.vec b o (ats.length + 1) 1], .ptr [.func f caps]]) (f46_1_s hz hd hat (store69 _ _ _ _ m)) hR (by omega) (by omega) (fun m' hR' far => ?_)
  have ih := zeroEnds (f := f) (caps := caps) (a := a) (k := k) (r := r) (Q := Q) (b := b) ats (o + 1) m' _ hR' hb1 hb2 (fun j p hj => by
    rw [far b hb1 hb2, show o + 1 + j = o + (j + 1) by omega]
    exact hrow (j + 1) p (by simpa using hj)) (fun p hp => hin p (by simp [hp])) (fun m'' hR'' far' => by
      rw [Int.toNat_natCast] at hR''
      exact next m'' hR'' (far.trans far'))
  exact ih.pass fun p m1 F h => pass70 p h
section
variable {n t r d b g : Int}
theorem drainP (h : PF n t r d b g) {mb lb len i : Nat} {Q : Mu → Nat → Prop} (gone : Nat → Bool) (X S0 S1 S2 : Nat → Int) (m : Mu) (R : Reg) (a : Nat) (hR : HasReg m mb lb len i R) (hsz : (R.n : Int) = szP n t r d b)
    (l1 : mb < a) (l2 : lb < a) (l3 : R.rb < a) (l4 : R.wb < a)
    (hst : ∀ q : Nat, (q : Int) < n → StOk g (R.w (ndP t r d b + q * 5).toNat) (X q) (S0 q) (S1 q) (S2 q) ∧ gone q = ((S1 q : Int) == 3))
    (fin : ∀ m' a', HasReg m' mb lb len i { R with w := (drainW n t r d b gone X R.w).1 } → Far0 a mb R.wb m m' → a ≤ a' → Q m' a') :
    ∃ p m1 m' a', CallOk Try.prog 18 [pl n t r d b g] m p.dv m1 false (nms a (nPl t d b)) ∧ Low a m m1 ∧ Runs mb i R.e p m1 (a + nPl t d b) (n.toNat * 5 + (0 + n.toNat) + 1 + nPl t d b) (drainW n t r d b gone X R.w).2 m' a' ∧ Q m' a' := by
  have hn := h.hn; have hnd := h.nd; have hct := h.ct; have hz := h.hz
  obtain ⟨m1, row, hp, hrow, low, hra⟩ := places47 h m a
  have hR1 := hR.low low l1 l2 l3 l4
  have hlen := plcs_len t r d b
  obtain ⟨p0, ats, hpl⟩ : ∃ p0 ats, plcs t r d b = p0 :: ats := by
    cases hq : plcs t r d b with
    | nil => rw [hq] at hlen; unfold nPl at hlen; simp at hlen; omega
    | cons p0 ats => exact ⟨p0, ats, rfl⟩
  have z := zeroP (mb := mb) (lb := lb) (len := len) (i := i) (f := 48) (caps := [.ptr (pls n t r d b g)]) (a := a + nPl t d b) (k := n.toNat * 5 + (0 + n.toNat) + 1) (r := (drainW n t r d b gone X R.w).2) (Q := Q) (b := row) p0 ats 0 m1 R hR1 (by omega) (by omega)
    (fun j p hp => by rw [Nat.zero_add]; exact hrow.at_ j p (by rw [hpl]; exact hp)) (fun p hp => by
      rw [← hpl] at hp
      have := plcs_lt h hp
      unfold szP at hsz; omega) (fun m2 hR2 far2 => by
      rw [← hpl] at hR2
      refine (nodesEnds h (Q := Q) gone X S0 S1 S2 a n.toNat 0 (by omega) m2 ⟨R.rb, R.wb, R.n, R.e, (plcs t r d b).foldl (fun w p => upd w p 0) R.w⟩ (a + nPl t d b) .nils hR2 hsz l1 l2 l3 l4 (by omega) (.inl ⟨rfl, rfl⟩) (fun row len e => by cases e)
        (fun q _ hq => ?_) (fun m' a' hR' far' ha' => fin m' a' hR' (fun c h1 h2 h3 o => ?_) (by omega))).pass fun p m1 F hc => pass48 p hc
      · have := hst q hq
        rw [← foldl_upd_other (plcs t r d b) R.w (show (ndP t r d b + q * 5).toNat ∉ plcs t r d b from fun hm => by have := plcs_lt h hm; omega)] at this
        exact this
      · rw [far' c h1 h2 h3, far2 c h2 h3, low c h1])
  rw [← hpl, hlen] at z
  obtain ⟨p, m', a', z1, z2, z3⟩ := z
  exact ⟨p, m1, m', a', pass18 (l := 0) p hp z1, low, z2, z3⟩
/-- A formed plan's drain of a fresh region, on names from 0 on: what is needed of it. -/
theorem steps20 (h : PF n t r d b g) (m : Mu) (a : Nat) : ∃ m', CallOk Try.prog 20 [pl n t r d b g] m (.int .i64 ((nPl t d b : Nat) + n * 6 + 1)) m' false (nms a (nPl t d b)) ∧ Low a m m' := by
  have hn := h.hn; have hd := h.hd; have ht := h.ht; have hc := h.cl
  obtain ⟨m1, row, hp, hrow, low, hra⟩ := places47 h m a
  have hb : nPl t d b ≤ 200 := by
    have : d.toNat * (1 + (cl b).toNat) ≤ 6 * 11 := Nat.mul_le_mul (by omega) (by omega)
    unfold nPl; omega
  have c := f20_1 (formed37 h m) rfl hp (all_self _)
  rw [wrap64 (x := n * 6) (by omega) (by omega), wrap64 (x := ((nPl t d b : Nat) : Int) + n * 6) (by omega) (by omega), wrap64 (by omega) (by omega)] at c
  exact ⟨m1, c, low⟩
end
end Go.Proofs.Ytkhjkfbgcpjphaa.Fun
