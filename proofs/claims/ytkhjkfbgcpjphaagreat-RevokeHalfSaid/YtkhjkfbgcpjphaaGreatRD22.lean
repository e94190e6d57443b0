/- A drain of whatever words, as its call and its run; words put into a region. -/
import Derived.Test.YtkhjkfbgcpjphaaGreatRD21
namespace Go.Proofs.YtkhjkfbgcpjphaaGreat.Fun
open Go Go.Proofs.YtkhjkfbgcpjphaaGreat.Fun.B
set_option linter.unusedVariables false
theorem storeAtS {D : (Nat → Int) → Prop} {a0 : Nat} {m0 : Mu} {mb lb len i : Nat} {R : Reg} {at_ x : Int} {f g : FuncId} {args caps : List DV} {m : Mu} {a k : Nat} {r : Int} {Q : Mu → Nat → Prop} (hc : CallOk Tryz.prog g args m (Pg.step 1 at_ x 0 103 [.ptr [.func f caps]]).dv m false []) (hR : HasReg m mb lb len i R) (hD : KF D a0 mb R.wb m0 R.w m) (h0 : 0 ≤ at_) (h1 : at_ < R.n)
    (next : ∀ m', HasReg m' mb lb len i { R with w := upd R.w at_.toNat x } → Far mb R.wb m m' → Ends (KD D a0 m0 mb lb len i R) mb i R.e f caps m' a k r Q) :
    ∃ at_ caps m' a', CallOk Tryz.prog g args m (Pg.step 1 at_ x 0 103 caps).dv m false (nms a 0) ∧ Runs (KD D a0 m0 mb lb len i R) mb i R.e (Pg.step 1 at_ x 0 103 caps) m a (k + 1) r m' a' ∧ Q m' a' := by
  obtain ⟨m1, hd, hR', far⟩ := doStore hR h0 h1 x 0
  obtain ⟨p, m2, j, m', a', h2, h3, h4⟩ := next m1 hR' far
  exact ⟨_, _, m', a', hc, .step ⟨R.w, hR, hD⟩ hd (pass97 _ p h2) h3, h4⟩
theorem zeroS {D : (Nat → Int) → Prop} {a0 : Nat} {m0 : Mu} {mb lb len i : Nat} {f : FuncId} {caps : List DV} {a k : Nat} {r : Int} {Q : Mu → Nat → Prop} {b : Nat} (p0 : Nat) (ats : List Nat) (o : Nat) (m : Mu) (R : Reg) (hR : HasReg m mb lb len i R) (hD : KF D a0 mb R.wb m0 R.w m) (hb1 : b ≠ R.wb) (hb2 : b ≠ mb) (hZ : ∀ p ∈ p0 :: ats, ∀ w, D w → D (upd w p 0))
    (hrow : ∀ (j p : Nat), (p0 :: ats)[j]? = some p → m b (o + j) = some (.int .i64 (p : Int))) (hin : ∀ p ∈ p0 :: ats, p < R.n)
    (next : ∀ m', HasReg m' mb lb len i { R with w := (p0 :: ats).foldl (fun w p => upd w p 0) R.w } → KF D a0 mb R.wb m0 ((p0 :: ats).foldl (fun w p => upd w p 0) R.w) m' → Far mb R.wb m m' → Ends (KD D a0 m0 mb lb len i R) mb i R.e f caps m' a k r Q) :
    ∃ at_ cs m' a', CallOk Tryz.prog 31 [.vec b o (p0 :: ats).length 1, .func f caps] m (Pg.step 1 at_ 0 0 103 cs).dv m false (nms a 0) ∧ Runs (KD D a0 m0 mb lb len i R) mb i R.e (Pg.step 1 at_ 0 0 103 cs) m a (k + (p0 :: ats).length) r m' a' ∧ Q m' a' := by
  have hat : m b (o + (0 : Int).toNat * 1) = some (.int .i64 (p0 : Int)) := hrow 0 p0 rfl
  have hlt : p0 < R.n := hin p0 (by simp)
  have hd : (decide ((0 : Int) ≤ 0 ∧ (0 : Int) < ((ats.length + 1 : Nat) : Nat))) = true := decide_eq_true (by omega)
  have hz : ((((ats.length + 1 : Nat) : Int) : Int) == 0) = false := by rw [beq_eq_false_iff_ne]; omega
  rw [List.length_cons, ← Nat.add_assoc]
  refine storeAtS (x := 0) (f := 57) (caps := [.ptr [.vec b o (ats.length + 1) 1], .ptr [.func f caps]]) (f31_1_s hz hd hat (store69 _ _ _ _ m)) hR hD (by omega) (by omega) (fun m' hR' far => ?_)
  have ih := zeroEnds (f := f) (caps := caps) (a := a) (k := k) (r := r) (Q := Q) (b := b) ats (o + 1) m' _ hR' (hD.up (fun hd => by rw [Int.toNat_natCast]; exact hZ p0 (by simp) _ hd) far) hb1 hb2 (fun p hp => hZ p (by simp [hp])) (fun j p hj => by
    rw [far b hb1 hb2, show o + 1 + j = o + (j + 1) by omega]
    exact hrow (j + 1) p (by simpa using hj)) (fun p hp => hin p (by simp [hp])) (fun m'' hR'' hD'' far' => by
      rw [Int.toNat_natCast] at hR'' hD''
      exact next m'' hR'' hD'' (far.trans far'))
  exact ih.pass fun p m1 F h => pass70 p h
theorem namesStep {a j r : Nat} {G : List Nat} (hG : G = nms a (j + r)) : ((nms a j).all fun n => G.contains n) = true ∧ offUse (nms a j) G = nms (a + j) r := by
  subst hG
  exact ⟨all_nms (Nat.le_refl _) (by omega), off_nms a j r⟩
section
variable {n t r d b g : Int}
theorem drainR (h : PF n t r d b g) {D : (Nat → Int) → Prop} {mb lb : Nat} (m : Mu) (rb wb rn : Nat) (e : Int) (w : Nat → Int) (a : Nat) (hR : HasReg m mb lb 1 0 ⟨rb, wb, rn, e, w⟩) (hsz : (rn : Int) = szP n t r d b) (hw : ∀ o, Wd (w o))
    (hC : DC n t r d b (XW (ndP t r d b) g w) D) (hZ : ∀ p ∈ plcs t r d b, ∀ w, D w → D (upd w p 0)) (hDw : D w)
    (l1 : mb < a) (l2 : lb < a) (l3 : rb < a) (l4 : wb < a) :
    ∃ at_ caps m1 m2 a', CallOk Tryz.prog 11 [pl n t r d b g] m (Pg.step 1 at_ 0 0 103 caps).dv m1 false (nms a (nPl t d b)) ∧ HasReg m1 mb lb 1 0 ⟨rb, wb, rn, e, w⟩ ∧ Low a m m1 ∧
      Runs (KD D a m mb lb 1 0 ⟨rb, wb, rn, e, w⟩) mb 0 e (Pg.step 1 at_ 0 0 103 caps) m1 (a + nPl t d b) (n.toNat * 5 + (0 + n.toNat) + 1 + nPl t d b) (drnW n t r d b g w).2 m2 a' ∧
      HasReg m2 mb lb 1 0 ⟨rb, wb, rn, e, (drnW n t r d b g w).1⟩ ∧ Far0 a mb wb m m2 ∧ nPl t d b ≤ 200 := by
  have hn := h.hn; have hnd := h.nd; have hct := h.ct; have hz := h.hz; have ht := h.ht; have hd := h.hd; have hc := h.cl
  obtain ⟨m1, row, hp, hrow, low, hra⟩ := places47 h m a
  have hR1 := hR.low low l1 l2 l3 l4
  have hlen := plcs_len t r d b
  have hb : nPl t d b ≤ 200 := by
    have : d.toNat * (1 + (cl b).toNat) ≤ 6 * 11 := Nat.mul_le_mul (by omega) (by omega)
    unfold nPl; omega
  obtain ⟨p0, ats, hpl⟩ : ∃ p0 ats, plcs t r d b = p0 :: ats := by
    cases hq : plcs t r d b with
    | nil => rw [hq] at hlen; unfold nPl at hlen; simp at hlen; omega
    | cons p0 ats => exact ⟨p0, ats, rfl⟩
  have z := zeroS (D := D) (a0 := a) (m0 := m) (mb := mb) (lb := lb) (len := 1) (i := 0) (f := 33) (caps := [.ptr (pls n t r d b g)]) (a := a + nPl t d b) (k := n.toNat * 5 + (0 + n.toNat) + 1) (r := (drnW n t r d b g w).2)
    (Q := fun m' a' => HasReg m' mb lb 1 0 ⟨rb, wb, rn, e, (drnW n t r d b g w).1⟩ ∧ Far0 a mb wb m m') (b := row) p0 ats 0 m1 ⟨rb, wb, rn, e, w⟩ hR1 ⟨hDw, fun c h1 h2 h3 o => low c h1 o⟩ (by simp only; omega) (by omega) (fun p hp => hZ p (by rw [hpl]; exact hp))
    (fun j p hp => by rw [Nat.zero_add]; exact hrow.at_ j p (by rw [hpl]; exact hp)) (fun p hp => by
      rw [← hpl] at hp
      have := plcs_lt h hp
      unfold szP at hsz; simp only; omega) (fun m2 hR2 hD2 far2 => by
      rw [← hpl] at hR2 hD2
      refine (nodesEnds h (D := D) (m0 := m) (Q := fun m' a' => HasReg m' mb lb 1 0 ⟨rb, wb, rn, e, (drnW n t r d b g w).1⟩ ∧ Far0 a mb wb m m') (goneW (ndP t r d b) g w) (XW (ndP t r d b) g w) (fun q => (stS g (w (ndP t r d b + q * 5).toNat)).1) (fun q => (stS g (w (ndP t r d b + q * 5).toNat)).2.1) (fun q => (stS g (w (ndP t r d b + q * 5).toNat)).2.2) hC a n.toNat 0 (by omega) m2 ⟨rb, wb, rn, e, (plcs t r d b).foldl (fun w p => upd w p 0) w⟩ (a + nPl t d b) .nils hR2 hD2 hsz l1 l2 l3 l4 (by omega) (.inl ⟨rfl, rfl⟩) (fun row len e => by cases e)
        (fun q _ hq => ?_) (fun m' a' hR' far' ha' => ⟨hR', fun c h1 h2 h3 o => ?_⟩)).pass fun p m1 F hc => pass48 p hc
      · simp only
        rw [foldl_upd_other (plcs t r d b) w (show (ndP t r d b + q * 5).toNat ∉ plcs t r d b from fun hm => by have := plcs_lt h hm; omega)]
        exact ⟨stOkW (hw _), rfl⟩
      · rw [far' c h1 h2 h3, far2 c h2 h3, low c h1])
  rw [← hpl, hlen] at z
  obtain ⟨at_, caps, m2, a', z1, z2, z3, z4⟩ := z
  exact ⟨at_, caps, m1, m2, a', pass18 (l := 0) _ hp z1, hR1, low, z2, z3, z4, hb⟩
theorem drainS (h : PF n t r d b g) {mb lb : Nat} (m : Mu) (rb wb rn : Nat) (e : Int) (w : Nat → Int) (a : Nat) (hR : HasReg m mb lb 1 0 ⟨rb, wb, rn, e, w⟩) (hsz : (rn : Int) = szP n t r d b) (hw : ∀ o, Wd (w o))
    (l1 : mb < a) (l2 : lb < a) (l3 : rb < a) (l4 : wb < a) :
    ∃ at_ caps m1 m2 x, CallOk Tryz.prog 11 [pl n t r d b g] m (Pg.step 1 at_ 0 0 103 caps).dv m1 false (nms a (nPl t d b)) ∧ HasReg m1 mb lb 1 0 ⟨rb, wb, rn, e, w⟩ ∧ Low a m m1 ∧
      CallOk Tryz.prog 10 [(Pg.step 1 at_ 0 0 103 caps).dv, .adr mb 0, .agg [.int .i64 0, .int .u64 e], .int .i64 100000] m1 (.tup [.int .i64 (drnW n t r d b g w).2, .int .i64 ((n.toNat * 5 + (0 + n.toNat) + 1 + nPl t d b : Nat) : Int), .bool true]) m2 false (nms (a + nPl t d b) x) ∧
      HasReg m2 mb lb 1 0 ⟨rb, wb, rn, e, (drnW n t r d b g w).1⟩ ∧ Far0 a mb wb m m2 := by
  have hn := h.hn
  obtain ⟨at_, caps, m1, m2, a', c18, hR1, low, z2, z3, z4, hb⟩ := drainR h (D := fun _ => True) m rb wb rn e w a hR hsz hw ⟨fun _ _ _ _ => trivial, fun _ _ _ _ _ _ => trivial, fun _ _ _ _ _ _ => trivial, fun _ _ _ _ => trivial⟩ (fun _ _ _ _ => trivial) trivial l1 l2 l3 l4
  have hle := z2.le
  have run := runOk (most := 100000) (by omega) z2 (by omega) (a' - (a + nPl t d b)) (by omega)
  exact ⟨at_, caps, m1, m2, a' - (a + nPl t d b), c18, hR1, low, run, z3, z4⟩
/-- A drain that is stopped: what its stores keep is so. -/
theorem drainT (h : PF n t r d b g) {D : (Nat → Int) → Prop} {mb lb : Nat} (m : Mu) (rb wb rn : Nat) (e : Int) (w : Nat → Int) (a : Nat) (hR : HasReg m mb lb 1 0 ⟨rb, wb, rn, e, w⟩) (hsz : (rn : Int) = szP n t r d b) (hw : ∀ o, Wd (w o))
    (hC : DC n t r d b (XW (ndP t r d b) g w) D) (hZ : ∀ p ∈ plcs t r d b, ∀ w, D w → D (upd w p 0)) (hDw : D w)
    (l1 : mb < a) (l2 : lb < a) (l3 : rb < a) (l4 : wb < a) (stop : Int) (s0 : 0 ≤ stop) (s1 : stop ≤ 255) :
    ∃ at_ caps m1 m2 x, ∃ (r' c : Int) (o : Bool), CallOk Tryz.prog 11 [pl n t r d b g] m (Pg.step 1 at_ 0 0 103 caps).dv m1 false (nms a (nPl t d b)) ∧ HasReg m1 mb lb 1 0 ⟨rb, wb, rn, e, w⟩ ∧ Low a m m1 ∧
      CallOk Tryz.prog 10 [(Pg.step 1 at_ 0 0 103 caps).dv, .adr mb 0, .agg [.int .i64 0, .int .u64 e], .int .i64 stop] m1 (.tup [.int .i64 r', .int .i64 c, .bool o]) m2 false (nms (a + nPl t d b) x) ∧
      (∃ w', HasReg m2 mb lb 1 0 ⟨rb, wb, rn, e, w'⟩ ∧ D w') ∧ Far0 a mb wb m m2 := by
  obtain ⟨at_, caps, m1, m2, a', c18, hR1, low, z2, z3, z4, hb⟩ := drainR h m rb wb rn e w a hR hsz hw hC hZ hDw l1 l2 l3 l4
  have hle := z2.le
  obtain ⟨r', c, o, m'', run, w', k1, k2⟩ := runTill (most := stop) s0 (by omega) z2 (a' - (a + nPl t d b)) (by omega)
  exact ⟨at_, caps, m1, m'', a' - (a + nPl t d b), r', c, o, c18, hR1, low, run, ⟨w', k1, k2.d⟩, k2.f⟩
end
end Go.Proofs.YtkhjkfbgcpjphaaGreat.Fun
