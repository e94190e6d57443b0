/- A drain of whatever words, as its call and its run; words put into a region. -/
import Derived.Test.YtkhjkfbgcpjphaaRD21
namespace Go.Proofs.Ytkhjkfbgcpjphaa.Fun
open Go Go.Proofs.Ytkhjkfbgcpjphaa.Fun.B
set_option linter.unusedVariables false
theorem storeAtS {mb lb len i : Nat} {R : Reg} {at_ x : Int} {f g : FuncId} {args caps : List DV} {m : Mu} {a k : Nat} {r : Int} {Q : Mu → Nat → Prop} (hc : CallOk Try.prog g args m (Pg.step 1 at_ x 0 97 [.ptr [.func f caps]]).dv m false []) (hR : HasReg m mb lb len i R) (h0 : 0 ≤ at_) (h1 : at_ < R.n)
    (next : ∀ m', HasReg m' mb lb len i { R with w := upd R.w at_.toNat x } → Far mb R.wb m m' → Ends mb i R.e f caps m' a k r Q) :
    ∃ at_ caps m' a', CallOk Try.prog g args m (Pg.step 1 at_ x 0 97 caps).dv m false (nms a 0) ∧ Runs mb i R.e (Pg.step 1 at_ x 0 97 caps) m a (k + 1) r m' a' ∧ Q m' a' := by
  obtain ⟨m1, hd, hR', far⟩ := doStore hR h0 h1 x 0
  obtain ⟨p, m2, j, m', a', h2, h3, h4⟩ := next m1 hR' far
  exact ⟨_, _, m', a', hc, .step hd (pass97 _ p h2) h3, h4⟩
theorem zeroS {mb lb len i : Nat} {f : FuncId} {caps : List DV} {a k : Nat} {r : Int} {Q : Mu → Nat → Prop} {b : Nat} (p0 : Nat) (ats : List Nat) (o : Nat) (m : Mu) (R : Reg) (hR : HasReg m mb lb len i R) (hb1 : b ≠ R.wb) (hb2 : b ≠ mb)
    (hrow : ∀ (j p : Nat), (p0 :: ats)[j]? = some p → m b (o + j) = some (.int .i64 (p : Int))) (hin : ∀ p ∈ p0 :: ats, p < R.n)
    (next : ∀ m', HasReg m' mb lb len i { R with w := (p0 :: ats).foldl (fun w p => upd w p 0) R.w } → Far mb R.wb m m' → Ends mb i R.e f caps m' a k r Q) :
    ∃ at_ cs m' a', CallOk Try.prog 46 [.vec b o (p0 :: ats).length 1, .func f caps] m (Pg.step 1 at_ 0 0 97 cs).dv m false (nms a 0) ∧ Runs mb i R.e (Pg.step 1 at_ 0 0 97 cs) m a (k + (p0 :: ats).length) r m' a' ∧ Q m' a' := by
  have hat : m b (o + (0 : Int).toNat * 1) = some (.int .i64 (p0 : Int)) := hrow 0 p0 rfl
  have hlt : p0 < R.n := hin p0 (by simp)
  have hd : (decide ((0 : Int) ≤ 0 ∧ (0 : Int) < ((ats.length + 1 : Nat) : Nat))) = true := decide_eq_true (by omega)
  have hz : ((((ats.length + 1 : Nat) : Int) : Int) == 0) = false := by rw [beq_eq_false_iff_ne]; omega
  rw [List.length_cons, ← Nat.add_assoc]
  refine storeAtS (x := 0) (f := 70) (caps := [.ptr [.vec b o (ats.length + 1) 1], .ptr [.func f caps]]) (f46_1_s hz hd hat (store69 _ _ _ _ m)) hR (by omega) (by omega) (fun m' hR' far => ?_)
  have ih := zeroEnds (f := f) (caps := caps) (a := a) (k := k) (r := r) (Q := Q) (b := b) ats (o + 1) m' _ hR' hb1 hb2 (fun j p hj => by
    rw [far b hb1 hb2, show o + 1 + j = o + (j + 1) by omega]
    exact hrow (j + 1) p (by simpa using hj)) (fun p hp => hin p (by simp [hp])) (fun m'' hR'' far' => by
      rw [Int.toNat_natCast] at hR''
      exact next m'' hR'' (far.trans far'))
  exact ih.pass fun p m1 F h => pass70 p h
theorem namesStep {a j r : Nat} {G : List Nat} (hG : G = nms a (j + r)) : ((nms a j).all fun n => G.contains n) = true ∧ offUse (nms a j) G = nms (a + j) r := by
  subst hG
  exact ⟨all_nms (Nat.le_refl _) (by omega), off_nms a j r⟩
/-- A list's elements, two cells each. -/
def pr (p : Int × Int) : List DV := [.int .i64 p.1, .int .u64 p.2]
theorem flat2 : ∀ (l : List (Int × Int)) (k : Nat) (p : Int × Int), l[k]? = some p → ((l.flatMap pr).drop (k * 2))[0]? = some (.int .i64 p.1) ∧ (((l.flatMap pr).drop (k * 2)).drop 1)[0]? = some (.int .u64 p.2)
  | [], k, p, h => by simp at h
  | q :: l, 0, p, h => by simp at h; subst h; simp [pr]
  | q :: l, k + 1, p, h => by
    have := flat2 l k p (by simpa using h)
    rw [List.flatMap_cons, show (k + 1) * 2 = 2 + k * 2 by omega, ← List.drop_drop]
    exact this
theorem putMiss {m : Mu} {mb lb len i : Nat} {R : Reg} (h : HasReg m mb lb len i R) {a : Int} (ha : ¬ (0 ≤ a ∧ a < R.n)) (x : Int) : CallOk Try.prog 21 [.adr mb 0, .agg [.int .i64 i, .int .u64 R.e], .agg [.int .i64 1, .int .i64 a, .int .u64 x, .int .u64 0]] m (.tup [.int .u64 0, .bool false]) m false [] := by
  by_cases h0 : a < 0
  · exact f21_10 (goodOk h R.e) (by simp) (decide_eq_true h0)
  · exact f21_9 (goodOk h R.e) (by simp) (decide_eq_false h0) (sizeOk h) (decide_eq_true (by omega))
section
variable {n t r d b g : Int}
/-- A drain's call, and its run to the end. -/
theorem drainS (h : PF n t r d b g) {mb lb : Nat} (m : Mu) (rb wb rn : Nat) (e : Int) (w : Nat → Int) (a : Nat) (hR : HasReg m mb lb 1 0 ⟨rb, wb, rn, e, w⟩) (hsz : (rn : Int) = szP n t r d b) (hw : ∀ o, Wd (w o))
    (l1 : mb < a) (l2 : lb < a) (l3 : rb < a) (l4 : wb < a) :
    ∃ at_ caps m1 m2 x, CallOk Try.prog 18 [pl n t r d b g] m (Pg.step 1 at_ 0 0 97 caps).dv m1 false (nms a (nPl t d b)) ∧ HasReg m1 mb lb 1 0 ⟨rb, wb, rn, e, w⟩ ∧ Low a m m1 ∧
      CallOk Try.prog 17 [(Pg.step 1 at_ 0 0 97 caps).dv, .adr mb 0, .agg [.int .i64 0, .int .u64 e], .int .i64 100000] m1 (.tup [.int .i64 (drnW n t r d b g w).2, .int .i64 ((n.toNat * 5 + (0 + n.toNat) + 1 + nPl t d b : Nat) : Int), .bool true]) m2 false (nms (a + nPl t d b) x) ∧
      HasReg m2 mb lb 1 0 ⟨rb, wb, rn, e, (drnW n t r d b g w).1⟩ ∧ Far0 a mb wb m m2 := by
  have hn := h.hn; have hnd := h.nd; have hct := h.ct; have hz := h.hz; have ht := h.ht; have hd := h.hd; have hc := h.cl
  obtain ⟨m1, row, hp, hrow, low, hra⟩ := places47 h m a
  have hR1 := hR.low low l1 l2 l3 l4
  have hlen := plcs_len t r d b
  have hb : nPl t d b ≤ 200 := by
    have : d.toNat * (1 + (cl b).toNat) ≤ 6 * 11 := Nat.mul_le_mul (by omega) (by omega)
    unfold nPl; omega
  obtain ⟨p0, ats, hpl⟩ : ∃ p0 ats, plcs t r d b = p0 :: ats := by
    cases hq : plcs t r d b with
    | nil => rw [hq] at hlen; unfold nPl at hlen; simp at hlen; omega
    | cons p0 ats => exact ⟨p0, ats, rfl⟩
  have z := zeroS (mb := mb) (lb := lb) (len := 1) (i := 0) (f := 48) (caps := [.ptr (pls n t r d b g)]) (a := a + nPl t d b) (k := n.toNat * 5 + (0 + n.toNat) + 1) (r := (drnW n t r d b g w).2)
    (Q := fun m' a' => HasReg m' mb lb 1 0 ⟨rb, wb, rn, e, (drnW n t r d b g w).1⟩ ∧ Far0 a mb wb m m') (b := row) p0 ats 0 m1 ⟨rb, wb, rn, e, w⟩ hR1 (by simp only; omega) (by omega)
    (fun j p hp => by rw [Nat.zero_add]; exact hrow.at_ j p (by rw [hpl]; exact hp)) (fun p hp => by
      rw [← hpl] at hp
      have := plcs_lt h hp
      unfold szP at hsz; simp only; omega) (fun m2 hR2 far2 => by
      rw [← hpl] at hR2
      refine (nodesEnds h (Q := fun m' a' => HasReg m' mb lb 1 0 ⟨rb, wb, rn, e, (drnW n t r d b g w).1⟩ ∧ Far0 a mb wb m m') (goneW (ndP t r d b) g w) (XW (ndP t r d b) g w) (fun q => (stS g (w (ndP t r d b + q * 5).toNat)).1) (fun q => (stS g (w (ndP t r d b + q * 5).toNat)).2.1) (fun q => (stS g (w (ndP t r d b + q * 5).toNat)).2.2) a n.toNat 0 (by omega) m2 ⟨rb, wb, rn, e, (plcs t r d b).foldl (fun w p => upd w p 0) w⟩ (a + nPl t d b) .nils hR2 hsz l1 l2 l3 l4 (by omega) (.inl ⟨rfl, rfl⟩) (fun row len e => by cases e)
        (fun q _ hq => ?_) (fun m' a' hR' far' ha' => ⟨hR', fun c h1 h2 h3 o => ?_⟩)).pass fun p m1 F hc => pass48 p hc
      · simp only
        rw [foldl_upd_other (plcs t r d b) w (show (ndP t r d b + q * 5).toNat ∉ plcs t r d b from fun hm => by have := plcs_lt h hm; omega)]
        exact ⟨stOkW (hw _), rfl⟩
      · rw [far' c h1 h2 h3, far2 c h2 h3, low c h1])
  rw [← hpl, hlen] at z
  obtain ⟨at_, caps, m2, a', z1, z2, z3, z4⟩ := z
  have hle := z2.le
  have run := runOk (most := 100000) (by omega) z2 (by omega) (a' - (a + nPl t d b)) (by omega)
  exact ⟨at_, caps, m1, m2, a' - (a + nPl t d b), pass18 (l := 0) _ hp z1, hR1, low, run, z3, z4⟩
/-- Words put, one behind the other. -/
theorem putsAll {mb lb : Nat} (rb wb rn : Nat) (e : Int) (l : List (Int × Int)) (hl : ∀ p ∈ l, Wd p.2) (h60 : l.length ≤ 60) : ∀ (j k : Nat), k + j = l.length → ∀ (m : Mu) (w : Nat → Int), HasReg m mb lb 1 0 ⟨rb, wb, rn, e, w⟩ → (∀ o, Wd (w o)) →
    ∃ m' w', (∀ fr, LoopOk Try.prog (codeAt [true, true, true, true, false, true, false, false] (Try.f6.body.getD .skip)) (L6_1 n t r d b g (l.flatMap pr) l.length mb (k : Int) m false fr) (.exit 0) (L6_1 n t r d b g (l.flatMap pr) l.length mb (l.length : Int) m' false fr)) ∧ HasReg m' mb lb 1 0 ⟨rb, wb, rn, e, w'⟩ ∧ ∀ o, Wd (w' o)
  | 0, k, hk, m, w, hR, hw => by
    obtain rfl : k = l.length := by omega
    exact ⟨m, w, fun fr => .last (by simp) (L6_1_1 (decide_eq_false (by omega))), hR, hw⟩
  | j + 1, k, hk, m, w, hR, hw => by
    have hwr : IntKind.i64.wrap ((k : Int) + 1) = ((k + 1 : Nat) : Int) := by rw [wrap64 (by omega) (by omega)]; omega
    obtain ⟨p, hp⟩ : ∃ p, l[k]? = some p := ⟨l[k], List.getElem?_eq_getElem (by omega)⟩
    obtain ⟨p1, p2⟩ := flat2 l k p hp
    have hpw : Wd p.2 := hl p (List.mem_of_getElem? hp)
    obtain ⟨m1, w1, v1, v2, hc, hR1, hw1⟩ : ∃ m1 w1 v1 v2, CallOk Try.prog 21 [.adr mb 0, .agg [.int .i64 0, .int .u64 e], .agg [.int .i64 1, .int .i64 p.1, .int .u64 p.2, .int .u64 0]] m (.tup [.int .u64 v1, .bool v2]) m1 false [] ∧ HasReg m1 mb lb 1 0 ⟨rb, wb, rn, e, w1⟩ ∧ ∀ o, Wd (w1 o) := by
      by_cases hin : 0 ≤ p.1 ∧ p.1 < rn
      · obtain ⟨m1, c1, c2, _⟩ := doStore hR hin.1 hin.2 p.2 0
        refine ⟨m1, _, _, _, c1, c2, fun o => ?_⟩
        simp only [upd]
        split
        · exact hpw
        · exact hw o
      · exact ⟨m, w, 0, false, putMiss hR hin p.2, hR, hw⟩
    obtain ⟨m', w', q1, q2, q3⟩ := putsAll rb wb rn e l hl h60 j (k + 1) (by omega) m1 w1 hR1 hw1
    refine ⟨m', w', fun fr => .step (s1 := L6_1 n t r d b g (l.flatMap pr) l.length mb ((k + 1 : Nat) : Int) m1 false fr) ?_ (q1 fr), q2, q3⟩
    have this : CodeOk Try.prog (codeAt [true, true, true, true, false, true, false, false] (Try.f6.body.getD .skip)) (L6_1 n t r d b g (l.flatMap pr) l.length mb (k : Int) m false fr) .normal (L6_1 n t r d b g (l.flatMap pr) l.length mb (IntKind.i64.wrap ((k : Int) + 1)) m1 false fr) :=
      L6_1_2 (decide_eq_true (by omega)) (capOk hR) (decide_eq_true (by omega)) (by rw [Int.toNat_natCast]; exact p1) (by rw [Int.toNat_natCast]; exact p2) hc
    rw [hwr] at this
    exact @this
end
end Go.Proofs.Ytkhjkfbgcpjphaa.Fun
