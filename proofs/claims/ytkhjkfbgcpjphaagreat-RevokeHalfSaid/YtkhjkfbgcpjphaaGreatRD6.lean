/- revoke.chain: the list of usable nodes, from a node back to the first one. -/
import Derived.Test.YtkhjkfbgcpjphaaGreatRD5
namespace Go.Proofs.YtkhjkfbgcpjphaaGreat.Fun
open Go
set_option linter.unusedVariables false
/-- The words, and how many nodes are usable, behind the chain from so many nodes on. -/
def chainW (nx : Nat → Nat) (gone : Nat → Bool) : Nat → Int → Int → (Nat → Int) → (Nat → Int) × Int
  | 0, word, cnt, w => (upd w 0 word, cnt)
  | k + 1, word, cnt, w => if gone k then chainW nx gone k word cnt (upd w (nx k) 0) else chainW nx gone k (IntKind.u64.wrap (IntKind.i64.wrap ((k : Int) + 1))) (IntKind.i64.wrap (cnt + 1)) (upd w (nx k) word)
theorem pass103 {n t r d b g : Int} {row len : Nat} {k word cnt : Int} {m m1 : Mu} {F : List Nat} (p : Pg) (h : CallOk Tryz.prog 64 [pl n t r d b g, .vec row 0 len 1, .int .i64 (IntKind.i64.wrap (k - 1)), .agg [.int .u64 (IntKind.u64.wrap (IntKind.i64.wrap (k + 1))), .int .i64 (IntKind.i64.wrap (cnt + 1))]] m p.dv m false []) :
    CallOk Tryz.prog 111 [.ptr [.int .i64 n, .int .i64 t, .int .i64 r, .int .i64 d, .int .i64 b, .int .i64 g], .ptr [.vec row 0 len 1], .ptr [.int .i64 k], .ptr [.int .u64 word, .int .i64 cnt]] m p.dv m false [] := by
  cases p with
  | over r => exact f111_1_o h
  | step op at_ x y g caps => exact f111_1_s h
theorem pass102 {n t r d b g : Int} {row len : Nat} {k word cnt : Int} {m m1 : Mu} {F : List Nat} (p : Pg) (h : CallOk Tryz.prog 64 [pl n t r d b g, .vec row 0 len 1, .int .i64 (IntKind.i64.wrap (k - 1)), .agg [.int .u64 word, .int .i64 cnt]] m p.dv m false []) :
    CallOk Tryz.prog 110 [.ptr [.int .i64 n, .int .i64 t, .int .i64 r, .int .i64 d, .int .i64 b, .int .i64 g], .ptr [.vec row 0 len 1], .ptr [.int .i64 k], .ptr [.int .u64 word, .int .i64 cnt]] m p.dv m false [] := by
  cases p with
  | over r => exact f110_1_o h
  | step op at_ x y g caps => exact f110_1_s h
/-- A call that comes to a program at once, without names, with the memory as it is. -/
def Ends0 (K : Mu → Prop) (mb : Nat) (i e : Int) (f : FuncId) (args : List DV) (m : Mu) (a k : Nat) (r : Int) (Q : Mu → Nat → Prop) : Prop :=
  ∃ (p : Pg) (m' : Mu) (a' : Nat), CallOk Tryz.prog f args m p.dv m false [] ∧ Runs K mb i e p m a k r m' a' ∧ Q m' a'
theorem Ends0.ends {K : Mu → Prop} {mb : Nat} {i e : Int} {f : FuncId} {args : List DV} {m : Mu} {a k : Nat} {r : Int} {Q : Mu → Nat → Prop} (h : Ends0 K mb i e f args m a k r Q) : Ends K mb i e f args m a k r Q := by
  obtain ⟨p, m', a', h1, h2, h3⟩ := h
  exact ⟨p, m, 0, m', a', h1, h2, h3⟩
theorem Ends0.storeAt {D : (Nat → Int) → Prop} {a0 : Nat} {m0 : Mu} {mb lb len i : Nat} {R : Reg} {at_ x : Int} {f g : FuncId} {args caps : List DV} {m : Mu} {a k : Nat} {r : Int} {Q : Mu → Nat → Prop} (hc : CallOk Tryz.prog g args m (Pg.step 1 at_ x 0 103 [.ptr [.func f caps]]).dv m false []) (hR : HasReg m mb lb len i R) (hD : KF D a0 mb R.wb m0 R.w m) (h0 : 0 ≤ at_) (h1 : at_ < R.n)
    (next : ∀ m', HasReg m' mb lb len i { R with w := upd R.w at_.toNat x } → Far mb R.wb m m' → Ends (KD D a0 m0 mb lb len i R) mb i R.e f caps m' a k r Q) :
    Ends0 (KD D a0 m0 mb lb len i R) mb i R.e g args m a (k + 1) r Q := by
  obtain ⟨m1, hd, hR', far⟩ := doStore hR h0 h1 x 0
  obtain ⟨p, m2, j, m', a', h2, h3, h4⟩ := next m1 hR' far
  exact ⟨_, m', a', hc, .step ⟨R.w, hR, hD⟩ hd (pass97 _ p h2) h3, h4⟩
/-- A word of 64 bits. -/
def WdP (x : Int) : Prop := 0 ≤ x ∧ x < 18446744073709551616
theorem wdP_u64 (x : Int) : WdP (IntKind.u64.wrap x) := by
  unfold WdP IntKind.wrap
  simp only [IntKind.signed, IntKind.bits]
  simp
  omega
section
variable {n t r d b g : Int} (h : PF n t r d b g)
include h
theorem chainEnds {D : (Nat → Int) → Prop} {a0 : Nat} {m0 : Mu} (hC0 : ∀ x w, WdP x → D w → D (upd w 0 x)) (hCx : ∀ q : Nat, (q : Int) < n → ∀ x w, WdP x → D w → D (upd w (ndP t r d b + q * 5 + 1).toNat x)) {mb lb len i : Nat} {a : Nat} {Q : Mu → Nat → Prop} {row rl : Nat} (gone : Nat → Bool) : ∀ (k : Nat) (word cnt : Int) (m : Mu) (R : Reg), WdP word → (k : Int) ≤ n → k ≤ rl → HasReg m mb lb len i R → KF D a0 mb R.wb m0 R.w m → (R.n : Int) = szP n t r d b → row ≠ R.wb → row ≠ mb →
    (∀ j : Nat, j < k → m row j = some (.bool (gone j))) →
    (∀ m', HasReg m' mb lb len i { R with w := (chainW (fun q => (ndP t r d b + q * 5 + 1).toNat) gone k word cnt R.w).1 } → Far mb R.wb m m' → Q m' a) →
    Ends0 (KD D a0 m0 mb lb len i R) mb i R.e 64 [pl n t r d b g, .vec row 0 rl 1, .int .i64 ((k : Int) - 1), .agg [.int .u64 word, .int .i64 cnt]] m a (k + 1) (chainW (fun q => (ndP t r d b + q * 5 + 1).toNat) gone k word cnt R.w).2 Q
  | 0, word, cnt, m, R, hW, hkn, hkl, hR, hD, hsz, hb1, hb2, hrow, fin => by
    have hnd := h.nd; have hct := h.ct; have hhz := h.hz; have hn := h.hn
    refine Ends0.storeAt (k := 0) (f64_3_s (by decide) (head60 h m) (store69 _ _ _ _ m)) hR hD (by omega) (by unfold szP at hsz; omega) (fun m' hR' far => ?_)
    exact ⟨.over cnt, m', 0, m', a, f109_1_o f92_1, .over ⟨_, hR', hD.up (hC0 _ _ hW) far⟩, fin m' hR' far⟩
  | k + 1, word, cnt, m, R, hW, hkn, hkl, hR, hD, hsz, hb1, hb2, hrow, fin => by
    have hnd := h.nd; have hct := h.ct; have hhz := h.hz; have hn := h.hn
    have e1 : (((k + 1 : Nat) : Int) - 1) = (k : Int) := by omega
    rw [e1]
    have hg : m row (0 + ((k : Nat) : Int).toNat * 1) = some (.bool (gone k)) := by
      rw [Nat.zero_add, Nat.mul_one, Int.toNat_natCast]; exact hrow k (by omega)
    have hw : IntKind.i64.wrap ((k : Int) - 1) = (k : Int) - 1 := wrap64 (by omega) (by omega)
    have hnx := next61 h (k := (k : Int)) (by omega) (by omega) m
    have hin : ndP t r d b + k * 5 + 1 < (R.n : Int) := by unfold szP at hsz; omega
    cases hk : gone k with
    | false =>
      simp only [chainW, hk, Bool.false_eq_true, if_false] at fin ⊢
      refine Ends0.storeAt (f64_1_s (a1n := rl) (decide_eq_false (by omega)) (decide_eq_true (by omega)) hg hk hnx (store69 _ _ _ _ m)) hR hD (by omega) hin (fun m' hR' far => ?_)
      obtain ⟨p, m2, a2, q1, q2, q3⟩ := chainEnds hC0 hCx gone k (IntKind.u64.wrap (IntKind.i64.wrap ((k : Int) + 1))) (IntKind.i64.wrap (cnt + 1)) m' _ (wdP_u64 _) (by omega) (show k ≤ rl by omega) hR' (hD.up (hCx k (by omega) _ _ (by first | exact hW | exact ⟨by omega, by omega⟩)) far) hsz hb1 hb2 (fun j hj => (far row hb1 hb2 j).trans (hrow j (Nat.lt_succ_of_lt hj))) (fun m'' hR'' far' => fin m'' hR'' (far.trans far'))
      rw [← hw] at q1
      exact ⟨p, m', 0, m2, a2, pass103 (m1 := m') (F := []) p q1, q2, q3⟩
    | true =>
      simp only [chainW, hk, if_true] at fin ⊢
      refine Ends0.storeAt (f64_2_s (a1n := rl) (decide_eq_false (by omega)) (decide_eq_true (by omega)) hg hk hnx (store69 _ _ _ _ m)) hR hD (by omega) hin (fun m' hR' far => ?_)
      obtain ⟨p, m2, a2, q1, q2, q3⟩ := chainEnds hC0 hCx gone k word cnt m' _ hW (by omega) (show k ≤ rl by omega) hR' (hD.up (hCx k (by omega) _ _ (by first | exact hW | exact ⟨by omega, by omega⟩)) far) hsz hb1 hb2 (fun j hj => (far row hb1 hb2 j).trans (hrow j (Nat.lt_succ_of_lt hj))) (fun m'' hR'' far' => fin m'' hR'' (far.trans far'))
      rw [← hw] at q1
      exact ⟨p, m', 0, m2, a2, pass102 (m1 := m') (F := []) p q1, q2, q3⟩
end
end Go.Proofs.YtkhjkfbgcpjphaaGreat.Fun
