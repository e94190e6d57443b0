/- Programs that store 0 at places, and go on. -/
import Derived.Test.YtkhjkfbgcpjphaaGreatRD2
namespace Go.Proofs.YtkhjkfbgcpjphaaGreat.Fun
open Go
set_option linter.unusedVariables false
/-- A call that comes to a program, which runs to its end with r in k steps; what is so behind it. -/
def Ends (K : Mu → Prop) (mb : Nat) (i e : Int) (f : FuncId) (args : List DV) (m : Mu) (a k : Nat) (r : Int) (Q : Mu → Nat → Prop) : Prop :=
  ∃ (p : Pg) (m1 : Mu) (j : Nat) (m' : Mu) (a' : Nat), CallOk Tryz.prog f args m p.dv m1 false (nms a j) ∧ Runs K mb i e p m1 (a + j) k r m' a' ∧ Q m' a'
theorem all_self (F : List Nat) : ((F).all fun n => (F).contains n) = true := List.all_eq_true.2 fun n hn => by simpa using hn
/-- A call that hands on what another one comes to. -/
theorem Ends.pass {K : Mu → Prop} {mb : Nat} {i e : Int} {f g : FuncId} {args args' : List DV} {m : Mu} {a k : Nat} {r : Int} {Q : Mu → Nat → Prop} (h : Ends K mb i e f args m a k r Q)
    (hp : ∀ (p : Pg) (m1 : Mu) (F : List Nat), CallOk Tryz.prog f args m p.dv m1 false F → CallOk Tryz.prog g args' m p.dv m1 false F) : Ends K mb i e g args' m a k r Q := by
  obtain ⟨p, m1, j, m', a', h1, h2, h3⟩ := h
  exact ⟨p, m1, j, m', a', hp p m1 _ h1, h2, h3⟩
/-- The like behind a call that names j of its rows. -/
theorem Ends.pass2 {K : Mu → Prop} {mb : Nat} {i e : Int} {f g : FuncId} {args args' : List DV} {m m0 : Mu} {a j0 k : Nat} {r : Int} {Q : Mu → Nat → Prop} (h : Ends K mb i e f args m0 (a + j0) k r Q)
    (hp : ∀ (p : Pg) (m1 : Mu) (j : Nat), CallOk Tryz.prog f args m0 p.dv m1 false (nms (a + j0) j) → CallOk Tryz.prog g args' m p.dv m1 false (nms a (j0 + j))) : Ends K mb i e g args' m a k r Q := by
  obtain ⟨p, m1, j, m', a', h1, h2, h3⟩ := h
  exact ⟨p, m1, j0 + j, m', a', hp p m1 _ h1, by rw [← Nat.add_assoc]; exact h2, h3⟩
theorem Ends.mono {K : Mu → Prop} {mb : Nat} {i e : Int} {f : FuncId} {args : List DV} {m : Mu} {a k : Nat} {r : Int} {Q Q' : Mu → Nat → Prop} (h : Ends K mb i e f args m a k r Q) (hq : ∀ m' a', Q m' a' → Q' m' a') : Ends K mb i e f args m a k r Q' := by
  obtain ⟨p, m1, j, m', a', h1, h2, h3⟩ := h
  exact ⟨p, m1, j, m', a', h1, h2, hq _ _ h3⟩
theorem pass97 {f : FuncId} {caps : List DV} {m m1 : Mu} {F : List Nat} (w : Int) (p : Pg) (h : CallOk Tryz.prog f caps m p.dv m1 false F) : CallOk Tryz.prog 103 [.int .u64 w, .ptr [.func f caps]] m p.dv m1 false F := by
  cases p with
  | over r => exact f103_1_o h (all_self F)
  | step op at_ x y g caps => exact f103_1_s h (all_self F)
theorem pass46 {f : FuncId} {caps : List DV} {m m1 : Mu} {F : List Nat} (b o : Nat) (p : Pg) (h : CallOk Tryz.prog f caps m p.dv m1 false F) : CallOk Tryz.prog 31 [.vec b o 0 1, .func f caps] m p.dv m1 false F := by
  cases p with
  | over r => exact f31_2_o (by simp) h (all_self F)
  | step op at_ x y g caps => exact f31_2_s (by simp) h (all_self F)
theorem pass70 {f : FuncId} {caps : List DV} {m m1 : Mu} {F : List Nat} {b o n : Nat} (p : Pg) (h : CallOk Tryz.prog 31 [.vec b (o + 1) n 1, .func f caps] m p.dv m1 false F) : CallOk Tryz.prog 57 [.ptr [.vec b o (n + 1) 1], .ptr [.func f caps]] m p.dv m1 false F := by
  have h' : CallOk Tryz.prog 31 [.vec b (o + (1 : Int).toNat * 1) (((((n + 1 : Nat) : Nat) : Int) : Int).toNat - (1 : Int).toNat) 1, .func f caps] m p.dv m1 false F := by
    rw [show o + (1 : Int).toNat * 1 = o + 1 from rfl, show ((n + 1 : Nat) : Int).toNat - (1 : Int).toNat = n by simp]
    exact h
  have hd : (decide ((0 : Int) ≤ 1 ∧ (1 : Int) ≤ (((n + 1 : Nat) : Nat) : Int) ∧ ((((n + 1 : Nat) : Nat) : Int) : Int) ≤ ((n + 1 : Nat) : Nat))) = true := decide_eq_true (by omega)
  cases p with
  | over r => exact f57_1_o hd h' (all_self F)
  | step op at_ x y g caps => exact f57_1_s hd h' (all_self F)
/-- prog.Store. -/
theorem store69 (at_ x : Int) (f : FuncId) (caps : List DV) (m : Mu) : CallOk Tryz.prog 56 [.int .i64 at_, .int .u64 x, .func f caps] m (Pg.step 1 at_ x 0 103 [.ptr [.func f caps]]).dv m false [] := f56_1_s f102_1
/-- What stays as it was: rows that are neither the memory's count nor a region's words. -/
def Far (mb wb : Nat) (m m' : Mu) : Prop := ∀ b, b ≠ wb → b ≠ mb → ∀ o, m' b o = m b o
theorem Far.refl {mb wb : Nat} (m : Mu) : Far mb wb m m := fun _ _ _ _ => rfl
theorem Far.trans {mb wb : Nat} {m m1 m2 : Mu} (h : Far mb wb m m1) (h' : Far mb wb m1 m2) : Far mb wb m m2 := fun b h1 h2 o => (h' b h1 h2 o).trans (h b h1 h2 o)
/-- What stays as it was, of the names below one. -/
def Far0 (a0 mb wb : Nat) (m m' : Mu) : Prop := ∀ c, c < a0 → c ≠ wb → c ≠ mb → ∀ o, m' c o = m c o
/-- The words are such; all else is as it was in m0. -/
structure KF (D : (Nat → Int) → Prop) (a0 mb wb : Nat) (m0 : Mu) (w : Nat → Int) (m : Mu) : Prop where
  d : D w
  f : Far0 a0 mb wb m0 m
theorem KF.up {D : (Nat → Int) → Prop} {a0 mb wb : Nat} {m0 : Mu} {w w' : Nat → Int} {m m' : Mu} (h : KF D a0 mb wb m0 w m) (hd : D w → D w') (far : Far mb wb m m') : KF D a0 mb wb m0 w' m' := ⟨hd h.d, fun c h1 h2 h3 o => (far c h2 h3 o).trans (h.f c h1 h2 h3 o)⟩
theorem KF.keep {D : (Nat → Int) → Prop} {a0 mb wb : Nat} {m0 : Mu} {w : Nat → Int} {m m' : Mu} (h : KF D a0 mb wb m0 w m) (hk : ∀ c, c < a0 → ∀ o, m' c o = m c o) : KF D a0 mb wb m0 w m' := ⟨h.d, fun c h1 h2 h3 o => (hk c h1 o).trans (h.f c h1 h2 h3 o)⟩
/-- A region whose words are such. -/
def KD (D : (Nat → Int) → Prop) (a0 : Nat) (m0 : Mu) (mb lb len i : Nat) (R : Reg) (m : Mu) : Prop := ∃ w, HasReg m mb lb len i ⟨R.rb, R.wb, R.n, R.e, w⟩ ∧ KF D a0 mb R.wb m0 w m
/-- A program that stores, and what goes on behind it. -/
theorem Ends.storeAt {D : (Nat → Int) → Prop} {a0 : Nat} {m0 : Mu} {mb lb len i : Nat} {R : Reg} {at_ x : Int} {f g : FuncId} {args caps : List DV} {m : Mu} {a k : Nat} {r : Int} {Q : Mu → Nat → Prop} (hc : CallOk Tryz.prog g args m (Pg.step 1 at_ x 0 103 [.ptr [.func f caps]]).dv m false []) (hR : HasReg m mb lb len i R) (hD : KF D a0 mb R.wb m0 R.w m) (h0 : 0 ≤ at_) (h1 : at_ < R.n)
    (next : ∀ m', HasReg m' mb lb len i { R with w := upd R.w at_.toNat x } → Far mb R.wb m m' → Ends (KD D a0 m0 mb lb len i R) mb i R.e f caps m' a k r Q) :
    Ends (KD D a0 m0 mb lb len i R) mb i R.e g args m a (k + 1) r Q := by
  obtain ⟨m1, hd, hR', far⟩ := doStore hR h0 h1 x 0
  obtain ⟨p, m2, j, m', a', h2, h3, h4⟩ := next m1 hR' far
  exact ⟨_, m, 0, m', a', hc, .step ⟨R.w, hR, hD⟩ hd (pass97 _ p h2) h3, h4⟩
theorem Ends.store {D : (Nat → Int) → Prop} {a0 : Nat} {m0 : Mu} {mb lb len i : Nat} {R : Reg} {at_ x : Int} {f : FuncId} {caps : List DV} {m : Mu} {a k : Nat} {r : Int} {Q : Mu → Nat → Prop} (hR : HasReg m mb lb len i R) (hD : KF D a0 mb R.wb m0 R.w m) (h0 : 0 ≤ at_) (h1 : at_ < R.n)
    (next : ∀ m', HasReg m' mb lb len i { R with w := upd R.w at_.toNat x } → Far mb R.wb m m' → Ends (KD D a0 m0 mb lb len i R) mb i R.e f caps m' a k r Q) :
    Ends (KD D a0 m0 mb lb len i R) mb i R.e 56 [.int .i64 at_, .int .u64 x, .func f caps] m a (k + 1) r Q := .storeAt (store69 at_ x f caps m) hR hD h0 h1 next
/-- A program that loads, and what goes on behind it. -/
theorem Ends.loadAt {D : (Nat → Int) → Prop} {a0 : Nat} {m0 : Mu} {mb lb len i : Nat} {R : Reg} {at_ : Int} {f g : FuncId} {args caps : List DV} {m : Mu} {a k : Nat} {r : Int} {Q : Mu → Nat → Prop} (hc : CallOk Tryz.prog g args m (Pg.step 0 at_ 0 0 f caps).dv m false []) (hR : HasReg m mb lb len i R) (hD : KF D a0 mb R.wb m0 R.w m) (h0 : 0 ≤ at_) (h1 : at_ < R.n)
    (next : ∀ m', HasReg m' mb lb len i R → Far mb R.wb m m' → Ends (KD D a0 m0 mb lb len i R) mb i R.e f (.int .u64 (R.w at_.toNat) :: caps) m' a k r Q) :
    Ends (KD D a0 m0 mb lb len i R) mb i R.e g args m a (k + 1) r Q := by
  obtain ⟨m1, hd, hR', far⟩ := doLoad hR h0 h1 0 0
  obtain ⟨p, m2, j, m', a', h2, h3, h4⟩ := next m1 hR' (fun b _ h2 o => far b h2 o)
  exact ⟨_, m, 0, m', a', hc, .step ⟨R.w, hR, hD⟩ hd h2 h3, h4⟩
/-- revoke.zero: 0 at all places of a row, then what is next. -/
theorem zeroEnds {D : (Nat → Int) → Prop} {a0 : Nat} {m0 : Mu} {mb lb len i : Nat} {f : FuncId} {caps : List DV} {a k : Nat} {r : Int} {Q : Mu → Nat → Prop} {b : Nat} : ∀ (ats : List Nat) (o : Nat) (m : Mu) (R : Reg), HasReg m mb lb len i R → KF D a0 mb R.wb m0 R.w m → b ≠ R.wb → b ≠ mb → (∀ p ∈ ats, ∀ w, D w → D (upd w p 0)) →
    (∀ (j p : Nat), ats[j]? = some p → m b (o + j) = some (.int .i64 (p : Int))) → (∀ p ∈ ats, p < R.n) →
    (∀ m', HasReg m' mb lb len i { R with w := ats.foldl (fun w p => upd w p 0) R.w } → KF D a0 mb R.wb m0 (ats.foldl (fun w p => upd w p 0) R.w) m' → Far mb R.wb m m' → Ends (KD D a0 m0 mb lb len i R) mb i R.e f caps m' a k r Q) →
    Ends (KD D a0 m0 mb lb len i R) mb i R.e 31 [.vec b o ats.length 1, .func f caps] m a (k + ats.length) r Q
  | [], o, m, R, hR, hD, hb1, hb2, hZ, hrow, hin, next => by
    exact (next m hR hD (.refl m)).pass fun p m1 F h => pass46 b o p h
  | p0 :: ats, o, m, R, hR, hD, hb1, hb2, hZ, hrow, hin, next => by
    have hat : m b (o + (0 : Int).toNat * 1) = some (.int .i64 (p0 : Int)) := hrow 0 p0 rfl
    have hlt : p0 < R.n := hin p0 (by simp)
    have hd : (decide ((0 : Int) ≤ 0 ∧ (0 : Int) < ((ats.length + 1 : Nat) : Nat))) = true := decide_eq_true (by omega)
    have hz : ((((ats.length + 1 : Nat) : Int) : Int) == 0) = false := by rw [beq_eq_false_iff_ne]; omega
    rw [List.length_cons, ← Nat.add_assoc]
    refine Ends.storeAt (x := 0) (f := 57) (caps := [.ptr [.vec b o (ats.length + 1) 1], .ptr [.func f caps]]) (f31_1_s hz hd hat (store69 _ _ _ _ m)) hR hD (by omega) (by omega) (fun m' hR' far => ?_)
    have ih := zeroEnds (f := f) (caps := caps) (a := a) (k := k) (r := r) (Q := Q) (b := b) ats (o + 1) m' _ hR' (hD.up (fun hd => by rw [Int.toNat_natCast]; exact hZ p0 (by simp) _ hd) far) hb1 hb2 (fun p hp => hZ p (by simp [hp])) (fun j p hj => by
      rw [far b hb1 hb2, show o + 1 + j = o + (j + 1) by omega]
      exact hrow (j + 1) p (by simpa using hj)) (fun p hp => hin p (by simp [hp])) (fun m'' hR'' hD'' far' => by
        rw [Int.toNat_natCast] at hR'' hD''
        exact next m'' hR'' hD'' (far.trans far'))
    exact ih.pass fun p m1 F h => pass70 p h
end Go.Proofs.YtkhjkfbgcpjphaaGreat.Fun
