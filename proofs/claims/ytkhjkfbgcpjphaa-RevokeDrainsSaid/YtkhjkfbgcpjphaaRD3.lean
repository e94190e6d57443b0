/- Programs that store 0 at places, and go on. -/
import Derived.Test.YtkhjkfbgcpjphaaRD2
namespace Go.Proofs.Ytkhjkfbgcpjphaa.Fun
open Go
set_option linter.unusedVariables false
/-- A call that comes to a program, which runs to its end with r in k steps; what is so behind it. -/
def Ends (mb : Nat) (i e : Int) (f : FuncId) (args : List DV) (m : Mu) (a k : Nat) (r : Int) (Q : Mu → Nat → Prop) : Prop :=
  ∃ (p : Pg) (m1 : Mu) (j : Nat) (m' : Mu) (a' : Nat), CallOk Try.prog f args m p.dv m1 false (nms a j) ∧ Runs mb i e p m1 (a + j) k r m' a' ∧ Q m' a'
theorem all_self (F : List Nat) : ((F).all fun n => (F).contains n) = true := List.all_eq_true.2 fun n hn => by simpa using hn
/-- A call that hands on what another one comes to. -/
theorem Ends.pass {mb : Nat} {i e : Int} {f g : FuncId} {args args' : List DV} {m : Mu} {a k : Nat} {r : Int} {Q : Mu → Nat → Prop} (h : Ends mb i e f args m a k r Q)
    (hp : ∀ (p : Pg) (m1 : Mu) (F : List Nat), CallOk Try.prog f args m p.dv m1 false F → CallOk Try.prog g args' m p.dv m1 false F) : Ends mb i e g args' m a k r Q := by
  obtain ⟨p, m1, j, m', a', h1, h2, h3⟩ := h
  exact ⟨p, m1, j, m', a', hp p m1 _ h1, h2, h3⟩
/-- The like behind a call that names j of its rows. -/
theorem Ends.pass2 {mb : Nat} {i e : Int} {f g : FuncId} {args args' : List DV} {m m0 : Mu} {a j0 k : Nat} {r : Int} {Q : Mu → Nat → Prop} (h : Ends mb i e f args m0 (a + j0) k r Q)
    (hp : ∀ (p : Pg) (m1 : Mu) (j : Nat), CallOk Try.prog f args m0 p.dv m1 false (nms (a + j0) j) → CallOk Try.prog g args' m p.dv m1 false (nms a (j0 + j))) : Ends mb i e g args' m a k r Q := by
  obtain ⟨p, m1, j, m', a', h1, h2, h3⟩ := h
  exact ⟨p, m1, j0 + j, m', a', hp p m1 _ h1, by rw [← Nat.add_assoc]; exact h2, h3⟩
theorem Ends.mono {mb : Nat} {i e : Int} {f : FuncId} {args : List DV} {m : Mu} {a k : Nat} {r : Int} {Q Q' : Mu → Nat → Prop} (h : Ends mb i e f args m a k r Q) (hq : ∀ m' a', Q m' a' → Q' m' a') : Ends mb i e f args m a k r Q' := by
  obtain ⟨p, m1, j, m', a', h1, h2, h3⟩ := h
  exact ⟨p, m1, j, m', a', h1, h2, hq _ _ h3⟩
theorem pass97 {f : FuncId} {caps : List DV} {m m1 : Mu} {F : List Nat} (w : Int) (p : Pg) (h : CallOk Try.prog f caps m p.dv m1 false F) : CallOk Try.prog 97 [.int .u64 w, .ptr [.func f caps]] m p.dv m1 false F := by
  cases p with
  | over r => exact f97_1_o h (all_self F)
  | step op at_ x y g caps => exact f97_1_s h (all_self F)
theorem pass46 {f : FuncId} {caps : List DV} {m m1 : Mu} {F : List Nat} (b o : Nat) (p : Pg) (h : CallOk Try.prog f caps m p.dv m1 false F) : CallOk Try.prog 46 [.vec b o 0 1, .func f caps] m p.dv m1 false F := by
  cases p with
  | over r => exact f46_2_o (by simp) h (all_self F)
  | step op at_ x y g caps => exact f46_2_s (by simp) h (all_self F)
theorem pass70 {f : FuncId} {caps : List DV} {m m1 : Mu} {F : List Nat} {b o n : Nat} (p : Pg) (h : CallOk Try.prog 46 [.vec b (o + 1) n 1, .func f caps] m p.dv m1 false F) : CallOk Try.prog 70 [.ptr [.vec b o (n + 1) 1], .ptr [.func f caps]] m p.dv m1 false F := by
  have h' : CallOk Try.prog 46 [.vec b (o + (1 : Int).toNat * 1) (((((n + 1 : Nat) : Nat) : Int) : Int).toNat - (1 : Int).toNat) 1, .func f caps] m p.dv m1 false F := by
    rw [show o + (1 : Int).toNat * 1 = o + 1 from rfl, show ((n + 1 : Nat) : Int).toNat - (1 : Int).toNat = n by simp]
    exact h
  have hd : (decide ((0 : Int) ≤ 1 ∧ (1 : Int) ≤ (((n + 1 : Nat) : Nat) : Int) ∧ ((((n + 1 : Nat) : Nat) : Int) : Int) ≤ ((n + 1 : Nat) : Nat))) = true := decide_eq_true (by omega)
  cases p with
  | over r => exact f70_1_o hd h' (all_self F)
  | step op at_ x y g caps => exact f70_1_s hd h' (all_self F)
/-- prog.Store. -/
theorem store69 (at_ x : Int) (f : FuncId) (caps : List DV) (m : Mu) : CallOk Try.prog 69 [.int .i64 at_, .int .u64 x, .func f caps] m (Pg.step 1 at_ x 0 97 [.ptr [.func f caps]]).dv m false [] := f69_1_s f96_1
/-- What stays as it was: rows that are neither the memory's count nor a region's words. -/
def Far (mb wb : Nat) (m m' : Mu) : Prop := ∀ b, b ≠ wb → b ≠ mb → ∀ o, m' b o = m b o
theorem Far.refl {mb wb : Nat} (m : Mu) : Far mb wb m m := fun _ _ _ _ => rfl
theorem Far.trans {mb wb : Nat} {m m1 m2 : Mu} (h : Far mb wb m m1) (h' : Far mb wb m1 m2) : Far mb wb m m2 := fun b h1 h2 o => (h' b h1 h2 o).trans (h b h1 h2 o)
/-- A program that stores, and what goes on behind it. -/
theorem Ends.storeAt {mb lb len i : Nat} {R : Reg} {at_ x : Int} {f g : FuncId} {args caps : List DV} {m : Mu} {a k : Nat} {r : Int} {Q : Mu → Nat → Prop} (hc : CallOk Try.prog g args m (Pg.step 1 at_ x 0 97 [.ptr [.func f caps]]).dv m false []) (hR : HasReg m mb lb len i R) (h0 : 0 ≤ at_) (h1 : at_ < R.n)
    (next : ∀ m', HasReg m' mb lb len i { R with w := upd R.w at_.toNat x } → Far mb R.wb m m' → Ends mb i R.e f caps m' a k r Q) :
    Ends mb i R.e g args m a (k + 1) r Q := by
  obtain ⟨m1, hd, hR', far⟩ := doStore hR h0 h1 x 0
  obtain ⟨p, m2, j, m', a', h2, h3, h4⟩ := next m1 hR' far
  exact ⟨_, m, 0, m', a', hc, .step hd (pass97 _ p h2) h3, h4⟩
theorem Ends.store {mb lb len i : Nat} {R : Reg} {at_ x : Int} {f : FuncId} {caps : List DV} {m : Mu} {a k : Nat} {r : Int} {Q : Mu → Nat → Prop} (hR : HasReg m mb lb len i R) (h0 : 0 ≤ at_) (h1 : at_ < R.n)
    (next : ∀ m', HasReg m' mb lb len i { R with w := upd R.w at_.toNat x } → Far mb R.wb m m' → Ends mb i R.e f caps m' a k r Q) :
    Ends mb i R.e 69 [.int .i64 at_, .int .u64 x, .func f caps] m a (k + 1) r Q := .storeAt (store69 at_ x f caps m) hR h0 h1 next
/-- A program that loads, and what goes on behind it. -/
theorem Ends.loadAt {mb lb len i : Nat} {R : Reg} {at_ : Int} {f g : FuncId} {args caps : List DV} {m : Mu} {a k : Nat} {r : Int} {Q : Mu → Nat → Prop} (hc : CallOk Try.prog g args m (Pg.step 0 at_ 0 0 f caps).dv m false []) (hR : HasReg m mb lb len i R) (h0 : 0 ≤ at_) (h1 : at_ < R.n)
    (next : ∀ m', HasReg m' mb lb len i R → Far mb R.wb m m' → Ends mb i R.e f (.int .u64 (R.w at_.toNat) :: caps) m' a k r Q) :
    Ends mb i R.e g args m a (k + 1) r Q := by
  obtain ⟨m1, hd, hR', far⟩ := doLoad hR h0 h1 0 0
  obtain ⟨p, m2, j, m', a', h2, h3, h4⟩ := next m1 hR' (fun b _ h2 o => far b h2 o)
  exact ⟨_, m, 0, m', a', hc, .step hd h2 h3, h4⟩
/-- revoke.zero: 0 at all places of a row, then what is next. -/
theorem zeroEnds {mb lb len i : Nat} {f : FuncId} {caps : List DV} {a k : Nat} {r : Int} {Q : Mu → Nat → Prop} {b : Nat} : ∀ (ats : List Nat) (o : Nat) (m : Mu) (R : Reg), HasReg m mb lb len i R → b ≠ R.wb → b ≠ mb →
    (∀ (j p : Nat), ats[j]? = some p → m b (o + j) = some (.int .i64 (p : Int))) → (∀ p ∈ ats, p < R.n) →
    (∀ m', HasReg m' mb lb len i { R with w := ats.foldl (fun w p => upd w p 0) R.w } → Far mb R.wb m m' → Ends mb i R.e f caps m' a k r Q) →
    Ends mb i R.e 46 [.vec b o ats.length 1, .func f caps] m a (k + ats.length) r Q
  | [], o, m, R, hR, hb1, hb2, hrow, hin, next => by
    exact (next m hR (.refl m)).pass fun p m1 F h => pass46 b o p h
  | p0 :: ats, o, m, R, hR, hb1, hb2, hrow, hin, next => by
    have hat : m b (o + (0 : Int).toNat * 1) = some (.int .i64 (p0 : Int)) := hrow 0 p0 rfl
    have hlt : p0 < R.n := hin p0 (by simp)
    have hd : (decide ((0 : Int) ≤ 0 ∧ (0 : Int) < ((ats.length + 1 : Nat) : Nat))) = true := decide_eq_true (by omega)
    have hz : ((((ats.length + 1 : Nat) : Int) : Int) == 0) = false := by rw [beq_eq_false_iff_ne]; omega
    rw [List.length_cons, ← Nat.add_assoc]
    refine Ends.storeAt (x := 0) (f := 70) (caps := [.ptr [.vec b o (ats.length + 1) 1], .ptr [.func f caps]]) (f46_1_s hz hd hat (store69 _ _ _ _ m)) hR (by omega) (by omega) (fun m' hR' far => ?_)
    have ih := zeroEnds (f := f) (caps := caps) (a := a) (k := k) (r := r) (Q := Q) (b := b) ats (o + 1) m' _ hR' hb1 hb2 (fun j p hj => by
      rw [far b hb1 hb2, show o + 1 + j = o + (j + 1) by omega]
      exact hrow (j + 1) p (by simpa using hj)) (fun p hp => hin p (by simp [hp])) (fun m'' hR'' far' => by
        rw [Int.toNat_natCast] at hR''
        exact next m'' hR'' (far.trans far'))
    exact ih.pass fun p m1 F h => pass70 p h
end Go.Proofs.Ytkhjkfbgcpjphaa.Fun
