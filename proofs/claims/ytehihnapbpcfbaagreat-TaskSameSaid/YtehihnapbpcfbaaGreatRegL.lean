/- Accesses of a region; Run of a program that is a tree. -/
import Derived.Test.YtehihnapbpcfbaaGreatHeapWays
import Derived.Test.YtehihnapbpcfbaaGreatFunLP
namespace Go.Proofs.YtehihnapbpcfbaaGreat.Fun
open Go
set_option linter.unusedVariables false
/-- A region: the names of its block and of its words, how many these are, its epoch, its words. -/
structure Reg where
  rb : Nat
  wb : Nat
  n : Nat
  e : Int
  w : Nat → Int
/-- The memory mb, that was accessed c times, has, in its row lb of len regions, the region R at i. -/
structure HasReg (m : Mu) (mb lb len i : Nat) (c : Int) (R : Reg) : Prop where
  l : m mb 0 = some (.vec lb 0 len 1)
  c : m mb 1 = some (.int .i64 c)
  lt : i < len
  at_ : m lb i = some (.adr R.rb 0)
  ws : m R.rb 0 = some (.vec R.wb 0 R.n 1)
  ep : m R.rb 1 = some (.int .u64 R.e)
  w : ∀ o, o < R.n → m R.wb o = some (.int .u64 (R.w o))
  d1 : R.wb ≠ mb
  d2 : R.wb ≠ lb
  d3 : R.wb ≠ R.rb
  d4 : mb ≠ lb
  d5 : mb ≠ R.rb
def upd (w : Nat → Int) (k : Nat) (x : Int) : Nat → Int := fun o => if o = k then x else w o
def Far (mb wb : Nat) (m m' : Mu) : Prop := ∀ b, b ≠ wb → b ≠ mb → ∀ o, m' b o = m b o
theorem Far.refl {mb wb : Nat} (m : Mu) : Far mb wb m m := fun _ _ _ _ => rfl
theorem Far.trans {mb wb : Nat} {m m1 m2 : Mu} (h : Far mb wb m m1) (h' : Far mb wb m1 m2) : Far mb wb m m2 := fun b h1 h2 o => (h' b h1 h2 o).trans (h b h1 h2 o)
section
variable {m : Mu} {mb lb len i : Nat} {c : Int} {R : Reg} (h : HasReg m mb lb len i c R)
include h
theorem regionOk : CallOk Tryz.prog n_mem_Memory_region [.adr mb 0, .int .i64 i] m (.adr R.rb 0) m false [] :=
  f_mem_Memory_region_1 (decide_eq_false (by omega)) h.l (decide_eq_false (by have := h.lt; omega)) h.l (decide_eq_true (by have := h.lt; omega)) (by simpa using h.at_)
theorem goodOk (e : Int) : CallOk Tryz.prog n_mem_Memory_Good [.adr mb 0, .agg [.int .i64 i, .int .u64 e]] m (.bool (R.e == e)) m false [] := f_mem_Memory_Good_1 (regionOk h) h.ep
theorem sizeOk : CallOk Tryz.prog n_mem_Memory_Size [.adr mb 0, .int .i64 i] m (.int .i64 (R.n : Int)) m false [] := f_mem_Memory_Size_1 (regionOk h) h.ws
theorem capOk : CallOk Tryz.prog n_mem_Memory_Cap [.adr mb 0, .int .i64 i] m (.agg [.int .i64 i, .int .u64 R.e]) m false [] := f_mem_Memory_Cap_1 (regionOk h) h.ep
theorem regCount (c' : Int) : HasReg (updMu m mb 1 [.int .i64 c']) mb lb len i c' R ∧ Far mb R.wb m (updMu m mb 1 [.int .i64 c']) := by
  have far : ∀ b, b ≠ mb → ∀ o, (updMu m mb 1 [.int .i64 c']) b o = m b o := fun b h2 o => by
    rw [updMu_get, if_neg (fun q => h2 q.1)]
  refine ⟨⟨?_, ?_, h.lt, ?_, ?_, ?_, fun o ho => ?_, h.d1, h.d2, h.d3, h.d4, h.d5⟩, fun b _ h2 o => far b h2 o⟩
  · rw [updMu_get, if_neg (by simp)]; exact h.l
  · rw [updMu_get, if_pos (by simp)]; rfl
  · rw [far _ (Ne.symm h.d4)]; exact h.at_
  · rw [far _ (Ne.symm h.d5)]; exact h.ws
  · rw [far _ (Ne.symm h.d5)]; exact h.ep
  · rw [far _ h.d1]; exact h.w o ho
theorem regWrite {a : Int} (h0 : 0 ≤ a) (h1 : a < R.n) (x : Int) : HasReg (updMu m R.wb (0 + a.toNat * 1) [.int .u64 x]) mb lb len i c { R with w := upd R.w a.toNat x } ∧ Far mb R.wb m (updMu m R.wb (0 + a.toNat * 1) [.int .u64 x]) := by
  have d1 := h.d1
  have far : ∀ b, b ≠ R.wb → ∀ o, (updMu m R.wb (0 + a.toNat * 1) [.int .u64 x]) b o = m b o := fun b h1 o => by
    rw [updMu_get, if_neg (fun q => h1 q.1)]
  refine ⟨⟨?_, ?_, h.lt, ?_, ?_, ?_, fun o ho => ?_, h.d1, h.d2, h.d3, h.d4, h.d5⟩, fun b h1 _ o => far b h1 o⟩
  · rw [far _ (Ne.symm d1)]; exact h.l
  · rw [far _ (Ne.symm d1)]; exact h.c
  · rw [far _ (Ne.symm h.d2)]; exact h.at_
  · rw [far _ (Ne.symm h.d3)]; exact h.ws
  · rw [far _ (Ne.symm h.d3)]; exact h.ep
  · rw [updMu_get]
    simp only [upd, Nat.zero_add, Nat.mul_one, List.length_singleton, true_and]
    by_cases he : o = a.toNat
    · subst he; rw [if_pos ⟨Nat.le_refl _, by omega⟩, if_pos rfl]; simp
    · rw [if_neg (by omega), if_neg he]; exact h.w o ho
end
/-- What an access does. -/
def accW (rn : Nat) (w : Nat → Int) (op a x y : Int) : Option (Int × (Nat → Int)) :=
  if a < 0 ∨ a ≥ rn ∨ op < 0 ∨ op > 3 then none
  else some (w a.toNat, if op = 1 then upd w a.toNat x else if op = 2 then (if w a.toNat = x then upd w a.toNat y else w) else if op = 3 then upd w a.toNat (IntKind.u64.wrap (w a.toNat + x)) else w)
section
variable {m : Mu} {mb lb len i : Nat} {c : Int} {R : Reg} (h : HasReg m mb lb len i c R)
include h
theorem doNone {op a x y : Int} (ha : accW R.n R.w op a x y = none) : CallOk Tryz.prog n_mem_Memory_Do [.adr mb 0, .agg [.int .i64 i, .int .u64 R.e], .agg [.int .i64 op, .int .i64 a, .int .u64 x, .int .u64 y]] m (.tup [.int .u64 0, .bool false]) m false [] := by
  unfold accW at ha
  split at ha
  case isFalse => cases ha
  rename_i hc
  by_cases h1 : a < 0
  · exact f_mem_Memory_Do_10 (goodOk h R.e) (by simp) (decide_eq_true h1)
  by_cases h2 : a ≥ R.n
  · exact f_mem_Memory_Do_9 (goodOk h R.e) (by simp) (decide_eq_false h1) (sizeOk h) (decide_eq_true h2)
  by_cases h3 : op < 0
  · exact f_mem_Memory_Do_8 (goodOk h R.e) (by simp) (decide_eq_false h1) (sizeOk h) (decide_eq_false h2) (decide_eq_true h3)
  · exact f_mem_Memory_Do_7 (goodOk h R.e) (by simp) (decide_eq_false h1) (sizeOk h) (decide_eq_false h2) (decide_eq_false h3) (decide_eq_true (by omega))
/-- An access with another epoch. -/
theorem doCut {e : Int} (he : R.e ≠ e) {op a x y : Int} : CallOk Tryz.prog n_mem_Memory_Do [.adr mb 0, .agg [.int .i64 i, .int .u64 e], .agg [.int .i64 op, .int .i64 a, .int .u64 x, .int .u64 y]] m (.tup [.int .u64 0, .bool false]) m false [] :=
  f_mem_Memory_Do_11 (goodOk h e) (by simpa using he)
theorem doSome {op a x y v : Int} {w' : Nat → Int} (ha : accW R.n R.w op a x y = some (v, w')) :
    ∃ m', CallOk Tryz.prog n_mem_Memory_Do [.adr mb 0, .agg [.int .i64 i, .int .u64 R.e], .agg [.int .i64 op, .int .i64 a, .int .u64 x, .int .u64 y]] m (.tup [.int .u64 v, .bool true]) m' false [] ∧ HasReg m' mb lb len i (IntKind.i64.wrap (c + 1)) { R with w := w' } ∧ Far mb R.wb m m' := by
  unfold accW at ha
  split at ha
  · cases ha
  rename_i hn
  simp only [Option.some.injEq, Prod.mk.injEq] at ha
  obtain ⟨rfl, rfl⟩ := ha
  have h0 : 0 ≤ a := by omega
  have h1 : a < R.n := by omega
  have hc := h.c
  have hw : m R.wb (0 + a.toNat * 1) = some (.int .u64 (R.w a.toNat)) := by rw [Nat.zero_add, Nat.mul_one]; exact h.w _ (by omega)
  have d1 := h.d1
  have hcx : ∀ x : Int, (updMu m R.wb (0 + a.toNat * 1) [.int .u64 x]) mb 1 = some (.int .i64 c) := fun x => by rw [updMu_get, if_neg (fun q => d1 q.1.symm)]; exact hc
  have wr : ∀ x : Int, HasReg (updMu (updMu m R.wb (0 + a.toNat * 1) [.int .u64 x]) mb 1 [.int .i64 (IntKind.i64.wrap (c + 1))]) mb lb len i (IntKind.i64.wrap (c + 1)) { R with w := upd R.w a.toNat x } ∧ Far mb R.wb m (updMu (updMu m R.wb (0 + a.toNat * 1) [.int .u64 x]) mb 1 [.int .i64 (IntKind.i64.wrap (c + 1))]) := fun x => by
    obtain ⟨q1, q2⟩ := regWrite h h0 h1 x
    obtain ⟨q3, q4⟩ := regCount q1 (IntKind.i64.wrap (c + 1))
    exact ⟨q3, q2.trans q4⟩
  have p1 : (decide ((a : Int) < 0)) = false := decide_eq_false (by omega)
  have p2 : (decide ((a : Int) ≥ (R.n : Int))) = false := decide_eq_false (by omega)
  have p3 : (decide ((op : Int) < 0)) = false := decide_eq_false (by omega)
  have p4 : (decide ((op : Int) > 3)) = false := decide_eq_false (by omega)
  have p5 := decide_eq_true (show (0 : Int) ≤ (i : Int) ∧ (i : Int) < ((len : Nat) : Int) by have := h.lt; omega)
  have p6 : decide ((0 : Int) ≤ a ∧ a < ((R.n : Nat) : Int)) = true := decide_eq_true (by omega)
  by_cases e1 : op = 1
  · rw [if_pos e1]
    obtain ⟨q1, q2⟩ := wr x
    exact ⟨_, f_mem_Memory_Do_6 (goodOk h R.e) (by simp) p1 (sizeOk h) p2 p3 p4 h.l p5 (by simpa using h.at_) h.ws p6 hw (by simp [e1]) (by rw [hw]; rfl) (hcx x) (by rw [hcx x]; rfl), q1, q2⟩
  rw [if_neg e1]
  have n1 : (op == (1 : Int)) = false := beq_eq_false_iff_ne.2 e1
  by_cases e2 : op = 2
  · rw [if_pos e2]
    have n2 : (op == (2 : Int)) = true := by simp [e2]
    have n3 : (op == (3 : Int)) = false := by simp [e2]
    by_cases e3 : R.w a.toNat = x
    · rw [if_pos e3]
      obtain ⟨q1, q2⟩ := wr y
      exact ⟨_, f_mem_Memory_Do_5 (goodOk h R.e) (by simp) p1 (sizeOk h) p2 p3 p4 h.l p5 (by simpa using h.at_) h.ws p6 hw n1 n2 (by simp [e3]) (by rw [hw]; rfl) (hcx y) (by rw [hcx y]; rfl), q1, q2⟩
    · rw [if_neg e3]
      obtain ⟨q1, q2⟩ := regCount h (IntKind.i64.wrap (c + 1))
      exact ⟨_, f_mem_Memory_Do_3 (goodOk h R.e) (by simp) p1 (sizeOk h) p2 p3 p4 h.l p5 (by simpa using h.at_) h.ws p6 hw n1 n2 (beq_eq_false_iff_ne.2 e3) n3 hc (by rw [hc]; rfl), q1, q2⟩
  rw [if_neg e2]
  have n2 : (op == (2 : Int)) = false := beq_eq_false_iff_ne.2 e2
  by_cases e4 : op = 3
  · rw [if_pos e4]
    obtain ⟨q1, q2⟩ := wr (IntKind.u64.wrap (R.w a.toNat + x))
    exact ⟨_, f_mem_Memory_Do_2 (goodOk h R.e) (by simp) p1 (sizeOk h) p2 p3 p4 h.l p5 (by simpa using h.at_) h.ws p6 hw n1 n2 (by simp [e4]) hw (by rw [hw]; rfl) (hcx _) (by rw [hcx _]; rfl), q1, q2⟩
  · rw [if_neg e4]
    obtain ⟨q1, q2⟩ := regCount h (IntKind.i64.wrap (c + 1))
    exact ⟨_, f_mem_Memory_Do_1 (goodOk h R.e) (by simp) p1 (sizeOk h) p2 p3 p4 h.l p5 (by simpa using h.at_) h.ws p6 hw n1 n2 (beq_eq_false_iff_ne.2 e4) hc (by rw [hc]; rfl), q1, q2⟩
end
end Go.Proofs.YtehihnapbpcfbaaGreat.Fun
