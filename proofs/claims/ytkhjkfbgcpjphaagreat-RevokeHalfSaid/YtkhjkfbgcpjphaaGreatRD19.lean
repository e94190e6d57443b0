/- States of nodes: their words, and what a drain makes of them. -/
import Derived.Test.YtkhjkfbgcpjphaaGreatRD17
import Derived.Test.YtkhjkfbgcpjphaaGreatFunWaysB
namespace Go.Proofs.YtkhjkfbgcpjphaaGreat.Fun
open Go Go.Proofs.YtkhjkfbgcpjphaaGreat.Fun.B
set_option linter.unusedVariables false
theorem wrapu (x : Int) : IntKind.u64.wrap x = x % 18446744073709551616 := by
  simp only [IntKind.wrap, IntKind.signed, IntKind.bits]
  simp
theorem wrapu_of {x : Int} (h : Wd x) : IntKind.u64.wrap x = x := by rw [wrapu]; exact Int.emod_eq_of_lt h.1 h.2
theorem ofInt_nat {x : Int} (h : Wd x) : (BitVec.ofInt IntKind.u64.bits x).toNat = x.toNat := by
  show (BitVec.ofInt 64 x).toNat = _
  rw [BitVec.toNat_ofInt]
  have := h.1; have := h.2
  omega
theorem wd_nat {x : Int} (h : Wd x) : ((x.toNat : Nat) : Int) = x := Int.toNat_of_nonneg h.1
/-- The lowest bits. -/
theorem and_low {x : Int} (h : Wd x) (k : Nat) (hk : k < 64) (c : Int) (hc : c = 2 ^ k - 1) : IntKind.u64.wrap ((BitVec.ofInt IntKind.u64.bits x &&& BitVec.ofInt IntKind.u64.bits c).toNat : Int) = x % 2 ^ k := by
  have h1 : (2 : Nat) ^ k < 2 ^ 64 := Nat.pow_lt_pow_right (by omega) hk
  have h0 : (0 : Nat) < 2 ^ k := Nat.pow_pos (by omega)
  have e : (2 : Int) ^ k = ((2 ^ k : Nat) : Int) := by simp
  have hw : Wd c := by rw [hc, e]; unfold Wd; have : (2 : Nat) ^ 64 = 18446744073709551616 := by decide
                       omega
  rw [BitVec.toNat_and, ofInt_nat h, ofInt_nat hw, show c.toNat = 2 ^ k - 1 by rw [hc, e]; omega, Nat.and_two_pow_sub_one_eq_mod]
  have hlt : x.toNat % 2 ^ k < 2 ^ k := Nat.mod_lt _ h0
  rw [wrapu_of ⟨by omega, by have : (2 : Nat) ^ 64 = 18446744073709551616 := by decide
                             omega⟩, Int.natCast_emod, wd_nat h, e]
theorem bit_of {x : Int} {k i : Nat} (h0 : 0 ≤ x) (h1 : x < 2 ^ k) (hi : k ≤ i) : (BitVec.ofInt 64 x).getLsbD i = false := by
  by_cases h64 : i < 64
  rotate_left
  · exact BitVec.getLsbD_of_ge _ _ (by omega)
  have e : (2 : Int) ^ k = ((2 ^ k : Nat) : Int) := by simp
  rw [e] at h1
  have hp : (2 : Nat) ^ k ≤ 2 ^ i := Nat.pow_le_pow_right (by omega) hi
  have hq : (2 : Nat) ^ i < 2 ^ 64 := Nat.pow_lt_pow_right (by omega) h64
  have : (2 : Nat) ^ 64 = 18446744073709551616 := by decide
  rw [BitVec.getLsbD, show (BitVec.ofInt 64 x).toNat = x.toNat from ofInt_nat (x := x) ⟨h0, by omega⟩]
  exact Nat.testBit_lt_two_pow (by omega)
/-- A mask that has none of a word's bits takes nothing from it. -/
theorem andNot_off {x : Int} {k : Nat} (hk : k ≤ 64) (h0 : 0 ≤ x) (h1 : x < 2 ^ k) (c : Int) (hc : ∀ i, i < k → (BitVec.ofInt 64 c).getLsbD i = false) : IntKind.u64.wrap ((BitVec.ofInt IntKind.u64.bits x &&& ~~~ BitVec.ofInt IntKind.u64.bits c).toNat : Int) = x := by
  have e : (2 : Int) ^ k = ((2 ^ k : Nat) : Int) := by simp
  have hp : (2 : Nat) ^ k ≤ 2 ^ 64 := Nat.pow_le_pow_right (by omega) hk
  have : (2 : Nat) ^ 64 = 18446744073709551616 := by decide
  have hw : Wd x := ⟨h0, by rw [e] at h1; omega⟩
  have same : (BitVec.ofInt 64 x &&& ~~~ BitVec.ofInt 64 c) = BitVec.ofInt 64 x := by
    apply BitVec.eq_of_getLsbD_eq
    intro i hi
    rw [BitVec.getLsbD_and, BitVec.getLsbD_not]
    by_cases hik : i < k
    · rw [hc i hik]; simp [hi]
    · rw [bit_of h0 h1 (by omega)]; rfl
  show IntKind.u64.wrap ((BitVec.ofInt 64 x &&& ~~~ BitVec.ofInt 64 c).toNat : Int) = x
  rw [same, show (BitVec.ofInt 64 x).toNat = x.toNat from ofInt_nat hw, wd_nat hw, wrapu_of hw]
/-- Two words whose bits stand one above the other. -/
theorem or_above {x y : Int} {k : Nat} (h0 : 0 ≤ x) (h1 : x < 2 ^ k) (hy : 0 ≤ y) (hs : x + y * 2 ^ k < 18446744073709551616) : IntKind.u64.wrap ((BitVec.ofInt IntKind.u64.bits x ||| BitVec.ofInt IntKind.u64.bits (y * 2 ^ k)).toNat : Int) = x + y * 2 ^ k := by
  have e : (2 : Int) ^ k = ((2 ^ k : Nat) : Int) := by simp
  have hm : 0 ≤ y * 2 ^ k := Int.mul_nonneg hy (by rw [e]; omega)
  have hx : Wd x := ⟨h0, by omega⟩
  have hyw : Wd (y * 2 ^ k) := ⟨hm, by omega⟩
  rw [BitVec.toNat_or, ofInt_nat hx, ofInt_nat hyw]
  have e2 : (y * 2 ^ k).toNat = 2 ^ k * y.toNat := by
    have : ((2 ^ k * y.toNat : Nat) : Int) = y * 2 ^ k := by rw [Int.natCast_mul, Int.toNat_of_nonneg hy, ← e, Int.mul_comm]
    omega
  have hlt : x.toNat < 2 ^ k := by rw [e] at h1; omega
  rw [e2, Nat.or_comm, ← Nat.two_pow_add_eq_or_of_lt hlt y.toNat]
  have e3 : ((2 ^ k * y.toNat + x.toNat : Nat) : Int) = x + y * 2 ^ k := by rw [← e2]; omega
  rw [e3, wrapu_of ⟨by omega, hs⟩]
/-- Nothing stands above a state's bits. -/
theorem rest81 {w : Int} (h : Wd w) : ((IntKind.u64.wrap (BitVec.ofInt (IntKind.u64.bits) (IntKind.u64.wrap (BitVec.ofInt (IntKind.u64.bits) (IntKind.u64.wrap (BitVec.ofInt (IntKind.u64.bits) w &&& ~~~ BitVec.ofInt (IntKind.u64.bits) 1073741823).toNat) &&& ~~~ BitVec.ofInt (IntKind.u64.bits) 3221225472).toNat) &&& ~~~ BitVec.ofInt (IntKind.u64.bits) 12884901888).toNat : Int) != 0) = !decide (w < 17179869184) := by
  have back : ∀ b : BitVec 64, BitVec.ofInt 64 (IntKind.u64.wrap (b.toNat : Int)) = b := fun b => by
    rw [wrapu_of ⟨by omega, by have := b.isLt; omega⟩]
    apply BitVec.eq_of_toNat_eq
    rw [BitVec.toNat_ofInt]
    have := b.isLt
    omega
  show ((IntKind.u64.wrap (BitVec.ofInt 64 (IntKind.u64.wrap (BitVec.ofInt 64 (IntKind.u64.wrap (BitVec.ofInt 64 w &&& ~~~ BitVec.ofInt 64 1073741823).toNat) &&& ~~~ BitVec.ofInt 64 3221225472).toNat) &&& ~~~ BitVec.ofInt 64 12884901888).toNat : Int) != 0) = _
  rw [back, back]
  have e : BitVec.ofInt 64 w &&& ~~~ BitVec.ofInt 64 1073741823 &&& ~~~ BitVec.ofInt 64 3221225472 &&& ~~~ BitVec.ofInt 64 12884901888 = BitVec.ofInt 64 w &&& ~~~ 17179869183#64 := by
    rw [BitVec.and_assoc, BitVec.and_assoc]
    congr 1
  rw [e]
  have hb : (BitVec.ofInt 64 w).toNat = w.toNat := ofInt_nat h
  generalize BitVec.ofInt 64 w = b at hb
  have hw := wd_nat h
  have hmask : ∀ i : Nat, (17179869183#64).getLsbD i = decide (i < 34) := fun i => by
    have : (17179869183#64) = BitVec.ofNat 64 (2 ^ 34 - 1) := by decide
    rw [this, BitVec.getLsbD_ofNat, Nat.testBit_two_pow_sub_one]
    by_cases hi : i < 34
    · simp [hi]; omega
    · simp [hi]
  by_cases hlt : w < 17179869184
  · have : b &&& ~~~ 17179869183#64 = 0#64 := by
      apply BitVec.eq_of_getLsbD_eq
      intro i hi
      rw [BitVec.getLsbD_and, BitVec.getLsbD_not, hmask]
      by_cases h34 : i < 34
      · simp [h34]
      · have : b.getLsbD i = false := by
          rw [BitVec.getLsbD]
          have hp : (2 : Nat) ^ 34 ≤ 2 ^ i := Nat.pow_le_pow_right (by omega) (by omega)
          have : (2 : Nat) ^ 34 = 17179869184 := by decide
          exact Nat.testBit_lt_two_pow (by omega)
        simp [this]
    rw [this]
    simp [hlt, wrapu]
  · have : b &&& ~~~ 17179869183#64 ≠ 0#64 := by
      intro hz
      have hbits : ∀ i, 34 ≤ i → b.toNat.testBit i = false := fun i hi => by
        by_cases h64 : i < 64
        · have := congrArg (fun x : BitVec 64 => x.getLsbD i) hz
          simp only [BitVec.getLsbD_and, BitVec.getLsbD_not, hmask] at this
          have h34 : ¬ i < 34 := by omega
          simp [h64, h34] at this
          exact this
        · exact BitVec.getLsbD_of_ge b i (by omega)
      have : b.toNat < 2 ^ 34 := Nat.lt_pow_two_of_testBit _ hbits
      have : (2 : Nat) ^ 34 = 17179869184 := by decide
      omega
    have hne : (b &&& ~~~ 17179869183#64).toNat ≠ 0 := fun hz => this (BitVec.eq_of_toNat_eq (by rw [hz]; rfl))
    have hl := (b &&& ~~~ 17179869183#64).isLt
    rw [wrapu_of ⟨by omega, by omega⟩]
    have e3 : (((b &&& ~~~ 17179869183#64).toNat : Int) != 0) = true := by rw [bne_iff_ne]; omega
    rw [e3]
    simp [hlt]
theorem shr_min (w : Int) (k : Nat) (hk : k ≤ 64) : Int.fdiv w (2 ^ (min (k : Int).toNat IntKind.u64.bits)) = w / 2 ^ k := by
  rw [Int.toNat_natCast, Nat.min_eq_left (show k ≤ IntKind.u64.bits from hk)]
  have e : (2 : Int) ^ k = ((2 ^ k : Nat) : Int) := by simp
  rw [e]
  exact Int.fdiv_eq_ediv_of_nonneg _ (Int.natCast_nonneg _)
def stg (w : Int) : Int := w % 1073741824
def stm (w : Int) : Int := w / 1073741824 % 4
def stk (w : Int) : Int := w / 4294967296 % 4
/-- Is a word a state's? -/
def stOk? (w : Int) : Bool := decide (w < 17179869184) && decide (stk w ≤ 2)
theorem st_in (w : Int) : 0 ≤ stg w ∧ stg w ≤ 1073741823 ∧ 0 ≤ stm w ∧ stm w ≤ 3 ∧ 0 ≤ stk w ∧ stk w ≤ 3 := by unfold stg stm stk; omega
theorem of81 {w : Int} (h : Wd w) (m : Mu) : CallOk Tryz.prog 70 [.int .u64 w] m (if stOk? w = true then .tup [.agg [.int .i64 (stg w), .int .i64 (stm w), .int .i64 (stk w)], .bool true] else .tup [.agg [.int .i64 0, .int .i64 0, .int .i64 0], .bool false]) m false [] := by
  have hr := rest81 h
  have hin := st_in w
  have h0 := h.1; have h1 := h.2
  have wd1 : Wd (w / 1073741824) := ⟨by omega, by omega⟩
  have wd2 : Wd (w / 4294967296) := ⟨by omega, by omega⟩
  have eg : IntKind.i64.wrap (IntKind.u64.wrap (BitVec.ofInt (IntKind.u64.bits) (Int.fdiv w (2 ^ (min (0 : Int).toNat IntKind.u64.bits))) &&& BitVec.ofInt (IntKind.u64.bits) 1073741823).toNat) = stg w := by
    have := shr_min w 0 (by omega)
    rw [show Int.fdiv w (2 ^ (min (0 : Int).toNat IntKind.u64.bits)) = w by have := shr_min w 0 (by omega); simp at this ⊢, and_low h 30 (by omega) _ (by decide)]
    exact wrap64 (x := stg w) (by omega) (by omega)
  have em : IntKind.i64.wrap (IntKind.u64.wrap (BitVec.ofInt (IntKind.u64.bits) (Int.fdiv w (2 ^ (min (30 : Int).toNat IntKind.u64.bits))) &&& BitVec.ofInt (IntKind.u64.bits) 3).toNat) = stm w := by
    rw [show Int.fdiv w (2 ^ (min (30 : Int).toNat IntKind.u64.bits)) = w / 1073741824 from shr_min w 30 (by omega), and_low wd1 2 (by omega) _ (by decide)]
    exact wrap64 (x := stm w) (by omega) (by omega)
  have ek : IntKind.i64.wrap (IntKind.u64.wrap (BitVec.ofInt (IntKind.u64.bits) (Int.fdiv w (2 ^ (min (32 : Int).toNat IntKind.u64.bits))) &&& BitVec.ofInt (IntKind.u64.bits) 3).toNat) = stk w := by
    rw [show Int.fdiv w (2 ^ (min (32 : Int).toNat IntKind.u64.bits)) = w / 4294967296 from shr_min w 32 (by omega), and_low wd2 2 (by omega) _ (by decide)]
    exact wrap64 (x := stk w) (by omega) (by omega)
  by_cases hlt : w < 17179869184
  · rw [decide_eq_true hlt] at hr
    by_cases hk : stk w ≤ 2
    · rw [if_pos (by unfold stOk?; simp [hlt, hk])]
      have := d70_6 (a0 := w) hr (by rw [eg]; exact decide_eq_true (by omega)) (by rw [eg]; exact decide_eq_true (by omega)) (by rw [em]; exact decide_eq_true (by omega)) (by rw [em]; exact decide_eq_true (by omega)) (by rw [ek]; exact decide_eq_true (by omega)) (by rw [ek, decide_eq_true hk]; rfl) m
      rw [eg, em, ek] at this
      exact this
    · rw [if_neg (by unfold stOk?; simp [hk])]
      exact d70_7 hr (by rw [eg]; exact decide_eq_true (by omega)) (by rw [eg]; exact decide_eq_true (by omega)) (by rw [em]; exact decide_eq_true (by omega)) (by rw [em]; exact decide_eq_true (by omega)) (by rw [ek]; exact decide_eq_true (by omega)) (by rw [ek, decide_eq_false hk]; rfl) m
  · rw [decide_eq_false hlt] at hr
    rw [if_neg (by unfold stOk?; simp [hlt])]
    exact d70_8 hr m
theorem word83 {g s k : Int} (g0 : 0 ≤ g) (g1 : g ≤ 1073741823) (s0 : 0 ≤ s) (s1 : s ≤ 3) (k0 : 0 ≤ k) (k1 : k ≤ 2) (m : Mu) : CallOk Tryz.prog 72 [.agg [.int .i64 g, .int .i64 s, .int .i64 k]] m (.int .u64 (g + s * 1073741824 + k * 4294967296)) m false [] := by
  have wg : IntKind.u64.wrap g = g := wrapu_of ⟨by omega, by omega⟩
  have ws : IntKind.u64.wrap s = s := wrapu_of ⟨by omega, by omega⟩
  have wk : IntKind.u64.wrap k = k := wrapu_of ⟨by omega, by omega⟩
  have q := d72_6 (a0_0 := g) (a0_1 := s) (a0_2 := k) (decide_eq_true g0) (decide_eq_true g1) (decide_eq_true s0) (decide_eq_true s1) (decide_eq_true k0) (by rw [decide_eq_true k1]; rfl) (by rw [wg]; exact decide_eq_false (by omega)) (by rw [ws]; exact decide_eq_false (by omega)) (by rw [wk]; exact decide_eq_false (by omega)) m
  rw [wg, ws, wk] at q
  rw [and_low (x := g) ⟨by omega, by omega⟩ 30 (by omega) _ (by decide), and_low (x := s) ⟨by omega, by omega⟩ 2 (by omega) _ (by decide), and_low (x := k) ⟨by omega, by omega⟩ 2 (by omega) _ (by decide)] at q
  rw [show g % 2 ^ 30 * 2 ^ min (Int.toNat 0) IntKind.u64.bits = g by simp [IntKind.bits]; omega, show s % 2 ^ 2 * 2 ^ min (Int.toNat 30) IntKind.u64.bits = s * 2 ^ 30 by simp [IntKind.bits]; omega,
    show k % 2 ^ 2 * 2 ^ min (Int.toNat 32) IntKind.u64.bits = k * 2 ^ 32 by simp [IntKind.bits]; omega, wg, wrapu_of (x := s * 2 ^ 30) ⟨by omega, by omega⟩, wrapu_of (x := k * 2 ^ 32) ⟨by omega, by omega⟩] at q
  have o1 := or_above (x := 0) (y := g) (k := 0) (by omega) (by omega) g0 (by omega)
  rw [Int.pow_zero, Int.mul_one, Int.zero_add] at o1
  have a1 := andNot_off (x := g) (k := 30) (by omega) g0 (by omega) 3221225472 (by decide)
  have o2 := or_above (x := g) (y := s) (k := 30) g0 (by omega) s0 (by omega)
  have a2 := andNot_off (x := g + s * 2 ^ 30) (k := 32) (by omega) (by omega) (by omega) 12884901888 (by decide)
  have o3 := or_above (x := g + s * 2 ^ 30) (y := k) (k := 32) (by omega) (by omega) k0 (by omega)
  rw [o1, a1, o2, a2, o3] at q
  exact q
theorem of81y {w : Int} (h : Wd w) (hs : stOk? w = true) (m : Mu) : CallOk Tryz.prog 70 [.int .u64 w] m (.tup [.agg [.int .i64 (stg w), .int .i64 (stm w), .int .i64 (stk w)], .bool true]) m false [] := by
  have := of81 h m; rwa [if_pos hs] at this
theorem of81n {w : Int} (h : Wd w) (hs : ¬ stOk? w = true) (m : Mu) : CallOk Tryz.prog 70 [.int .u64 w] m (.tup [.agg [.int .i64 0, .int .i64 0, .int .i64 0], .bool false]) m false [] := by
  have := of81 h m; rwa [if_neg hs] at this
/-- A state that is freed. -/
def fr (g a : Int) : Int × Int × Int := if a ≥ g then (a, 3, 0) else (a + 1, 0, 0)
theorem freed82 {g a : Int} (a0 : 0 ≤ a) (a1 : a ≤ 1073741823) (s k : Int) (m : Mu) : CallOk Tryz.prog 71 [.agg [.int .i64 a, .int .i64 s, .int .i64 k], .int .i64 g] m (.agg [.int .i64 (fr g a).1, .int .i64 (fr g a).2.1, .int .i64 (fr g a).2.2]) m false [] := by
  unfold fr
  by_cases h : a ≥ g
  · rw [if_pos h]; exact d71_2 (decide_eq_true h) m
  · rw [if_neg h]
    have := d71_1 (a0_0 := a) (a0_1 := s) (a0_2 := k) (decide_eq_false h) m
    rwa [wrap64 (by omega) (by omega)] at this
/-- What a drain makes of a word's state. -/
def stS (g w : Int) : Int × Int × Int := if stOk? w = true then (if stm w = 3 ∨ (stm w = 0 ∧ stk w = 0) then (stg w, stm w, stk w) else fr g (stg w)) else fr g 0
def stW (g w : Int) : Int := (stS g w).1 + (stS g w).2.1 * 1073741824 + (stS g w).2.2 * 4294967296
theorem fr_in {g a : Int} (hg : g ≤ 1073741823) (a0 : 0 ≤ a) (a1 : a ≤ 1073741823) : 0 ≤ (fr g a).1 ∧ (fr g a).1 ≤ 1073741823 ∧ 0 ≤ (fr g a).2.1 ∧ (fr g a).2.1 ≤ 3 ∧ (fr g a).2.2 = 0 := by
  unfold fr; split <;> simp <;> omega
theorem stS_in {g w : Int} (hg : g ≤ 1073741823) : 0 ≤ (stS g w).1 ∧ (stS g w).1 ≤ 1073741823 ∧ 0 ≤ (stS g w).2.1 ∧ (stS g w).2.1 ≤ 3 ∧ 0 ≤ (stS g w).2.2 ∧ (stS g w).2.2 ≤ 2 := by
  have hin := st_in w
  unfold stS
  split
  · rename_i h
    split
    · simp only [stOk?, Bool.and_eq_true, decide_eq_true_eq] at h; simp only; omega
    · have := fr_in (g := g) (a := stg w) hg (by omega) (by omega); omega
  · have := fr_in (g := g) (a := 0) hg (by omega) (by omega); omega
theorem stOkW {g w : Int} (hw : Wd w) : StOk g w (stW g w) (stS g w).1 (stS g w).2.1 (stS g w).2.2 := by
  intro n t r d b h k h0 h1 dv hdv m
  have hg := h.hg
  have hin := st_in w
  have hi := stS_in (g := g) (w := w) hg.2
  have h83 : ∀ m, CallOk Tryz.prog 72 [.agg [.int .i64 (stS g w).1, .int .i64 (stS g w).2.1, .int .i64 (stS g w).2.2]] m (.int .u64 (stW g w)) m false [] := fun m => word83 hi.1 hi.2.1 hi.2.2.1 hi.2.2.2.1 hi.2.2.2.2.1 hi.2.2.2.2.2 m
  by_cases hs : stOk? w = true
  · by_cases h3 : stm w = 3
    · have e : stS g w = (stg w, stm w, stk w) := by unfold stS; rw [if_pos hs, if_pos (.inl h3)]
      rw [e] at h83 ⊢
      have c3 : ((stm w : Int) != 3) = false := by rw [h3]; rfl
      rcases hdv with rfl | ⟨row, len, rfl⟩
      · exact f69_6_s (of81y hw hs m) rfl c3 (state79 h h0 h1 m) (h83 m) (store69 _ _ _ _ m)
      · exact f69_1_s (of81y hw hs m) rfl c3 (state79 h h0 h1 m) (h83 m) (store69 _ _ _ _ m)
    · have c3 : ((stm w : Int) != 3) = true := by rw [bne_iff_ne]; exact h3
      by_cases h4 : stm w = 0
      · have c4 : ((stm w : Int) != 0) = false := by rw [h4]; rfl
        by_cases h5 : stk w = 0
        · have c5 : ((stk w : Int) != 0) = false := by rw [h5]; rfl
          have e : stS g w = (stg w, stm w, stk w) := by unfold stS; rw [if_pos hs, if_pos (.inr ⟨h4, h5⟩)]
          rw [e] at h83 ⊢
          rcases hdv with rfl | ⟨row, len, rfl⟩
          · exact f69_7_s (of81y hw hs m) rfl c3 c4 c5 (state79 h h0 h1 m) (h83 m) (store69 _ _ _ _ m)
          · exact f69_2_s (of81y hw hs m) rfl c3 c4 c5 (state79 h h0 h1 m) (h83 m) (store69 _ _ _ _ m)
        · have c5 : ((stk w : Int) != 0) = true := by rw [bne_iff_ne]; exact h5
          have e : stS g w = fr g (stg w) := by unfold stS; rw [if_pos hs, if_neg (by rintro (q | q); exact h3 q; exact h5 q.2)]
          rw [e] at h83 ⊢
          rcases hdv with rfl | ⟨row, len, rfl⟩
          · exact f69_8_s (of81y hw hs m) rfl c3 c4 c5 (freed82 (by omega) (by omega) _ _ m) (state79 h h0 h1 m) (h83 m) (store69 _ _ _ _ m)
          · exact f69_3_s (of81y hw hs m) rfl c3 c4 c5 (freed82 (by omega) (by omega) _ _ m) (state79 h h0 h1 m) (h83 m) (store69 _ _ _ _ m)
      · have c4 : ((stm w : Int) != 0) = true := by rw [bne_iff_ne]; exact h4
        have e : stS g w = fr g (stg w) := by unfold stS; rw [if_pos hs, if_neg (by rintro (q | q); exact h3 q; exact h4 q.1)]
        rw [e] at h83 ⊢
        rcases hdv with rfl | ⟨row, len, rfl⟩
        · exact f69_9_s (of81y hw hs m) rfl c3 c4 (freed82 (by omega) (by omega) _ _ m) (state79 h h0 h1 m) (h83 m) (store69 _ _ _ _ m)
        · exact f69_4_s (of81y hw hs m) rfl c3 c4 (freed82 (by omega) (by omega) _ _ m) (state79 h h0 h1 m) (h83 m) (store69 _ _ _ _ m)
  · have e : stS g w = fr g 0 := by unfold stS; rw [if_neg hs]
    rw [e] at h83 ⊢
    rcases hdv with rfl | ⟨row, len, rfl⟩
    · exact f69_10_s (of81n hw hs m) rfl (freed82 (by omega) (by omega) _ _ m) (state79 h h0 h1 m) (h83 m) (store69 _ _ _ _ m)
    · exact f69_5_s (of81n hw hs m) rfl (freed82 (by omega) (by omega) _ _ m) (state79 h h0 h1 m) (h83 m) (store69 _ _ _ _ m)
/-- What is drained stays so. -/
theorem stW_again {g w : Int} (hg : 1 ≤ g ∧ g ≤ 1073741823) : stS g (stW g w) = stS g w ∧ Wd (stW g w) := by
  have hi := stS_in (g := g) (w := w) hg.2
  have hend : (stS g w).2.1 = 3 ∨ ((stS g w).2.1 = 0 ∧ (stS g w).2.2 = 0) := by
    unfold stS fr
    split
    · split
      · rename_i q; exact q
      · split <;> simp
    · split <;> simp
  generalize hS : stS g w = s at hi hend
  obtain ⟨s0, s1, s2⟩ := s
  simp only at hi hend
  have e : stW g w = s0 + s1 * 1073741824 + s2 * 4294967296 := by unfold stW; rw [hS]
  rw [e]
  have hw : Wd (s0 + s1 * 1073741824 + s2 * 4294967296) := ⟨by omega, by omega⟩
  have e0 : stg (s0 + s1 * 1073741824 + s2 * 4294967296) = s0 := by unfold stg; omega
  have e1 : stm (s0 + s1 * 1073741824 + s2 * 4294967296) = s1 := by unfold stm; omega
  have e2 : stk (s0 + s1 * 1073741824 + s2 * 4294967296) = s2 := by unfold stk; omega
  refine ⟨?_, hw⟩
  unfold stS
  rw [e0, e1, e2, if_pos (by unfold stOk?; rw [e2, decide_eq_true (by omega), decide_eq_true (by omega)]; rfl), if_pos hend]
end Go.Proofs.YtkhjkfbgcpjphaaGreat.Fun
