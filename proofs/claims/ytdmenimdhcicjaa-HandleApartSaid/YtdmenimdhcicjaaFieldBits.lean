/- Plain facts on words of 64 bits: a word as a whole number, its shifts, masks and bits; no program in sight. -/
import Derived.Test.YtdmenimdhcicjaaWMore
namespace Go.Proofs.Ytdmenimdhcicjaa.FB
open Go Go.RowKit Go.Proofs.YtdmenimdhcicjaaW.PrintWords Go.Proofs.YtdmenimdhcicjaaW.PrintLast Go.Proofs.YtdmenimdhcicjaaW.PrintMore
set_option linter.unusedVariables false
set_option linter.unusedSimpArgs false

/-- A word as a whole number. -/
def u (b : BitVec 64) : Int := (b.toNat : Int)
theorem u_nonneg (b : BitVec 64) : 0 ≤ u b := by unfold u; omega
theorem u_lt (b : BitVec 64) : u b < 18446744073709551616 := by unfold u; have := b.isLt; omega
theorem u_inj {a b : BitVec 64} : u a = u b ↔ a = b := by
  unfold u
  constructor
  · intro h
    exact BitVec.eq_of_toNat_eq (by omega)
  · rintro rfl; rfl
theorem wf_u64 {x : Int} (h : (Lit.int .u64 x).wf = true) : 0 ≤ x ∧ x < 18446744073709551616 := by
  simp [Lit.wf, IntKind.min, IntKind.max, IntKind.signed, IntKind.bits] at h
  omega
theorem wf_i64 {x : Int} (h : (Lit.int .i64 x).wf = true) : -9223372036854775808 ≤ x ∧ x < 9223372036854775808 := by
  simp [Lit.wf, IntKind.min, IntKind.max, IntKind.signed, IntKind.bits] at h
  omega
theorem u_ofInt {x : Int} (h : 0 ≤ x ∧ x < 18446744073709551616) : x = u (BitVec.ofInt 64 x) := by
  unfold u
  rw [BitVec.toNat_ofInt]
  omega
theorem u_of {x : Int} (h : (Lit.int .u64 x).wf = true) : ∃ b, x = u b := ⟨_, u_ofInt (wf_u64 h)⟩
theorem ofInt_u (b : BitVec 64) : BitVec.ofInt 64 (u b) = b := by
  apply BitVec.eq_of_toNat_eq
  unfold u
  rw [BitVec.toNat_ofInt]
  have := b.isLt
  omega
theorem wrap_nat (b : BitVec 64) : IntKind.u64.wrap (b.toNat : Int) = u b := by
  have := b.isLt
  simp only [IntKind.wrap, IntKind.signed, IntKind.bits, u]
  simp
  omega
theorem wrapu (x : Int) : IntKind.u64.wrap x = x % 18446744073709551616 := by
  simp only [IntKind.wrap, IntKind.signed, IntKind.bits]
  simp
theorem and_u (a b : BitVec 64) : Go.bits .and .u64 (u a) (u b) = u (a &&& b) := by
  show IntKind.u64.wrap ((BitVec.ofInt 64 (u a) &&& BitVec.ofInt 64 (u b)).toNat : Int) = _
  rw [ofInt_u, ofInt_u, wrap_nat]
theorem or_u (a b : BitVec 64) : Go.bits .or .u64 (u a) (u b) = u (a ||| b) := by
  show IntKind.u64.wrap ((BitVec.ofInt 64 (u a) ||| BitVec.ofInt 64 (u b)).toNat : Int) = _
  rw [ofInt_u, ofInt_u, wrap_nat]
theorem xor_u (a b : BitVec 64) : Go.bits .xor .u64 (u a) (u b) = u (a ^^^ b) := by
  show IntKind.u64.wrap ((BitVec.ofInt 64 (u a) ^^^ BitVec.ofInt 64 (u b)).toNat : Int) = _
  rw [ofInt_u, ofInt_u, wrap_nat]
theorem andNot_u (a b : BitVec 64) : Go.bits .andNot .u64 (u a) (u b) = u (a &&& ~~~b) := by
  show IntKind.u64.wrap ((BitVec.ofInt 64 (u a) &&& ~~~(BitVec.ofInt 64 (u b))).toNat : Int) = _
  rw [ofInt_u, ofInt_u, wrap_nat]
theorem shr_u (a : BitVec 64) (n : Nat) (h : n ≤ 64) : shr .u64 (u a) (n : Int) = u (a >>> n) := by
  unfold shr u
  rw [Nat.min_eq_left (show (n : Int).toNat ≤ IntKind.u64.bits by simp [IntKind.bits]; omega)]
  rw [BitVec.toNat_ushiftRight, Nat.shiftRight_eq_div_pow, Int.toNat_natCast, Int.natCast_ediv, Int.natCast_pow]
  rfl
theorem shl_u (a : BitVec 64) (n : Nat) (h : n ≤ 64) : shl .u64 (u a) (n : Int) = u (a <<< n) := by
  unfold shl u
  rw [Nat.min_eq_left (show (n : Int).toNat ≤ IntKind.u64.bits by simp [IntKind.bits]; omega)]
  rw [BitVec.toNat_shiftLeft, Nat.shiftLeft_eq, Int.toNat_natCast, wrapu, Int.natCast_emod, Int.natCast_mul, Int.natCast_pow]
  rfl
theorem zero_u : (0 : Int) = u 0#64 := rfl
theorem one_u : (1 : Int) = u 1#64 := rfl
theorem all_u : (18446744073709551615 : Int) = u (BitVec.allOnes 64) := by decide
theorem u_eq_zero {a : BitVec 64} : u a = 0 ↔ a = 0#64 := by rw [zero_u, u_inj]
theorem u_eq_one {a : BitVec 64} : u a = 1 ↔ a = 1#64 := by rw [one_u, u_inj]

/-- A field that is formed. -/
def Fm (a n : Int) : Prop := 0 ≤ a ∧ a < 64 ∧ 1 ≤ n ∧ n ≤ 64 - a
instance (a n : Int) : Decidable (Fm a n) := by unfold Fm; infer_instance
theorem Fm.nat {a n : Int} (h : Fm a n) : ∃ A B : Nat, a = (A : Int) ∧ n = (B : Int) ∧ A < 64 ∧ 1 ≤ B ∧ A + B ≤ 64 := by
  obtain ⟨h1, h2, h3, h4⟩ := h
  exact ⟨a.toNat, n.toNat, by omega, by omega, by omega, by omega, by omega⟩

/-- The word whose lowest n bits are 1. -/
def ones (n : Nat) : BitVec 64 := BitVec.allOnes 64 >>> (64 - n)
theorem bit_ones {n : Nat} (hn : n ≤ 64) (i : Nat) : (ones n).getLsbD i = decide (i < n) := by
  unfold ones
  rw [BitVec.getLsbD_ushiftRight, BitVec.getLsbD_allOnes]
  simp
  omega
theorem toNat_ones {n : Nat} (hn : n ≤ 64) : (ones n).toNat = 2 ^ n - 1 := by
  have e : ones n = BitVec.ofNat 64 (2 ^ n - 1) := by
    apply BitVec.eq_of_getLsbD_eq
    intro i hi
    rw [bit_ones hn, BitVec.getLsbD_ofNat, Nat.testBit_two_pow_sub_one]
    simp [hi]
  rw [e, BitVec.toNat_ofNat, Nat.mod_eq_of_lt]
  have : 2 ^ n ≤ 2 ^ 64 := Nat.pow_le_pow_right (by omega) hn
  have : 0 < 2 ^ n := Nat.pow_pos (by omega)
  omega
theorem most_u {n : Nat} (hn : n < 64) : IntKind.u64.wrap (shl .u64 1 (n : Int) - 1) = u (ones n) := by
  rw [one_u, shl_u _ _ (by omega), wrapu]
  unfold u
  rw [toNat_ones (by omega), BitVec.toNat_shiftLeft, Nat.shiftLeft_eq]
  have h1 : 2 ^ n < 2 ^ 64 := Nat.pow_lt_pow_right (by omega) hn
  have h0 : 0 < 2 ^ n := Nat.pow_pos (by omega)
  have e1 : (1#64).toNat = 1 := rfl
  rw [e1, Nat.one_mul, Nat.mod_eq_of_lt h1]
  generalize 2 ^ n = m at *
  have h1' : m < 18446744073709551616 := h1
  omega
theorem ones_64 : ones 64 = BitVec.allOnes 64 := by unfold ones; simp
/-- The word in which a field's bits are 1. -/
def mask (a n : Nat) : BitVec 64 := ones n <<< a
def get (a n : Nat) (w : BitVec 64) : BitVec 64 := (w >>> a) &&& ones n
def put (a n : Nat) (w v : BitVec 64) : BitVec 64 := (w &&& ~~~(mask a n)) ||| ((v &&& ones n) <<< a)
theorem bit_mask {a n : Nat} (hn : a + n ≤ 64) (i : Nat) : (mask a n).getLsbD i = decide (a ≤ i ∧ i < a + n) := by
  unfold mask
  rw [BitVec.getLsbD_shiftLeft, bit_ones (by omega)]
  by_cases h : i < 64
  · by_cases h2 : i < a
    · have h3 : ¬ (a ≤ i ∧ i < a + n) := by omega
      simp [h2, h3]
    · have h3 : (a ≤ i ∧ i < a + n) ↔ i - a < n := by omega
      simp [h, h2, h3]
  · have : ¬ (a ≤ i ∧ i < a + n) := by omega
    simp [h, this]
theorem bit_get {a n : Nat} (hn : a + n ≤ 64) (w : BitVec 64) (i : Nat) : (get a n w).getLsbD i = (decide (i < n) && w.getLsbD (a + i)) := by
  unfold get
  rw [BitVec.getLsbD_and, BitVec.getLsbD_ushiftRight, bit_ones (by omega), Bool.and_comm]
theorem bit_put {a n : Nat} (hn : a + n ≤ 64) (w v : BitVec 64) (i : Nat) : (put a n w v).getLsbD i = if a ≤ i ∧ i < a + n then v.getLsbD (i - a) else w.getLsbD i := by
  unfold put
  rw [BitVec.getLsbD_or, BitVec.getLsbD_and, BitVec.getLsbD_not, bit_mask hn, BitVec.getLsbD_shiftLeft, BitVec.getLsbD_and, bit_ones (by omega)]
  by_cases h64 : i < 64
  · by_cases h : a ≤ i ∧ i < a + n
    · have h2 : ¬ i < a := by omega
      have h3 : i - a < n := by omega
      simp [h64, h, h2, h3]
    · by_cases h2 : i < a
      · simp [h64, h2, h]
      · have h3 : ¬ i - a < n := by omega
        simp [h64, h2, h3, h]
  · have h : ¬ (a ≤ i ∧ i < a + n) := by omega
    have h5 : w.getLsbD i = false := BitVec.getLsbD_of_ge _ _ (by omega)
    simp [h64, h, h5]
theorem ext {a b : BitVec 64} (h : ∀ i, i < 64 → a.getLsbD i = b.getLsbD i) : a = b := BitVec.eq_of_getLsbD_eq h
/-- One bit of a word, asked as the reference asks it. -/
theorem bit_asked (w : BitVec 64) (i : Nat) (h : i ≤ 64) : (Go.bits .and .u64 (shr .u64 (u w) (i : Int)) 1 = 1) ↔ w.getLsbD i = true := by
  rw [shr_u _ _ h, one_u, and_u, u_inj]
  constructor
  · intro e
    have := congrArg (fun b : BitVec 64 => b.getLsbD 0) e
    simpa [BitVec.getLsbD_and, BitVec.getLsbD_ushiftRight] using this
  · intro e
    apply ext
    intro j hj
    rw [BitVec.getLsbD_and, BitVec.getLsbD_ushiftRight]
    by_cases h0 : j = 0
    · subst h0; simp [e]
    · simp [BitVec.getLsbD_one, h0]
theorem bit_shl1 (i j : Nat) (hj : j < 64) : (1#64 <<< i).getLsbD j = decide (j = i) := by
  rw [BitVec.getLsbD_shiftLeft, BitVec.getLsbD_one]
  by_cases h : j < i
  · have h3 : ¬ j = i := by omega
    simp [h, h3]
  · by_cases h2 : j = i
    · subst h2; simp [hj]
    · have h3 : ¬ j - i = 0 := by omega
      simp [hj, h2, h3]
theorem wrap_in {x : Int} (h : -9223372036854775808 ≤ x ∧ x < 9223372036854775808) : wrap64 x = x := by unfold wrap64; omega
end Go.Proofs.Ytdmenimdhcicjaa.FB
