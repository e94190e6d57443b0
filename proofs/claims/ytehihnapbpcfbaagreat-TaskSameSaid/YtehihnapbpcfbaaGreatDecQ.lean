/- Plain facts: bytes, and words of eight bytes. -/
import Derived.Test.YtehihnapbpcfbaaGreatFunDefs
namespace Go.Proofs.YtehihnapbpcfbaaGreat.Fun
open Go
set_option linter.unusedVariables false
set_option linter.unusedSimpArgs false
theorem byteD_lt (s : ByteArray) (k : Nat) : 0 ≤ byteD s k ∧ byteD s k < 256 := by
  unfold byteD
  have := (s.data.toList[k]?.getD 0).toNat_lt
  omega
theorem byteD_out {s : ByteArray} {k : Nat} (h : lenS s ≤ k) : byteD s k = 0 := by
  unfold byteD
  rw [List.getElem?_eq_none (by simpa [lenS] using h)]; rfl
theorem u64w {x : Int} (h1 : 0 ≤ x) (h2 : x < 18446744073709551616) : IntKind.u64.wrap x = x := by
  unfold IntKind.wrap
  simp only [IntKind.signed, IntKind.bits]
  simp
  omega
theorem orN {X Y : Nat} (hX : X < 18446744073709551616) (hY : Y < 18446744073709551616) : (BitVec.ofInt (IntKind.u64.bits) (X : Int) ||| BitVec.ofInt (IntKind.u64.bits) (Y : Int)).toNat = X ||| Y := by
  show (BitVec.ofInt 64 (X : Int) ||| BitVec.ofInt 64 (Y : Int)).toNat = X ||| Y
  rw [BitVec.ofInt_natCast, BitVec.ofInt_natCast, BitVec.toNat_or, BitVec.toNat_ofNat, BitVec.toNat_ofNat, Nat.mod_eq_of_lt hX, Nat.mod_eq_of_lt hY]
theorem orB {x b : Int} {k : Nat} (hk : k < 8) (h0 : 0 ≤ x) (hx : x < 2 ^ (8 * k)) (b0 : 0 ≤ b) (hb : b < 256) :
    IntKind.u64.wrap (BitVec.ofInt (IntKind.u64.bits) x ||| BitVec.ofInt (IntKind.u64.bits) (IntKind.u64.wrap ((IntKind.u64.wrap b) * 2 ^ (min ((8 * k : Nat) : Int).toNat IntKind.u64.bits)))).toNat = x + b * 2 ^ (8 * k) := by
  obtain ⟨X, rfl⟩ := Int.eq_ofNat_of_zero_le h0
  obtain ⟨B, rfl⟩ := Int.eq_ofNat_of_zero_le b0
  have hX : X < 2 ^ (8 * k) := by exact_mod_cast hx
  have hB : B < 256 := by omega
  have hm : min ((8 * k : Nat) : Int).toNat IntKind.u64.bits = 8 * k := by simp only [Int.toNat_natCast, IntKind.bits]; omega
  rw [hm, u64w (x := (B : Int)) (by omega) (by omega)]
  have e1 : ((B : Int) * 2 ^ (8 * k)) = ((B * 2 ^ (8 * k) : Nat) : Int) := by push_cast; rfl
  have hle : B * 2 ^ (8 * k) + X < 18446744073709551616 := by
    have : (B + 1) * 2 ^ (8 * k) ≤ 256 * 2 ^ (8 * k) := Nat.mul_le_mul_right _ (by omega)
    have h3 : 256 * 2 ^ (8 * k) ≤ 18446744073709551616 := by
      have : (2 : Nat) ^ (8 * k) ≤ 2 ^ 56 := Nat.pow_le_pow_right (by omega) (by omega)
      omega
    rw [Nat.add_mul] at this
    omega
  rw [e1, show IntKind.u64.wrap ((B * 2 ^ (8 * k) : Nat) : Int) = ((B * 2 ^ (8 * k) : Nat) : Int) from u64w (by omega) (by omega), orN (by omega) (by omega), Nat.or_comm, ← Nat.shiftLeft_eq, ← Nat.shiftLeft_add_eq_or_of_lt hX, Nat.shiftLeft_eq, u64w (by omega) (by omega)]
  omega
/-- Eight bytes' word. -/
def W (s : ByteArray) (k : Nat) : Int := byteD s k + byteD s (k + 1) * 256 + byteD s (k + 2) * 65536 + byteD s (k + 3) * 16777216 + byteD s (k + 4) * 4294967296 + byteD s (k + 5) * 1099511627776 + byteD s (k + 6) * 281474976710656 + byteD s (k + 7) * 72057594037927936
theorem or0 {b : Int} (b0 : 0 ≤ b) (hb : b < 256) : IntKind.u64.wrap (BitVec.ofInt (IntKind.u64.bits) 0 ||| BitVec.ofInt (IntKind.u64.bits) (IntKind.u64.wrap ((IntKind.u64.wrap b) * 2 ^ (min (0 : Int).toNat IntKind.u64.bits)))).toNat = b := by
  have := orB (x := 0) (b := b) (k := 0) (by omega) (by omega) (by decide) b0 hb
  simp only [Nat.mul_zero, Int.pow_zero, Int.mul_one, Int.zero_add] at this
  exact this
theorem or1 {x b : Int} (h0 : 0 ≤ x) (hx : x < 256) (b0 : 0 ≤ b) (hb : b < 256) : IntKind.u64.wrap (BitVec.ofInt (IntKind.u64.bits) x ||| BitVec.ofInt (IntKind.u64.bits) (IntKind.u64.wrap ((IntKind.u64.wrap b) * 2 ^ (min (8 : Int).toNat IntKind.u64.bits)))).toNat = x + b * 256 := orB (k := 1) (by omega) h0 hx b0 hb
theorem or2 {x b : Int} (h0 : 0 ≤ x) (hx : x < 65536) (b0 : 0 ≤ b) (hb : b < 256) : IntKind.u64.wrap (BitVec.ofInt (IntKind.u64.bits) x ||| BitVec.ofInt (IntKind.u64.bits) (IntKind.u64.wrap ((IntKind.u64.wrap b) * 2 ^ (min (16 : Int).toNat IntKind.u64.bits)))).toNat = x + b * 65536 := orB (k := 2) (by omega) h0 hx b0 hb
theorem or3 {x b : Int} (h0 : 0 ≤ x) (hx : x < 16777216) (b0 : 0 ≤ b) (hb : b < 256) : IntKind.u64.wrap (BitVec.ofInt (IntKind.u64.bits) x ||| BitVec.ofInt (IntKind.u64.bits) (IntKind.u64.wrap ((IntKind.u64.wrap b) * 2 ^ (min (24 : Int).toNat IntKind.u64.bits)))).toNat = x + b * 16777216 := orB (k := 3) (by omega) h0 hx b0 hb
theorem or4 {x b : Int} (h0 : 0 ≤ x) (hx : x < 4294967296) (b0 : 0 ≤ b) (hb : b < 256) : IntKind.u64.wrap (BitVec.ofInt (IntKind.u64.bits) x ||| BitVec.ofInt (IntKind.u64.bits) (IntKind.u64.wrap ((IntKind.u64.wrap b) * 2 ^ (min (32 : Int).toNat IntKind.u64.bits)))).toNat = x + b * 4294967296 := orB (k := 4) (by omega) h0 hx b0 hb
theorem or5 {x b : Int} (h0 : 0 ≤ x) (hx : x < 1099511627776) (b0 : 0 ≤ b) (hb : b < 256) : IntKind.u64.wrap (BitVec.ofInt (IntKind.u64.bits) x ||| BitVec.ofInt (IntKind.u64.bits) (IntKind.u64.wrap ((IntKind.u64.wrap b) * 2 ^ (min (40 : Int).toNat IntKind.u64.bits)))).toNat = x + b * 1099511627776 := orB (k := 5) (by omega) h0 hx b0 hb
theorem or6 {x b : Int} (h0 : 0 ≤ x) (hx : x < 281474976710656) (b0 : 0 ≤ b) (hb : b < 256) : IntKind.u64.wrap (BitVec.ofInt (IntKind.u64.bits) x ||| BitVec.ofInt (IntKind.u64.bits) (IntKind.u64.wrap ((IntKind.u64.wrap b) * 2 ^ (min (48 : Int).toNat IntKind.u64.bits)))).toNat = x + b * 281474976710656 := orB (k := 6) (by omega) h0 hx b0 hb
theorem or7 {x b : Int} (h0 : 0 ≤ x) (hx : x < 72057594037927936) (b0 : 0 ≤ b) (hb : b < 256) : IntKind.u64.wrap (BitVec.ofInt (IntKind.u64.bits) x ||| BitVec.ofInt (IntKind.u64.bits) (IntKind.u64.wrap ((IntKind.u64.wrap b) * 2 ^ (min (56 : Int).toNat IntKind.u64.bits)))).toNat = x + b * 72057594037927936 := orB (k := 7) (by omega) h0 hx b0 hb
end Go.Proofs.YtehihnapbpcfbaaGreat.Fun
