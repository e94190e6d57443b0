/- decode.Of is the document's: plain facts (printed by wip/decp.py). -/
import Derived.Test.YtehihnapbpcfbaaGreatDecO
import Derived.Test.YtehihnapbpcfbaaGreatDecQ
namespace Go.Proofs.YtehihnapbpcfbaaGreat.Fun
open Go
set_option linter.unusedVariables false
set_option linter.unusedSimpArgs false
theorem i64w {x : Int} (h1 : 0 ≤ x) (h2 : x ≤ 9223372036854775807) : IntKind.i64.wrap x = x := by
  unfold IntKind.wrap
  simp only [IntKind.signed, IntKind.bits]
  simp
  omega
theorem W_lt (s : ByteArray) (k : Nat) : 0 ≤ W s k ∧ W s k < 18446744073709551616 := by
  unfold W
  have h0 := byteD_lt s k; have h1 := byteD_lt s (k + 1); have h2 := byteD_lt s (k + 2); have h3 := byteD_lt s (k + 3); have h4 := byteD_lt s (k + 4); have h5 := byteD_lt s (k + 5); have h6 := byteD_lt s (k + 6); have h7 := byteD_lt s (k + 7)
  omega
theorem W_mod (s : ByteArray) (k : Nat) : IntKind.i64.wrap (Int.tmod (W s k) 256) = byteD s k := by
  have hw := W_lt s k
  have : Int.tmod (W s k) 256 = byteD s k := by
    rw [Int.tmod_eq_emod_of_nonneg hw.1]
    unfold W
    have h0 := byteD_lt s k
    omega
  rw [this]
  have h0 := byteD_lt s k
  exact i64w (by omega) (by omega)
theorem lenD1 (s : ByteArray) : lenS (dropS s 1) = lenS s - 1 := by
  show (List.take (lenS s - 1) (List.drop 1 s.data.toList)).length = _
  rw [List.length_take, List.length_drop]; unfold lenS; omega
theorem lenD8 (s : ByteArray) : lenS (dropS s 8) = lenS s - 8 := by
  show (List.take (lenS s - 8) (List.drop 8 s.data.toList)).length = _
  rw [List.length_take, List.length_drop]; unfold lenS; omega
theorem dropSL (s : ByteArray) (k : Nat) : (dropS s (k : Int)).data.toList = s.data.toList.drop k := by
  show List.take (lenS s - k) (List.drop k s.data.toList) = _
  rw [List.take_of_length_le (by rw [List.length_drop]; unfold lenS; omega)]
theorem byteN (s : ByteArray) (k i : Nat) : byteD (dropS s (k : Int)) i = byteD s (k + i) := by
  unfold byteD
  rw [dropSL, List.getElem?_drop]
theorem byte1 (s : ByteArray) (i : Nat) : byteD (dropS s 1) i = byteD s (1 + i) := byteN s 1 i
theorem byte8 (s : ByteArray) (i : Nat) : byteD (dropS s 8) i = byteD s (8 + i) := byteN s 8 i
theorem W1 (s : ByteArray) (i : Nat) : W (dropS s 1) i = W s (1 + i) := by simp only [W, byte1, Nat.add_assoc]
theorem W8 (s : ByteArray) (i : Nat) : W (dropS s 8) i = W s (8 + i) := by simp only [W, byte8, Nat.add_assoc]
theorem strE (s : ByteArray) : strEq s ⟨#[]⟩ = decide (lenS s = 0) := by
  unfold strEq lenS
  cases h : s.data.toList with
  | nil => rfl
  | cons x l => rfl
theorem take8_W (s : ByteArray) : take8 s = W s 0 := by
  unfold take8 W
  have h0 := byteD_lt s 0; have h1 := byteD_lt s 1; have h2 := byteD_lt s 2; have h3 := byteD_lt s 3; have h4 := byteD_lt s 4; have h5 := byteD_lt s 5; have h6 := byteD_lt s 6; have h7 := byteD_lt s 7
  have e : ∀ k : Nat, ((k : Int)).toNat = k := fun k => Int.toNat_natCast k
  rw [show (0 : Int).toNat = 0 from rfl, show (1 : Int).toNat = 1 from rfl, show (2 : Int).toNat = 2 from rfl, show (3 : Int).toNat = 3 from rfl, show (4 : Int).toNat = 4 from rfl, show (5 : Int).toNat = 5 from rfl, show (6 : Int).toNat = 6 from rfl, show (7 : Int).toNat = 7 from rfl]
  have q0 := or0 h0.1 h0.2
  rw [show (0 : Int).toNat = 0 from rfl] at q0
  rw [q0, or1 (by omega) (by omega) h1.1 h1.2, or2 (by omega) (by omega) h2.1 h2.2, or3 (by omega) (by omega) h3.1 h3.2, or4 (by omega) (by omega) h4.1 h4.2, or5 (by omega) (by omega) h5.1 h5.2, or6 (by omega) (by omega) h6.1 h6.2, or7 (by omega) (by omega) h7.1 h7.2]
theorem take1_b (s : ByteArray) : take1 s = byteD s 0 := by
  unfold take1
  have h0 := byteD_lt s 0
  rw [show byteD s (0 : Int).toNat = byteD s 0 from rfl]
  exact or0 h0.1 h0.2
theorem take1_i (s : ByteArray) : IntKind.i64.wrap (take1 s) = byteD s 0 := by
  rw [take1_b]
  have h0 := byteD_lt s 0
  exact i64w (by omega) (by omega)
/-- The bytes, and none behind the end. -/
def byteG (s : ByteArray) (k : Nat) : UInt8 := s.data.toList[k]?.getD 0
theorem byteD_G (s : ByteArray) (k : Nat) : byteD s k = ((byteG s k).toNat : Int) := rfl
theorem listG : ∀ (l : List UInt8), l = (List.range l.length).map fun i => l[i]?.getD 0 := fun l => by
  apply List.ext_getElem?
  intro i
  rw [List.getElem?_map]
  by_cases h : i < l.length
  · rw [List.getElem?_range h, List.getElem?_eq_getElem h]; simp [h]
  · rw [List.getElem?_eq_none (by omega), List.getElem?_eq_none (by simp; omega)]; rfl
theorem ofByte (y : UInt8) (x : Int) (h : x % 256 = (y.toNat : Int)) : UInt8.ofNat (IntKind.u8.wrap x).toNat = y := by
  have e : IntKind.u8.wrap x = x % 256 := by unfold IntKind.wrap; simp only [IntKind.signed, IntKind.bits]; simp
  rw [e, h]
  simp
theorem e8 (s : ByteArray) (k : Nat) : (eightG (W s k)).data.toList = [byteG s k, byteG s (k + 1), byteG s (k + 2), byteG s (k + 3), byteG s (k + 4), byteG s (k + 5), byteG s (k + 6), byteG s (k + 7)] := by
  have h0 := byteD_lt s k; have h1 := byteD_lt s (k + 1); have h2 := byteD_lt s (k + 2); have h3 := byteD_lt s (k + 3); have h4 := byteD_lt s (k + 4); have h5 := byteD_lt s (k + 5); have h6 := byteD_lt s (k + 6); have h7 := byteD_lt s (k + 7)
  show [UInt8.ofNat (IntKind.u8.wrap _).toNat, UInt8.ofNat (IntKind.u8.wrap _).toNat, UInt8.ofNat (IntKind.u8.wrap _).toNat, UInt8.ofNat (IntKind.u8.wrap _).toNat, UInt8.ofNat (IntKind.u8.wrap _).toNat, UInt8.ofNat (IntKind.u8.wrap _).toNat, UInt8.ofNat (IntKind.u8.wrap _).toNat, UInt8.ofNat (IntKind.u8.wrap _).toNat] = _
  have p : ∀ (x : Int) (n : Nat), Int.fdiv x (2 ^ n) = x / (2 ^ n) := fun x n => Int.fdiv_eq_ediv_of_nonneg _ (by have : (0 : Int) < 2 ^ n := Int.pow_pos (by omega); omega)
  rw [p, p, p, p, p, p, p, p]
  rw [show min (0 : Int).toNat IntKind.u64.bits = 0 from rfl, show min (8 : Int).toNat IntKind.u64.bits = 8 from rfl, show min (16 : Int).toNat IntKind.u64.bits = 16 from rfl, show min (24 : Int).toNat IntKind.u64.bits = 24 from rfl, show min (32 : Int).toNat IntKind.u64.bits = 32 from rfl, show min (40 : Int).toNat IntKind.u64.bits = 40 from rfl, show min (48 : Int).toNat IntKind.u64.bits = 48 from rfl, show min (56 : Int).toNat IntKind.u64.bits = 56 from rfl]
  unfold W
  rw [ofByte (byteG s k) _ (by rw [← byteD_G]; omega), ofByte (byteG s (k + 1)) _ (by rw [← byteD_G]; omega), ofByte (byteG s (k + 2)) _ (by rw [← byteD_G]; omega), ofByte (byteG s (k + 3)) _ (by rw [← byteD_G]; omega), ofByte (byteG s (k + 4)) _ (by rw [← byteD_G]; omega), ofByte (byteG s (k + 5)) _ (by rw [← byteD_G]; omega), ofByte (byteG s (k + 6)) _ (by rw [← byteD_G]; omega), ofByte (byteG s (k + 7)) _ (by rw [← byteD_G]; omega)]
theorem e1 (s : ByteArray) (k : Nat) : (strOf [IntKind.u8.wrap (byteD s k)]).data.toList = [byteG s k] := by
  have h0 := byteD_lt s k
  show [UInt8.ofNat (IntKind.u8.wrap _).toNat] = _
  rw [ofByte (byteG s k) _ (by rw [← byteD_G]; omega)]
theorem joinL (a b : ByteArray) : (joinS a b).data.toList = a.data.toList ++ b.data.toList := rfl
end Go.Proofs.YtehihnapbpcfbaaGreat.Fun
