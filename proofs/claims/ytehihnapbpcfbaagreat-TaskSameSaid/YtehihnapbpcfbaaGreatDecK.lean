/- A formed operation comes again from its bytes (printed by wip/deck.py). -/
import Derived.Test.YtehihnapbpcfbaaGreatDecJ
namespace Go.Proofs.YtehihnapbpcfbaaGreat.Fun
open Go
set_option linter.unusedVariables false
set_option linter.unusedSimpArgs false
def b8 (w : Int) (i : Nat) : UInt8 := UInt8.ofNat (IntKind.u8.wrap (Int.fdiv w (2 ^ i))).toNat
def c1 (w : Int) : UInt8 := UInt8.ofNat (IntKind.u8.wrap w).toNat
theorem u8num (x : Int) : ((UInt8.ofNat (IntKind.u8.wrap x).toNat).toNat : Int) = x % 256 := by
  have e : IntKind.u8.wrap x = x % 256 := by unfold IntKind.wrap; simp only [IntKind.signed, IntKind.bits]; simp
  rw [e, UInt8.toNat_ofNat']
  omega
theorem b8_num (w : Int) (i : Nat) : ((b8 w i).toNat : Int) = w / 2 ^ i % 256 := by
  unfold b8
  rw [u8num, Int.fdiv_eq_ediv_of_nonneg _ (by have : (0 : Int) < 2 ^ i := Int.pow_pos (by omega); omega)]
theorem c1_num {w : Int} (h0 : 0 ≤ w) (h1 : w ≤ 255) : ((c1 w).toNat : Int) = w := by
  unfold c1
  rw [u8num]; omega
theorem eightL (w : Int) : (eightG w).data.toList = [b8 w 0, b8 w 8, b8 w 16, b8 w 24, b8 w 32, b8 w 40, b8 w 48, b8 w 56] := rfl
theorem oneL (w : Int) : (strOf [IntKind.u8.wrap w]).data.toList = [c1 w] := rfl
theorem W_of {s : ByteArray} {p : Nat} {w : Int} (h0 : 0 ≤ w) (h1 : w < 18446744073709551616) (e0 : byteD s p = ((b8 w 0).toNat : Int)) (e1 : byteD s (p + 1) = ((b8 w 8).toNat : Int)) (e2 : byteD s (p + 2) = ((b8 w 16).toNat : Int)) (e3 : byteD s (p + 3) = ((b8 w 24).toNat : Int))
    (e4 : byteD s (p + 4) = ((b8 w 32).toNat : Int)) (e5 : byteD s (p + 5) = ((b8 w 40).toNat : Int)) (e6 : byteD s (p + 6) = ((b8 w 48).toNat : Int)) (e7 : byteD s (p + 7) = ((b8 w 56).toNat : Int)) : W s p = w := by
  unfold W
  rw [e0, e1, e2, e3, e4, e5, e6, e7]
  simp only [b8_num]
  omega
theorem back1 (qd qf qh qa qb : Int) (hr : opR (⟨1, qd, qf, qh, qa, qb⟩ : Ope) = true) (hh : 0 ≤ qh ∧ qh < 18446744073709551616) (ha : 0 ≤ qa ∧ qa < 18446744073709551616) (hb : 0 ≤ qb ∧ qb < 18446744073709551616) : ofB (bytesR (⟨1, qd, qf, qh, qa, qb⟩ : Ope)) = ((⟨1, qd, qf, qh, qa, qb⟩ : Ope), 0) := by
  have hf : opR1 (⟨1, qd, qf, qh, qa, qb⟩ : Ope) = true := hr
  unfold opR1 at hf
  simp at hf
  have fd : 0 ≤ qd ∧ qd ≤ 255 := by omega
  have ff : 0 ≤ qf ∧ qf ≤ 2 := by omega
  have zd : qd = 0 := by omega
  have zf : qf = 0 := by omega
  have zh : qh = 0 := by omega
  have za : qa = 0 := by omega
  have zb : qb = 0 := by omega
  have hl : (bytesR (⟨1, qd, qf, qh, qa, qb⟩ : Ope)).data.toList = 1 :: [] := by
    show (bytesR1 (⟨1, qd, qf, qh, qa, qb⟩ : Ope)).data.toList = _
    unfold bytesR1
    rw [show opR _ = true from hr]
    first | rfl | (simp only [Bool.not_true, cond_false, joinL, eightL, oneL]; rfl)
  show ofL (bytesR (⟨1, qd, qf, qh, qa, qb⟩ : Ope)).data.toList = _
  rw [hl]
  show ofG1 [] = _
  have eo : o1 ⟨⟨1 :: []⟩⟩ = (⟨1, qd, qf, qh, qa, qb⟩ : Ope) := by
    unfold o1
    rw [zd, zf, zh, za, zb]
  rw [ofG1_eq, show lenS (⟨⟨1 :: []⟩⟩ : ByteArray) = 1 from rfl, if_pos rfl, eo, opGR, hr]; rfl
theorem back2 (qd qf qh qa qb : Int) (hr : opR (⟨2, qd, qf, qh, qa, qb⟩ : Ope) = true) (hh : 0 ≤ qh ∧ qh < 18446744073709551616) (ha : 0 ≤ qa ∧ qa < 18446744073709551616) (hb : 0 ≤ qb ∧ qb < 18446744073709551616) : ofB (bytesR (⟨2, qd, qf, qh, qa, qb⟩ : Ope)) = ((⟨2, qd, qf, qh, qa, qb⟩ : Ope), 0) := by
  have hf : opR2 (⟨2, qd, qf, qh, qa, qb⟩ : Ope) = true := hr
  unfold opR2 at hf
  simp at hf
  have fd : 0 ≤ qd ∧ qd ≤ 255 := by omega
  have ff : 0 ≤ qf ∧ qf ≤ 2 := by omega
  have zd : qd = 0 := by omega
  have zf : qf = 0 := by omega
  have za : qa = 0 := by omega
  have zb : qb = 0 := by omega
  have hl : (bytesR (⟨2, qd, qf, qh, qa, qb⟩ : Ope)).data.toList = 2 :: [b8 qh 0, b8 qh 8, b8 qh 16, b8 qh 24, b8 qh 32, b8 qh 40, b8 qh 48, b8 qh 56] := by
    show (bytesR2 (⟨2, qd, qf, qh, qa, qb⟩ : Ope)).data.toList = _
    unfold bytesR2
    rw [show opR _ = true from hr]
    first | rfl | (simp only [Bool.not_true, cond_false, joinL, eightL, oneL]; rfl)
  show ofL (bytesR (⟨2, qd, qf, qh, qa, qb⟩ : Ope)).data.toList = _
  rw [hl]
  show ofG2 [b8 qh 0, b8 qh 8, b8 qh 16, b8 qh 24, b8 qh 32, b8 qh 40, b8 qh 48, b8 qh 56] = _
  have eo : o2 ⟨⟨2 :: [b8 qh 0, b8 qh 8, b8 qh 16, b8 qh 24, b8 qh 32, b8 qh 40, b8 qh 48, b8 qh 56]⟩⟩ = (⟨2, qd, qf, qh, qa, qb⟩ : Ope) := by
    unfold o2
    have eh : W ⟨⟨2 :: [b8 qh 0, b8 qh 8, b8 qh 16, b8 qh 24, b8 qh 32, b8 qh 40, b8 qh 48, b8 qh 56]⟩⟩ 1 = qh := W_of hh.1 hh.2 rfl rfl rfl rfl rfl rfl rfl rfl
    rw [eh, zd, zf, za, zb]
  rw [ofG2_eq, show lenS (⟨⟨2 :: [b8 qh 0, b8 qh 8, b8 qh 16, b8 qh 24, b8 qh 32, b8 qh 40, b8 qh 48, b8 qh 56]⟩⟩ : ByteArray) = 9 from rfl, if_pos rfl, eo, opGR, hr]; rfl
theorem back3 (qd qf qh qa qb : Int) (hr : opR (⟨3, qd, qf, qh, qa, qb⟩ : Ope) = true) (hh : 0 ≤ qh ∧ qh < 18446744073709551616) (ha : 0 ≤ qa ∧ qa < 18446744073709551616) (hb : 0 ≤ qb ∧ qb < 18446744073709551616) : ofB (bytesR (⟨3, qd, qf, qh, qa, qb⟩ : Ope)) = ((⟨3, qd, qf, qh, qa, qb⟩ : Ope), 0) := by
  have hf : opR3 (⟨3, qd, qf, qh, qa, qb⟩ : Ope) = true := hr
  unfold opR3 at hf
  simp at hf
  have fd : 0 ≤ qd ∧ qd ≤ 255 := by omega
  have ff : 0 ≤ qf ∧ qf ≤ 2 := by omega
  have zd : qd = 0 := by omega
  have za : qa = 0 := by omega
  have zb : qb = 0 := by omega
  have hl : (bytesR (⟨3, qd, qf, qh, qa, qb⟩ : Ope)).data.toList = 3 :: [b8 qh 0, b8 qh 8, b8 qh 16, b8 qh 24, b8 qh 32, b8 qh 40, b8 qh 48, b8 qh 56, c1 qf] := by
    show (bytesR3 (⟨3, qd, qf, qh, qa, qb⟩ : Ope)).data.toList = _
    unfold bytesR3
    rw [show opR _ = true from hr]
    first | rfl | (simp only [Bool.not_true, cond_false, joinL, eightL, oneL]; rfl)
  show ofL (bytesR (⟨3, qd, qf, qh, qa, qb⟩ : Ope)).data.toList = _
  rw [hl]
  show ofG3 [b8 qh 0, b8 qh 8, b8 qh 16, b8 qh 24, b8 qh 32, b8 qh 40, b8 qh 48, b8 qh 56, c1 qf] = _
  have eo : o3 ⟨⟨3 :: [b8 qh 0, b8 qh 8, b8 qh 16, b8 qh 24, b8 qh 32, b8 qh 40, b8 qh 48, b8 qh 56, c1 qf]⟩⟩ = (⟨3, qd, qf, qh, qa, qb⟩ : Ope) := by
    unfold o3
    have eh : W ⟨⟨3 :: [b8 qh 0, b8 qh 8, b8 qh 16, b8 qh 24, b8 qh 32, b8 qh 40, b8 qh 48, b8 qh 56, c1 qf]⟩⟩ 1 = qh := W_of hh.1 hh.2 rfl rfl rfl rfl rfl rfl rfl rfl
    have ef : byteD ⟨⟨3 :: [b8 qh 0, b8 qh 8, b8 qh 16, b8 qh 24, b8 qh 32, b8 qh 40, b8 qh 48, b8 qh 56, c1 qf]⟩⟩ 9 = qf := (show _ = ((c1 qf).toNat : Int) from rfl).trans (c1_num (by omega) (by omega))
    rw [eh, ef, zd, za, zb]
  rw [ofG3_eq, show lenS (⟨⟨3 :: [b8 qh 0, b8 qh 8, b8 qh 16, b8 qh 24, b8 qh 32, b8 qh 40, b8 qh 48, b8 qh 56, c1 qf]⟩⟩ : ByteArray) = 10 from rfl, if_pos rfl, eo, opGR, hr]; rfl
theorem back4 (qd qf qh qa qb : Int) (hr : opR (⟨4, qd, qf, qh, qa, qb⟩ : Ope) = true) (hh : 0 ≤ qh ∧ qh < 18446744073709551616) (ha : 0 ≤ qa ∧ qa < 18446744073709551616) (hb : 0 ≤ qb ∧ qb < 18446744073709551616) : ofB (bytesR (⟨4, qd, qf, qh, qa, qb⟩ : Ope)) = ((⟨4, qd, qf, qh, qa, qb⟩ : Ope), 0) := by
  have hf : opR4 (⟨4, qd, qf, qh, qa, qb⟩ : Ope) = true := hr
  unfold opR4 at hf
  simp at hf
  have fd : 0 ≤ qd ∧ qd ≤ 255 := by omega
  have ff : 0 ≤ qf ∧ qf ≤ 2 := by omega
  have zd : qd = 0 := by omega
  have zb : qb = 0 := by omega
  have hl : (bytesR (⟨4, qd, qf, qh, qa, qb⟩ : Ope)).data.toList = 4 :: [b8 qh 0, b8 qh 8, b8 qh 16, b8 qh 24, b8 qh 32, b8 qh 40, b8 qh 48, b8 qh 56, c1 qf, b8 qa 0, b8 qa 8, b8 qa 16, b8 qa 24, b8 qa 32, b8 qa 40, b8 qa 48, b8 qa 56] := by
    show (bytesR4 (⟨4, qd, qf, qh, qa, qb⟩ : Ope)).data.toList = _
    unfold bytesR4
    rw [show opR _ = true from hr]
    first | rfl | (simp only [Bool.not_true, cond_false, joinL, eightL, oneL]; rfl)
  show ofL (bytesR (⟨4, qd, qf, qh, qa, qb⟩ : Ope)).data.toList = _
  rw [hl]
  show ofG4 [b8 qh 0, b8 qh 8, b8 qh 16, b8 qh 24, b8 qh 32, b8 qh 40, b8 qh 48, b8 qh 56, c1 qf, b8 qa 0, b8 qa 8, b8 qa 16, b8 qa 24, b8 qa 32, b8 qa 40, b8 qa 48, b8 qa 56] = _
  have eo : o4 ⟨⟨4 :: [b8 qh 0, b8 qh 8, b8 qh 16, b8 qh 24, b8 qh 32, b8 qh 40, b8 qh 48, b8 qh 56, c1 qf, b8 qa 0, b8 qa 8, b8 qa 16, b8 qa 24, b8 qa 32, b8 qa 40, b8 qa 48, b8 qa 56]⟩⟩ = (⟨4, qd, qf, qh, qa, qb⟩ : Ope) := by
    unfold o4
    have eh : W ⟨⟨4 :: [b8 qh 0, b8 qh 8, b8 qh 16, b8 qh 24, b8 qh 32, b8 qh 40, b8 qh 48, b8 qh 56, c1 qf, b8 qa 0, b8 qa 8, b8 qa 16, b8 qa 24, b8 qa 32, b8 qa 40, b8 qa 48, b8 qa 56]⟩⟩ 1 = qh := W_of hh.1 hh.2 rfl rfl rfl rfl rfl rfl rfl rfl
    have ef : byteD ⟨⟨4 :: [b8 qh 0, b8 qh 8, b8 qh 16, b8 qh 24, b8 qh 32, b8 qh 40, b8 qh 48, b8 qh 56, c1 qf, b8 qa 0, b8 qa 8, b8 qa 16, b8 qa 24, b8 qa 32, b8 qa 40, b8 qa 48, b8 qa 56]⟩⟩ 9 = qf := (show _ = ((c1 qf).toNat : Int) from rfl).trans (c1_num (by omega) (by omega))
    have ea : W ⟨⟨4 :: [b8 qh 0, b8 qh 8, b8 qh 16, b8 qh 24, b8 qh 32, b8 qh 40, b8 qh 48, b8 qh 56, c1 qf, b8 qa 0, b8 qa 8, b8 qa 16, b8 qa 24, b8 qa 32, b8 qa 40, b8 qa 48, b8 qa 56]⟩⟩ 10 = qa := W_of ha.1 ha.2 rfl rfl rfl rfl rfl rfl rfl rfl
    rw [eh, ef, ea, zd, zb]
  rw [ofG4_eq, show lenS (⟨⟨4 :: [b8 qh 0, b8 qh 8, b8 qh 16, b8 qh 24, b8 qh 32, b8 qh 40, b8 qh 48, b8 qh 56, c1 qf, b8 qa 0, b8 qa 8, b8 qa 16, b8 qa 24, b8 qa 32, b8 qa 40, b8 qa 48, b8 qa 56]⟩⟩ : ByteArray) = 18 from rfl, if_pos rfl, eo, opGR, hr]; rfl
theorem back5 (qd qf qh qa qb : Int) (hr : opR (⟨5, qd, qf, qh, qa, qb⟩ : Ope) = true) (hh : 0 ≤ qh ∧ qh < 18446744073709551616) (ha : 0 ≤ qa ∧ qa < 18446744073709551616) (hb : 0 ≤ qb ∧ qb < 18446744073709551616) : ofB (bytesR (⟨5, qd, qf, qh, qa, qb⟩ : Ope)) = ((⟨5, qd, qf, qh, qa, qb⟩ : Ope), 0) := by
  have hf : opR5 (⟨5, qd, qf, qh, qa, qb⟩ : Ope) = true := hr
  unfold opR5 at hf
  simp at hf
  have fd : 0 ≤ qd ∧ qd ≤ 255 := by omega
  have ff : 0 ≤ qf ∧ qf ≤ 2 := by omega
  have zd : qd = 0 := by omega
  have hl : (bytesR (⟨5, qd, qf, qh, qa, qb⟩ : Ope)).data.toList = 5 :: [b8 qh 0, b8 qh 8, b8 qh 16, b8 qh 24, b8 qh 32, b8 qh 40, b8 qh 48, b8 qh 56, c1 qf, b8 qa 0, b8 qa 8, b8 qa 16, b8 qa 24, b8 qa 32, b8 qa 40, b8 qa 48, b8 qa 56, b8 qb 0, b8 qb 8, b8 qb 16, b8 qb 24, b8 qb 32, b8 qb 40, b8 qb 48, b8 qb 56] := by
    show (bytesR5 (⟨5, qd, qf, qh, qa, qb⟩ : Ope)).data.toList = _
    unfold bytesR5
    rw [show opR _ = true from hr]
    first | rfl | (simp only [Bool.not_true, cond_false, joinL, eightL, oneL]; rfl)
  show ofL (bytesR (⟨5, qd, qf, qh, qa, qb⟩ : Ope)).data.toList = _
  rw [hl]
  show ofG5 [b8 qh 0, b8 qh 8, b8 qh 16, b8 qh 24, b8 qh 32, b8 qh 40, b8 qh 48, b8 qh 56, c1 qf, b8 qa 0, b8 qa 8, b8 qa 16, b8 qa 24, b8 qa 32, b8 qa 40, b8 qa 48, b8 qa 56, b8 qb 0, b8 qb 8, b8 qb 16, b8 qb 24, b8 qb 32, b8 qb 40, b8 qb 48, b8 qb 56] = _
  have eo : o5 ⟨⟨5 :: [b8 qh 0, b8 qh 8, b8 qh 16, b8 qh 24, b8 qh 32, b8 qh 40, b8 qh 48, b8 qh 56, c1 qf, b8 qa 0, b8 qa 8, b8 qa 16, b8 qa 24, b8 qa 32, b8 qa 40, b8 qa 48, b8 qa 56, b8 qb 0, b8 qb 8, b8 qb 16, b8 qb 24, b8 qb 32, b8 qb 40, b8 qb 48, b8 qb 56]⟩⟩ = (⟨5, qd, qf, qh, qa, qb⟩ : Ope) := by
    unfold o5
    have eh : W ⟨⟨5 :: [b8 qh 0, b8 qh 8, b8 qh 16, b8 qh 24, b8 qh 32, b8 qh 40, b8 qh 48, b8 qh 56, c1 qf, b8 qa 0, b8 qa 8, b8 qa 16, b8 qa 24, b8 qa 32, b8 qa 40, b8 qa 48, b8 qa 56, b8 qb 0, b8 qb 8, b8 qb 16, b8 qb 24, b8 qb 32, b8 qb 40, b8 qb 48, b8 qb 56]⟩⟩ 1 = qh := W_of hh.1 hh.2 rfl rfl rfl rfl rfl rfl rfl rfl
    have ef : byteD ⟨⟨5 :: [b8 qh 0, b8 qh 8, b8 qh 16, b8 qh 24, b8 qh 32, b8 qh 40, b8 qh 48, b8 qh 56, c1 qf, b8 qa 0, b8 qa 8, b8 qa 16, b8 qa 24, b8 qa 32, b8 qa 40, b8 qa 48, b8 qa 56, b8 qb 0, b8 qb 8, b8 qb 16, b8 qb 24, b8 qb 32, b8 qb 40, b8 qb 48, b8 qb 56]⟩⟩ 9 = qf := (show _ = ((c1 qf).toNat : Int) from rfl).trans (c1_num (by omega) (by omega))
    have ea : W ⟨⟨5 :: [b8 qh 0, b8 qh 8, b8 qh 16, b8 qh 24, b8 qh 32, b8 qh 40, b8 qh 48, b8 qh 56, c1 qf, b8 qa 0, b8 qa 8, b8 qa 16, b8 qa 24, b8 qa 32, b8 qa 40, b8 qa 48, b8 qa 56, b8 qb 0, b8 qb 8, b8 qb 16, b8 qb 24, b8 qb 32, b8 qb 40, b8 qb 48, b8 qb 56]⟩⟩ 10 = qa := W_of ha.1 ha.2 rfl rfl rfl rfl rfl rfl rfl rfl
    have eb : W ⟨⟨5 :: [b8 qh 0, b8 qh 8, b8 qh 16, b8 qh 24, b8 qh 32, b8 qh 40, b8 qh 48, b8 qh 56, c1 qf, b8 qa 0, b8 qa 8, b8 qa 16, b8 qa 24, b8 qa 32, b8 qa 40, b8 qa 48, b8 qa 56, b8 qb 0, b8 qb 8, b8 qb 16, b8 qb 24, b8 qb 32, b8 qb 40, b8 qb 48, b8 qb 56]⟩⟩ 18 = qb := W_of hb.1 hb.2 rfl rfl rfl rfl rfl rfl rfl rfl
    rw [eh, ef, ea, eb, zd]
  rw [ofG5_eq, show lenS (⟨⟨5 :: [b8 qh 0, b8 qh 8, b8 qh 16, b8 qh 24, b8 qh 32, b8 qh 40, b8 qh 48, b8 qh 56, c1 qf, b8 qa 0, b8 qa 8, b8 qa 16, b8 qa 24, b8 qa 32, b8 qa 40, b8 qa 48, b8 qa 56, b8 qb 0, b8 qb 8, b8 qb 16, b8 qb 24, b8 qb 32, b8 qb 40, b8 qb 48, b8 qb 56]⟩⟩ : ByteArray) = 26 from rfl, if_pos rfl, eo, opGR, hr]; rfl
theorem back6 (qd qf qh qa qb : Int) (hr : opR (⟨6, qd, qf, qh, qa, qb⟩ : Ope) = true) (hh : 0 ≤ qh ∧ qh < 18446744073709551616) (ha : 0 ≤ qa ∧ qa < 18446744073709551616) (hb : 0 ≤ qb ∧ qb < 18446744073709551616) : ofB (bytesR (⟨6, qd, qf, qh, qa, qb⟩ : Ope)) = ((⟨6, qd, qf, qh, qa, qb⟩ : Ope), 0) := by
  have hf : opR6 (⟨6, qd, qf, qh, qa, qb⟩ : Ope) = true := hr
  unfold opR6 at hf
  simp at hf
  have fd : 0 ≤ qd ∧ qd ≤ 255 := by omega
  have ff : 0 ≤ qf ∧ qf ≤ 2 := by omega
  have zd : qd = 0 := by omega
  have zf : qf = 0 := by omega
  have zh : qh = 0 := by omega
  have za : qa = 0 := by omega
  have zb : qb = 0 := by omega
  have hl : (bytesR (⟨6, qd, qf, qh, qa, qb⟩ : Ope)).data.toList = 6 :: [] := by
    show (bytesR6 (⟨6, qd, qf, qh, qa, qb⟩ : Ope)).data.toList = _
    unfold bytesR6
    rw [show opR _ = true from hr]
    first | rfl | (simp only [Bool.not_true, cond_false, joinL, eightL, oneL]; rfl)
  show ofL (bytesR (⟨6, qd, qf, qh, qa, qb⟩ : Ope)).data.toList = _
  rw [hl]
  show ofG6 [] = _
  have eo : o6 ⟨⟨6 :: []⟩⟩ = (⟨6, qd, qf, qh, qa, qb⟩ : Ope) := by
    unfold o6
    rw [zd, zf, zh, za, zb]
  rw [ofG6_eq, show lenS (⟨⟨6 :: []⟩⟩ : ByteArray) = 1 from rfl, if_pos rfl, eo, opGR, hr]; rfl
theorem back7 (qd qf qh qa qb : Int) (hr : opR (⟨7, qd, qf, qh, qa, qb⟩ : Ope) = true) (hh : 0 ≤ qh ∧ qh < 18446744073709551616) (ha : 0 ≤ qa ∧ qa < 18446744073709551616) (hb : 0 ≤ qb ∧ qb < 18446744073709551616) : ofB (bytesR (⟨7, qd, qf, qh, qa, qb⟩ : Ope)) = ((⟨7, qd, qf, qh, qa, qb⟩ : Ope), 0) := by
  have hf : opR7 (⟨7, qd, qf, qh, qa, qb⟩ : Ope) = true := hr
  unfold opR7 at hf
  simp at hf
  have fd : 0 ≤ qd ∧ qd ≤ 255 := by omega
  have ff : 0 ≤ qf ∧ qf ≤ 2 := by omega
  have zf : qf = 0 := by omega
  have zh : qh = 0 := by omega
  have zb : qb = 0 := by omega
  have hl : (bytesR (⟨7, qd, qf, qh, qa, qb⟩ : Ope)).data.toList = 7 :: [c1 qd, b8 qa 0, b8 qa 8, b8 qa 16, b8 qa 24, b8 qa 32, b8 qa 40, b8 qa 48, b8 qa 56] := by
    show (bytesR7 (⟨7, qd, qf, qh, qa, qb⟩ : Ope)).data.toList = _
    unfold bytesR7
    rw [show opR _ = true from hr]
    first | rfl | (simp only [Bool.not_true, cond_false, joinL, eightL, oneL]; rfl)
  show ofL (bytesR (⟨7, qd, qf, qh, qa, qb⟩ : Ope)).data.toList = _
  rw [hl]
  show ofG7 [c1 qd, b8 qa 0, b8 qa 8, b8 qa 16, b8 qa 24, b8 qa 32, b8 qa 40, b8 qa 48, b8 qa 56] = _
  have eo : o7 ⟨⟨7 :: [c1 qd, b8 qa 0, b8 qa 8, b8 qa 16, b8 qa 24, b8 qa 32, b8 qa 40, b8 qa 48, b8 qa 56]⟩⟩ = (⟨7, qd, qf, qh, qa, qb⟩ : Ope) := by
    unfold o7
    have ed : byteD ⟨⟨7 :: [c1 qd, b8 qa 0, b8 qa 8, b8 qa 16, b8 qa 24, b8 qa 32, b8 qa 40, b8 qa 48, b8 qa 56]⟩⟩ 1 = qd := (show _ = ((c1 qd).toNat : Int) from rfl).trans (c1_num (by omega) (by omega))
    have ea : W ⟨⟨7 :: [c1 qd, b8 qa 0, b8 qa 8, b8 qa 16, b8 qa 24, b8 qa 32, b8 qa 40, b8 qa 48, b8 qa 56]⟩⟩ 2 = qa := W_of ha.1 ha.2 rfl rfl rfl rfl rfl rfl rfl rfl
    rw [ed, ea, zf, zh, zb]
  rw [ofG7_eq, show lenS (⟨⟨7 :: [c1 qd, b8 qa 0, b8 qa 8, b8 qa 16, b8 qa 24, b8 qa 32, b8 qa 40, b8 qa 48, b8 qa 56]⟩⟩ : ByteArray) = 10 from rfl, if_pos rfl, eo, opGR, hr]; rfl
theorem back8 (qd qf qh qa qb : Int) (hr : opR (⟨8, qd, qf, qh, qa, qb⟩ : Ope) = true) (hh : 0 ≤ qh ∧ qh < 18446744073709551616) (ha : 0 ≤ qa ∧ qa < 18446744073709551616) (hb : 0 ≤ qb ∧ qb < 18446744073709551616) : ofB (bytesR (⟨8, qd, qf, qh, qa, qb⟩ : Ope)) = ((⟨8, qd, qf, qh, qa, qb⟩ : Ope), 0) := by
  have hf : opR8 (⟨8, qd, qf, qh, qa, qb⟩ : Ope) = true := hr
  unfold opR8 at hf
  simp at hf
  have fd : 0 ≤ qd ∧ qd ≤ 255 := by omega
  have ff : 0 ≤ qf ∧ qf ≤ 2 := by omega
  have zf : qf = 0 := by omega
  have zh : qh = 0 := by omega
  have za : qa = 0 := by omega
  have zb : qb = 0 := by omega
  have hl : (bytesR (⟨8, qd, qf, qh, qa, qb⟩ : Ope)).data.toList = 8 :: [c1 qd] := by
    show (bytesR8 (⟨8, qd, qf, qh, qa, qb⟩ : Ope)).data.toList = _
    unfold bytesR8
    rw [show opR _ = true from hr]
    first | rfl | (simp only [Bool.not_true, cond_false, joinL, eightL, oneL]; rfl)
  show ofL (bytesR (⟨8, qd, qf, qh, qa, qb⟩ : Ope)).data.toList = _
  rw [hl]
  show ofG8 [c1 qd] = _
  have eo : o8 ⟨⟨8 :: [c1 qd]⟩⟩ = (⟨8, qd, qf, qh, qa, qb⟩ : Ope) := by
    unfold o8
    have ed : byteD ⟨⟨8 :: [c1 qd]⟩⟩ 1 = qd := (show _ = ((c1 qd).toNat : Int) from rfl).trans (c1_num (by omega) (by omega))
    rw [ed, zf, zh, za, zb]
  rw [ofG8_eq, show lenS (⟨⟨8 :: [c1 qd]⟩⟩ : ByteArray) = 2 from rfl, if_pos rfl, eo, opGR, hr]; rfl
theorem back9 (qd qf qh qa qb : Int) (hr : opR (⟨9, qd, qf, qh, qa, qb⟩ : Ope) = true) (hh : 0 ≤ qh ∧ qh < 18446744073709551616) (ha : 0 ≤ qa ∧ qa < 18446744073709551616) (hb : 0 ≤ qb ∧ qb < 18446744073709551616) : ofB (bytesR (⟨9, qd, qf, qh, qa, qb⟩ : Ope)) = ((⟨9, qd, qf, qh, qa, qb⟩ : Ope), 0) := by
  have hf : opR9 (⟨9, qd, qf, qh, qa, qb⟩ : Ope) = true := hr
  unfold opR9 at hf
  simp at hf
  have fd : 0 ≤ qd ∧ qd ≤ 255 := by omega
  have ff : 0 ≤ qf ∧ qf ≤ 2 := by omega
  have zd : qd = 0 := by omega
  have zf : qf = 0 := by omega
  have zh : qh = 0 := by omega
  have za : qa = 0 := by omega
  have zb : qb = 0 := by omega
  have hl : (bytesR (⟨9, qd, qf, qh, qa, qb⟩ : Ope)).data.toList = 9 :: [] := by
    show (bytesR9 (⟨9, qd, qf, qh, qa, qb⟩ : Ope)).data.toList = _
    unfold bytesR9
    rw [show opR _ = true from hr]
    first | rfl | (simp only [Bool.not_true, cond_false, joinL, eightL, oneL]; rfl)
  show ofL (bytesR (⟨9, qd, qf, qh, qa, qb⟩ : Ope)).data.toList = _
  rw [hl]
  show ofG9 [] = _
  have eo : o9 ⟨⟨9 :: []⟩⟩ = (⟨9, qd, qf, qh, qa, qb⟩ : Ope) := by
    unfold o9
    rw [zd, zf, zh, za, zb]
  rw [ofG9_eq, show lenS (⟨⟨9 :: []⟩⟩ : ByteArray) = 1 from rfl, if_pos rfl, eo, opGR, hr]; rfl
theorem back10 (qd qf qh qa qb : Int) (hr : opR (⟨10, qd, qf, qh, qa, qb⟩ : Ope) = true) (hh : 0 ≤ qh ∧ qh < 18446744073709551616) (ha : 0 ≤ qa ∧ qa < 18446744073709551616) (hb : 0 ≤ qb ∧ qb < 18446744073709551616) : ofB (bytesR (⟨10, qd, qf, qh, qa, qb⟩ : Ope)) = ((⟨10, qd, qf, qh, qa, qb⟩ : Ope), 0) := by
  have hf : opR10 (⟨10, qd, qf, qh, qa, qb⟩ : Ope) = true := hr
  unfold opR10 at hf
  simp at hf
  have fd : 0 ≤ qd ∧ qd ≤ 255 := by omega
  have ff : 0 ≤ qf ∧ qf ≤ 2 := by omega
  have zf : qf = 0 := by omega
  have zh : qh = 0 := by omega
  have hl : (bytesR (⟨10, qd, qf, qh, qa, qb⟩ : Ope)).data.toList = 10 :: [c1 qd, b8 qa 0, b8 qa 8, b8 qa 16, b8 qa 24, b8 qa 32, b8 qa 40, b8 qa 48, b8 qa 56, b8 qb 0, b8 qb 8, b8 qb 16, b8 qb 24, b8 qb 32, b8 qb 40, b8 qb 48, b8 qb 56] := by
    show (bytesR10 (⟨10, qd, qf, qh, qa, qb⟩ : Ope)).data.toList = _
    unfold bytesR10
    rw [show opR _ = true from hr]
    first | rfl | (simp only [Bool.not_true, cond_false, joinL, eightL, oneL]; rfl)
  show ofL (bytesR (⟨10, qd, qf, qh, qa, qb⟩ : Ope)).data.toList = _
  rw [hl]
  show ofG10 [c1 qd, b8 qa 0, b8 qa 8, b8 qa 16, b8 qa 24, b8 qa 32, b8 qa 40, b8 qa 48, b8 qa 56, b8 qb 0, b8 qb 8, b8 qb 16, b8 qb 24, b8 qb 32, b8 qb 40, b8 qb 48, b8 qb 56] = _
  have eo : o10 ⟨⟨10 :: [c1 qd, b8 qa 0, b8 qa 8, b8 qa 16, b8 qa 24, b8 qa 32, b8 qa 40, b8 qa 48, b8 qa 56, b8 qb 0, b8 qb 8, b8 qb 16, b8 qb 24, b8 qb 32, b8 qb 40, b8 qb 48, b8 qb 56]⟩⟩ = (⟨10, qd, qf, qh, qa, qb⟩ : Ope) := by
    unfold o10
    have ed : byteD ⟨⟨10 :: [c1 qd, b8 qa 0, b8 qa 8, b8 qa 16, b8 qa 24, b8 qa 32, b8 qa 40, b8 qa 48, b8 qa 56, b8 qb 0, b8 qb 8, b8 qb 16, b8 qb 24, b8 qb 32, b8 qb 40, b8 qb 48, b8 qb 56]⟩⟩ 1 = qd := (show _ = ((c1 qd).toNat : Int) from rfl).trans (c1_num (by omega) (by omega))
    have ea : W ⟨⟨10 :: [c1 qd, b8 qa 0, b8 qa 8, b8 qa 16, b8 qa 24, b8 qa 32, b8 qa 40, b8 qa 48, b8 qa 56, b8 qb 0, b8 qb 8, b8 qb 16, b8 qb 24, b8 qb 32, b8 qb 40, b8 qb 48, b8 qb 56]⟩⟩ 2 = qa := W_of ha.1 ha.2 rfl rfl rfl rfl rfl rfl rfl rfl
    have eb : W ⟨⟨10 :: [c1 qd, b8 qa 0, b8 qa 8, b8 qa 16, b8 qa 24, b8 qa 32, b8 qa 40, b8 qa 48, b8 qa 56, b8 qb 0, b8 qb 8, b8 qb 16, b8 qb 24, b8 qb 32, b8 qb 40, b8 qb 48, b8 qb 56]⟩⟩ 10 = qb := W_of hb.1 hb.2 rfl rfl rfl rfl rfl rfl rfl rfl
    rw [ed, ea, eb, zf, zh]
  rw [ofG10_eq, show lenS (⟨⟨10 :: [c1 qd, b8 qa 0, b8 qa 8, b8 qa 16, b8 qa 24, b8 qa 32, b8 qa 40, b8 qa 48, b8 qa 56, b8 qb 0, b8 qb 8, b8 qb 16, b8 qb 24, b8 qb 32, b8 qb 40, b8 qb 48, b8 qb 56]⟩⟩ : ByteArray) = 18 from rfl, if_pos rfl, eo, opGR, hr]; rfl
theorem back11 (qd qf qh qa qb : Int) (hr : opR (⟨11, qd, qf, qh, qa, qb⟩ : Ope) = true) (hh : 0 ≤ qh ∧ qh < 18446744073709551616) (ha : 0 ≤ qa ∧ qa < 18446744073709551616) (hb : 0 ≤ qb ∧ qb < 18446744073709551616) : ofB (bytesR (⟨11, qd, qf, qh, qa, qb⟩ : Ope)) = ((⟨11, qd, qf, qh, qa, qb⟩ : Ope), 0) := by
  have hf : opR11 (⟨11, qd, qf, qh, qa, qb⟩ : Ope) = true := hr
  unfold opR11 at hf
  simp at hf
  have fd : 0 ≤ qd ∧ qd ≤ 255 := by omega
  have ff : 0 ≤ qf ∧ qf ≤ 2 := by omega
  have zf : qf = 0 := by omega
  have zh : qh = 0 := by omega
  have zb : qb = 0 := by omega
  have hl : (bytesR (⟨11, qd, qf, qh, qa, qb⟩ : Ope)).data.toList = 11 :: [c1 qd, b8 qa 0, b8 qa 8, b8 qa 16, b8 qa 24, b8 qa 32, b8 qa 40, b8 qa 48, b8 qa 56] := by
    show (bytesR11 (⟨11, qd, qf, qh, qa, qb⟩ : Ope)).data.toList = _
    unfold bytesR11
    rw [show opR _ = true from hr]
    first | rfl | (simp only [Bool.not_true, cond_false, joinL, eightL, oneL]; rfl)
  show ofL (bytesR (⟨11, qd, qf, qh, qa, qb⟩ : Ope)).data.toList = _
  rw [hl]
  show ofG11 [c1 qd, b8 qa 0, b8 qa 8, b8 qa 16, b8 qa 24, b8 qa 32, b8 qa 40, b8 qa 48, b8 qa 56] = _
  have eo : o11 ⟨⟨11 :: [c1 qd, b8 qa 0, b8 qa 8, b8 qa 16, b8 qa 24, b8 qa 32, b8 qa 40, b8 qa 48, b8 qa 56]⟩⟩ = (⟨11, qd, qf, qh, qa, qb⟩ : Ope) := by
    unfold o11
    have ed : byteD ⟨⟨11 :: [c1 qd, b8 qa 0, b8 qa 8, b8 qa 16, b8 qa 24, b8 qa 32, b8 qa 40, b8 qa 48, b8 qa 56]⟩⟩ 1 = qd := (show _ = ((c1 qd).toNat : Int) from rfl).trans (c1_num (by omega) (by omega))
    have ea : W ⟨⟨11 :: [c1 qd, b8 qa 0, b8 qa 8, b8 qa 16, b8 qa 24, b8 qa 32, b8 qa 40, b8 qa 48, b8 qa 56]⟩⟩ 2 = qa := W_of ha.1 ha.2 rfl rfl rfl rfl rfl rfl rfl rfl
    rw [ed, ea, zf, zh, zb]
  rw [ofG11_eq, show lenS (⟨⟨11 :: [c1 qd, b8 qa 0, b8 qa 8, b8 qa 16, b8 qa 24, b8 qa 32, b8 qa 40, b8 qa 48, b8 qa 56]⟩⟩ : ByteArray) = 10 from rfl, if_pos rfl, eo, opGR, hr]; rfl
theorem back12 (qd qf qh qa qb : Int) (hr : opR (⟨12, qd, qf, qh, qa, qb⟩ : Ope) = true) (hh : 0 ≤ qh ∧ qh < 18446744073709551616) (ha : 0 ≤ qa ∧ qa < 18446744073709551616) (hb : 0 ≤ qb ∧ qb < 18446744073709551616) : ofB (bytesR (⟨12, qd, qf, qh, qa, qb⟩ : Ope)) = ((⟨12, qd, qf, qh, qa, qb⟩ : Ope), 0) := by
  have hf : opR12 (⟨12, qd, qf, qh, qa, qb⟩ : Ope) = true := hr
  unfold opR12 at hf
  simp at hf
  have fd : 0 ≤ qd ∧ qd ≤ 255 := by omega
  have ff : 0 ≤ qf ∧ qf ≤ 2 := by omega
  have zf : qf = 0 := by omega
  have zh : qh = 0 := by omega
  have zb : qb = 0 := by omega
  have hl : (bytesR (⟨12, qd, qf, qh, qa, qb⟩ : Ope)).data.toList = 12 :: [c1 qd, b8 qa 0, b8 qa 8, b8 qa 16, b8 qa 24, b8 qa 32, b8 qa 40, b8 qa 48, b8 qa 56] := by
    show (bytesR12 (⟨12, qd, qf, qh, qa, qb⟩ : Ope)).data.toList = _
    unfold bytesR12
    rw [show opR _ = true from hr]
    first | rfl | (simp only [Bool.not_true, cond_false, joinL, eightL, oneL]; rfl)
  show ofL (bytesR (⟨12, qd, qf, qh, qa, qb⟩ : Ope)).data.toList = _
  rw [hl]
  show ofG12 [c1 qd, b8 qa 0, b8 qa 8, b8 qa 16, b8 qa 24, b8 qa 32, b8 qa 40, b8 qa 48, b8 qa 56] = _
  have eo : o12 ⟨⟨12 :: [c1 qd, b8 qa 0, b8 qa 8, b8 qa 16, b8 qa 24, b8 qa 32, b8 qa 40, b8 qa 48, b8 qa 56]⟩⟩ = (⟨12, qd, qf, qh, qa, qb⟩ : Ope) := by
    unfold o12
    have ed : byteD ⟨⟨12 :: [c1 qd, b8 qa 0, b8 qa 8, b8 qa 16, b8 qa 24, b8 qa 32, b8 qa 40, b8 qa 48, b8 qa 56]⟩⟩ 1 = qd := (show _ = ((c1 qd).toNat : Int) from rfl).trans (c1_num (by omega) (by omega))
    have ea : W ⟨⟨12 :: [c1 qd, b8 qa 0, b8 qa 8, b8 qa 16, b8 qa 24, b8 qa 32, b8 qa 40, b8 qa 48, b8 qa 56]⟩⟩ 2 = qa := W_of ha.1 ha.2 rfl rfl rfl rfl rfl rfl rfl rfl
    rw [ed, ea, zf, zh, zb]
  rw [ofG12_eq, show lenS (⟨⟨12 :: [c1 qd, b8 qa 0, b8 qa 8, b8 qa 16, b8 qa 24, b8 qa 32, b8 qa 40, b8 qa 48, b8 qa 56]⟩⟩ : ByteArray) = 10 from rfl, if_pos rfl, eo, opGR, hr]; rfl
theorem back (o : Ope) (hr : opR o = true) (hh : 0 ≤ o.qH ∧ o.qH < 18446744073709551616) (ha : 0 ≤ o.qA ∧ o.qA < 18446744073709551616) (hb : 0 ≤ o.qB ∧ o.qB < 18446744073709551616) : ofB (bytesR o) = (o, 0) := by
  obtain ⟨c, d, f, h, x, y⟩ := o
  by_cases hc : 1 ≤ c ∧ c ≤ 12
  · have hd : c = 1 ∨ c = 2 ∨ c = 3 ∨ c = 4 ∨ c = 5 ∨ c = 6 ∨ c = 7 ∨ c = 8 ∨ c = 9 ∨ c = 10 ∨ c = 11 ∨ c = 12 := by omega
    rcases hd with rfl | rfl | rfl | rfl | rfl | rfl | rfl | rfl | rfl | rfl | rfl | rfl
    · exact back1 d f h x y hr hh ha hb
    · exact back2 d f h x y hr hh ha hb
    · exact back3 d f h x y hr hh ha hb
    · exact back4 d f h x y hr hh ha hb
    · exact back5 d f h x y hr hh ha hb
    · exact back6 d f h x y hr hh ha hb
    · exact back7 d f h x y hr hh ha hb
    · exact back8 d f h x y hr hh ha hb
    · exact back9 d f h x y hr hh ha hb
    · exact back10 d f h x y hr hh ha hb
    · exact back11 d f h x y hr hh ha hb
    · exact back12 d f h x y hr hh ha hb
  · exfalso
    have e : opR ⟨c, d, f, h, x, y⟩ = false := by
      show opRT c.toNat _ = false
      have : c.toNat = 0 ∨ 13 ≤ c.toNat := by omega
      rcases this with h | h
      · rw [h]; rfl
      · obtain ⟨z, hz⟩ : ∃ z, c.toNat = z + 13 := ⟨c.toNat - 13, by omega⟩
        rw [hz]; rfl
    rw [e] at hr; cases hr
theorem back_no (o : Ope) (hr : opR o = false) : ofB (bytesR o) = badO := by
  have e : bytesR o = ⟨#[]⟩ := by
    obtain ⟨c, d, f, h, x, y⟩ := o
    by_cases hc : 1 ≤ c ∧ c ≤ 12
    · have hd : c = 1 ∨ c = 2 ∨ c = 3 ∨ c = 4 ∨ c = 5 ∨ c = 6 ∨ c = 7 ∨ c = 8 ∨ c = 9 ∨ c = 10 ∨ c = 11 ∨ c = 12 := by omega
      rcases hd with rfl | rfl | rfl | rfl | rfl | rfl | rfl | rfl | rfl | rfl | rfl | rfl
      · show bytesR1 _ = _; unfold bytesR1; rw [show opR _ = false from hr]; rfl
      · show bytesR2 _ = _; unfold bytesR2; rw [show opR _ = false from hr]; rfl
      · show bytesR3 _ = _; unfold bytesR3; rw [show opR _ = false from hr]; rfl
      · show bytesR4 _ = _; unfold bytesR4; rw [show opR _ = false from hr]; rfl
      · show bytesR5 _ = _; unfold bytesR5; rw [show opR _ = false from hr]; rfl
      · show bytesR6 _ = _; unfold bytesR6; rw [show opR _ = false from hr]; rfl
      · show bytesR7 _ = _; unfold bytesR7; rw [show opR _ = false from hr]; rfl
      · show bytesR8 _ = _; unfold bytesR8; rw [show opR _ = false from hr]; rfl
      · show bytesR9 _ = _; unfold bytesR9; rw [show opR _ = false from hr]; rfl
      · show bytesR10 _ = _; unfold bytesR10; rw [show opR _ = false from hr]; rfl
      · show bytesR11 _ = _; unfold bytesR11; rw [show opR _ = false from hr]; rfl
      · show bytesR12 _ = _; unfold bytesR12; rw [show opR _ = false from hr]; rfl
    · show bytesRT c.toNat _ = _
      have : c.toNat = 0 ∨ 13 ≤ c.toNat := by omega
      rcases this with h | h
      · rw [h]; rfl
      · obtain ⟨z, hz⟩ : ∃ z, c.toNat = z + 13 := ⟨c.toNat - 13, by omega⟩
        rw [hz]; rfl
  rw [e]; rfl
end Go.Proofs.YtehihnapbpcfbaaGreat.Fun
