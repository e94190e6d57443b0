/- decode.Of is the document's: code by code (printed by wip/decp.py). -/
import Derived.Test.YtehihnapbpcfbaaGreatDecP
namespace Go.Proofs.YtehihnapbpcfbaaGreat.Fun
open Go
set_option linter.unusedVariables false
set_option linter.unusedSimpArgs false
abbrev badO : Ope × Int := ((⟨0, 0, 0, 0, 0, 0⟩ : Ope), 2)
theorem ge3 (x : Int) : decide (x ≥ 3) = decide (x > 2) := decide_eq_decide.2 (by omega)
def o1 (s : ByteArray) : Ope := (⟨1, 0, 0, 0, 0, 0⟩ : Ope)
theorem ofG1_eq (l : List UInt8) : ofG1 l = if lenS (⟨⟨1 :: l⟩⟩ : ByteArray) = 1 then cond (!(opG (o1 (⟨⟨1 :: l⟩⟩ : ByteArray)))) badO (o1 (⟨⟨1 :: l⟩⟩ : ByteArray), 0) else badO := by
  unfold ofG1 o1
  simp only [lenD1, lenD8, strE, take8_W, take1_i, W1, W8, byte1, byte8, Nat.reduceAdd, Nat.add_zero]
  generalize opG _ = g
  have hl : 1 ≤ lenS (⟨⟨1 :: l⟩⟩ : ByteArray) := Nat.succ_pos _
  by_cases hn : lenS (⟨⟨1 :: l⟩⟩ : ByteArray) = 1
  · rw [if_pos hn, hn]; rfl
  · rw [if_neg hn]
    simp only [Bool.cond_eq_ite]
    repeat' split
    all_goals first | rfl | (exfalso; simp only [decide_eq_true_eq, decide_eq_false_iff_not, Bool.not_eq_true, Bool.not_eq_true', Bool.not_eq_false, Bool.not_eq_false'] at *; omega) | (exfalso; simp only [decide_eq_true_eq, decide_eq_false_iff_not, Bool.not_eq_true, Bool.not_eq_true', Bool.not_eq_false, Bool.not_eq_false'] at *; omega)
theorem bytes1 (s : ByteArray) (h0 : byteG s 0 = 1) (h : opR (o1 s) = true) : (bytesR (o1 s)).data.toList = [byteG s 0] := by
  show (bytesR1 (o1 s)).data.toList = _
  unfold bytesR1
  rw [show opR ⟨1, (o1 s).qD, (o1 s).qF, (o1 s).qH, (o1 s).qA, (o1 s).qB⟩ = true from h]
  rw [h0]
  rfl
theorem ofR1_eq (l : List UInt8) : ofR1 l = if lenS (⟨⟨1 :: l⟩⟩ : ByteArray) = 1 then cond (!(opR (o1 (⟨⟨1 :: l⟩⟩ : ByteArray)))) badO (o1 (⟨⟨1 :: l⟩⟩ : ByteArray), 0) else badO := by
  unfold ofR1
  try simp only [wordR1_W, wordR2_W, wordR9_W, wordR10_W, wordR18_W, W_mod]
  show cond (!(opR (o1 (⟨⟨1 :: l⟩⟩ : ByteArray)))) badO (cond (!(strEq (bytesR (o1 (⟨⟨1 :: l⟩⟩ : ByteArray))) (⟨⟨1 :: l⟩⟩ : ByteArray))) badO (o1 (⟨⟨1 :: l⟩⟩ : ByteArray), 0)) = _
  cases h : opR (o1 (⟨⟨1 :: l⟩⟩ : ByteArray)) with
  | false => by_cases hn : lenS (⟨⟨1 :: l⟩⟩ : ByteArray) = 1
             · rw [if_pos hn]; rfl
             · rw [if_neg hn]; rfl
  | true =>
    have hb := bytes1 (⟨⟨1 :: l⟩⟩ : ByteArray) rfl h
    by_cases hn : lenS (⟨⟨1 :: l⟩⟩ : ByteArray) = 1
    · have hs := listG (⟨⟨1 :: l⟩⟩ : ByteArray).data.toList
      rw [show (⟨⟨1 :: l⟩⟩ : ByteArray).data.toList.length = 1 from hn] at hs
      have e : strEq (bytesR (o1 (⟨⟨1 :: l⟩⟩ : ByteArray))) (⟨⟨1 :: l⟩⟩ : ByteArray) = true := by
        unfold strEq; rw [hb, hs]; exact beq_self_eq_true _
      rw [if_pos hn, e]; rfl
    · have e : strEq (bytesR (o1 (⟨⟨1 :: l⟩⟩ : ByteArray))) (⟨⟨1 :: l⟩⟩ : ByteArray) = false := by
        unfold strEq; rw [hb]; apply beq_eq_false_iff_ne.2; intro e; apply hn; show (⟨⟨1 :: l⟩⟩ : ByteArray).data.toList.length = 1; rw [← e]; rfl
      rw [if_neg hn, e]; rfl
theorem opGR1 (s : ByteArray) : opG (o1 s) = opR (o1 s) := by
  show opG1 (o1 s) = opR1 (o1 s)
  unfold opG1 opR1; rw [ge3]
theorem of1_same (l : List UInt8) : ofG1 l = ofR1 l := by rw [ofG1_eq, ofR1_eq, opGR1]
def o2 (s : ByteArray) : Ope := (⟨2, 0, 0, (W s 1), 0, 0⟩ : Ope)
theorem ofG2_eq (l : List UInt8) : ofG2 l = if lenS (⟨⟨2 :: l⟩⟩ : ByteArray) = 9 then cond (!(opG (o2 (⟨⟨2 :: l⟩⟩ : ByteArray)))) badO (o2 (⟨⟨2 :: l⟩⟩ : ByteArray), 0) else badO := by
  unfold ofG2 o2
  simp only [lenD1, lenD8, strE, take8_W, take1_i, W1, W8, byte1, byte8, Nat.reduceAdd, Nat.add_zero]
  generalize opG _ = g
  have hl : 1 ≤ lenS (⟨⟨2 :: l⟩⟩ : ByteArray) := Nat.succ_pos _
  by_cases hn : lenS (⟨⟨2 :: l⟩⟩ : ByteArray) = 9
  · rw [if_pos hn, hn]; rfl
  · rw [if_neg hn]
    simp only [Bool.cond_eq_ite]
    repeat' split
    all_goals first | rfl | (exfalso; simp only [decide_eq_true_eq, decide_eq_false_iff_not, Bool.not_eq_true, Bool.not_eq_true', Bool.not_eq_false, Bool.not_eq_false'] at *; omega) | (exfalso; simp only [decide_eq_true_eq, decide_eq_false_iff_not, Bool.not_eq_true, Bool.not_eq_true', Bool.not_eq_false, Bool.not_eq_false'] at *; omega)
theorem bytes2 (s : ByteArray) (h0 : byteG s 0 = 2) (h : opR (o2 s) = true) : (bytesR (o2 s)).data.toList = [byteG s 0, byteG s 1, byteG s 2, byteG s 3, byteG s 4, byteG s 5, byteG s 6, byteG s 7, byteG s 8] := by
  show (bytesR2 (o2 s)).data.toList = _
  unfold bytesR2
  rw [show opR ⟨2, (o2 s).qD, (o2 s).qF, (o2 s).qH, (o2 s).qA, (o2 s).qB⟩ = true from h]
  rw [h0]
  simp only [Bool.not_true, cond_false, joinL]
  first | (simp only [o2, e8, e1]; rfl) | rfl
theorem ofR2_eq (l : List UInt8) : ofR2 l = if lenS (⟨⟨2 :: l⟩⟩ : ByteArray) = 9 then cond (!(opR (o2 (⟨⟨2 :: l⟩⟩ : ByteArray)))) badO (o2 (⟨⟨2 :: l⟩⟩ : ByteArray), 0) else badO := by
  unfold ofR2
  try simp only [wordR1_W, wordR2_W, wordR9_W, wordR10_W, wordR18_W, W_mod]
  show cond (!(opR (o2 (⟨⟨2 :: l⟩⟩ : ByteArray)))) badO (cond (!(strEq (bytesR (o2 (⟨⟨2 :: l⟩⟩ : ByteArray))) (⟨⟨2 :: l⟩⟩ : ByteArray))) badO (o2 (⟨⟨2 :: l⟩⟩ : ByteArray), 0)) = _
  cases h : opR (o2 (⟨⟨2 :: l⟩⟩ : ByteArray)) with
  | false => by_cases hn : lenS (⟨⟨2 :: l⟩⟩ : ByteArray) = 9
             · rw [if_pos hn]; rfl
             · rw [if_neg hn]; rfl
  | true =>
    have hb := bytes2 (⟨⟨2 :: l⟩⟩ : ByteArray) rfl h
    by_cases hn : lenS (⟨⟨2 :: l⟩⟩ : ByteArray) = 9
    · have hs := listG (⟨⟨2 :: l⟩⟩ : ByteArray).data.toList
      rw [show (⟨⟨2 :: l⟩⟩ : ByteArray).data.toList.length = 9 from hn] at hs
      have e : strEq (bytesR (o2 (⟨⟨2 :: l⟩⟩ : ByteArray))) (⟨⟨2 :: l⟩⟩ : ByteArray) = true := by
        unfold strEq; rw [hb, hs]; exact beq_self_eq_true _
      rw [if_pos hn, e]; rfl
    · have e : strEq (bytesR (o2 (⟨⟨2 :: l⟩⟩ : ByteArray))) (⟨⟨2 :: l⟩⟩ : ByteArray) = false := by
        unfold strEq; rw [hb]; apply beq_eq_false_iff_ne.2; intro e; apply hn; show (⟨⟨2 :: l⟩⟩ : ByteArray).data.toList.length = 9; rw [← e]; rfl
      rw [if_neg hn, e]; rfl
theorem opGR2 (s : ByteArray) : opG (o2 s) = opR (o2 s) := by
  show opG2 (o2 s) = opR2 (o2 s)
  unfold opG2 opR2; rw [ge3]
theorem of2_same (l : List UInt8) : ofG2 l = ofR2 l := by rw [ofG2_eq, ofR2_eq, opGR2]
def o3 (s : ByteArray) : Ope := (⟨3, 0, (byteD s 9), (W s 1), 0, 0⟩ : Ope)
theorem ofG3_eq (l : List UInt8) : ofG3 l = if lenS (⟨⟨3 :: l⟩⟩ : ByteArray) = 10 then cond (!(opG (o3 (⟨⟨3 :: l⟩⟩ : ByteArray)))) badO (o3 (⟨⟨3 :: l⟩⟩ : ByteArray), 0) else badO := by
  unfold ofG3 o3
  simp only [lenD1, lenD8, strE, take8_W, take1_i, W1, W8, byte1, byte8, Nat.reduceAdd, Nat.add_zero]
  generalize opG _ = g
  have hl : 1 ≤ lenS (⟨⟨3 :: l⟩⟩ : ByteArray) := Nat.succ_pos _
  by_cases hn : lenS (⟨⟨3 :: l⟩⟩ : ByteArray) = 10
  · rw [if_pos hn, hn]; rfl
  · rw [if_neg hn]
    simp only [Bool.cond_eq_ite]
    repeat' split
    all_goals first | rfl | (exfalso; simp only [decide_eq_true_eq, decide_eq_false_iff_not, Bool.not_eq_true, Bool.not_eq_true', Bool.not_eq_false, Bool.not_eq_false'] at *; omega) | (exfalso; simp only [decide_eq_true_eq, decide_eq_false_iff_not, Bool.not_eq_true, Bool.not_eq_true', Bool.not_eq_false, Bool.not_eq_false'] at *; omega)
theorem bytes3 (s : ByteArray) (h0 : byteG s 0 = 3) (h : opR (o3 s) = true) : (bytesR (o3 s)).data.toList = [byteG s 0, byteG s 1, byteG s 2, byteG s 3, byteG s 4, byteG s 5, byteG s 6, byteG s 7, byteG s 8, byteG s 9] := by
  show (bytesR3 (o3 s)).data.toList = _
  unfold bytesR3
  rw [show opR ⟨3, (o3 s).qD, (o3 s).qF, (o3 s).qH, (o3 s).qA, (o3 s).qB⟩ = true from h]
  rw [h0]
  simp only [Bool.not_true, cond_false, joinL]
  first | (simp only [o3, e8, e1]; rfl) | rfl
theorem ofR3_eq (l : List UInt8) : ofR3 l = if lenS (⟨⟨3 :: l⟩⟩ : ByteArray) = 10 then cond (!(opR (o3 (⟨⟨3 :: l⟩⟩ : ByteArray)))) badO (o3 (⟨⟨3 :: l⟩⟩ : ByteArray), 0) else badO := by
  unfold ofR3
  try simp only [wordR1_W, wordR2_W, wordR9_W, wordR10_W, wordR18_W, W_mod]
  show cond (!(opR (o3 (⟨⟨3 :: l⟩⟩ : ByteArray)))) badO (cond (!(strEq (bytesR (o3 (⟨⟨3 :: l⟩⟩ : ByteArray))) (⟨⟨3 :: l⟩⟩ : ByteArray))) badO (o3 (⟨⟨3 :: l⟩⟩ : ByteArray), 0)) = _
  cases h : opR (o3 (⟨⟨3 :: l⟩⟩ : ByteArray)) with
  | false => by_cases hn : lenS (⟨⟨3 :: l⟩⟩ : ByteArray) = 10
             · rw [if_pos hn]; rfl
             · rw [if_neg hn]; rfl
  | true =>
    have hb := bytes3 (⟨⟨3 :: l⟩⟩ : ByteArray) rfl h
    by_cases hn : lenS (⟨⟨3 :: l⟩⟩ : ByteArray) = 10
    · have hs := listG (⟨⟨3 :: l⟩⟩ : ByteArray).data.toList
      rw [show (⟨⟨3 :: l⟩⟩ : ByteArray).data.toList.length = 10 from hn] at hs
      have e : strEq (bytesR (o3 (⟨⟨3 :: l⟩⟩ : ByteArray))) (⟨⟨3 :: l⟩⟩ : ByteArray) = true := by
        unfold strEq; rw [hb, hs]; exact beq_self_eq_true _
      rw [if_pos hn, e]; rfl
    · have e : strEq (bytesR (o3 (⟨⟨3 :: l⟩⟩ : ByteArray))) (⟨⟨3 :: l⟩⟩ : ByteArray) = false := by
        unfold strEq; rw [hb]; apply beq_eq_false_iff_ne.2; intro e; apply hn; show (⟨⟨3 :: l⟩⟩ : ByteArray).data.toList.length = 10; rw [← e]; rfl
      rw [if_neg hn, e]; rfl
theorem opGR3 (s : ByteArray) : opG (o3 s) = opR (o3 s) := by
  show opG3 (o3 s) = opR3 (o3 s)
  unfold opG3 opR3; rw [ge3]
theorem of3_same (l : List UInt8) : ofG3 l = ofR3 l := by rw [ofG3_eq, ofR3_eq, opGR3]
def o4 (s : ByteArray) : Ope := (⟨4, 0, (byteD s 9), (W s 1), (W s 10), 0⟩ : Ope)
theorem ofG4_eq (l : List UInt8) : ofG4 l = if lenS (⟨⟨4 :: l⟩⟩ : ByteArray) = 18 then cond (!(opG (o4 (⟨⟨4 :: l⟩⟩ : ByteArray)))) badO (o4 (⟨⟨4 :: l⟩⟩ : ByteArray), 0) else badO := by
  unfold ofG4 o4
  simp only [lenD1, lenD8, strE, take8_W, take1_i, W1, W8, byte1, byte8, Nat.reduceAdd, Nat.add_zero]
  generalize opG _ = g
  have hl : 1 ≤ lenS (⟨⟨4 :: l⟩⟩ : ByteArray) := Nat.succ_pos _
  by_cases hn : lenS (⟨⟨4 :: l⟩⟩ : ByteArray) = 18
  · rw [if_pos hn, hn]; rfl
  · rw [if_neg hn]
    simp only [Bool.cond_eq_ite]
    repeat' split
    all_goals first | rfl | (exfalso; simp only [decide_eq_true_eq, decide_eq_false_iff_not, Bool.not_eq_true, Bool.not_eq_true', Bool.not_eq_false, Bool.not_eq_false'] at *; omega) | (exfalso; simp only [decide_eq_true_eq, decide_eq_false_iff_not, Bool.not_eq_true, Bool.not_eq_true', Bool.not_eq_false, Bool.not_eq_false'] at *; omega)
theorem bytes4 (s : ByteArray) (h0 : byteG s 0 = 4) (h : opR (o4 s) = true) : (bytesR (o4 s)).data.toList = [byteG s 0, byteG s 1, byteG s 2, byteG s 3, byteG s 4, byteG s 5, byteG s 6, byteG s 7, byteG s 8, byteG s 9, byteG s 10, byteG s 11, byteG s 12, byteG s 13, byteG s 14, byteG s 15, byteG s 16, byteG s 17] := by
  show (bytesR4 (o4 s)).data.toList = _
  unfold bytesR4
  rw [show opR ⟨4, (o4 s).qD, (o4 s).qF, (o4 s).qH, (o4 s).qA, (o4 s).qB⟩ = true from h]
  rw [h0]
  simp only [Bool.not_true, cond_false, joinL]
  first | (simp only [o4, e8, e1]; rfl) | rfl
theorem ofR4_eq (l : List UInt8) : ofR4 l = if lenS (⟨⟨4 :: l⟩⟩ : ByteArray) = 18 then cond (!(opR (o4 (⟨⟨4 :: l⟩⟩ : ByteArray)))) badO (o4 (⟨⟨4 :: l⟩⟩ : ByteArray), 0) else badO := by
  unfold ofR4
  try simp only [wordR1_W, wordR2_W, wordR9_W, wordR10_W, wordR18_W, W_mod]
  show cond (!(opR (o4 (⟨⟨4 :: l⟩⟩ : ByteArray)))) badO (cond (!(strEq (bytesR (o4 (⟨⟨4 :: l⟩⟩ : ByteArray))) (⟨⟨4 :: l⟩⟩ : ByteArray))) badO (o4 (⟨⟨4 :: l⟩⟩ : ByteArray), 0)) = _
  cases h : opR (o4 (⟨⟨4 :: l⟩⟩ : ByteArray)) with
  | false => by_cases hn : lenS (⟨⟨4 :: l⟩⟩ : ByteArray) = 18
             · rw [if_pos hn]; rfl
             · rw [if_neg hn]; rfl
  | true =>
    have hb := bytes4 (⟨⟨4 :: l⟩⟩ : ByteArray) rfl h
    by_cases hn : lenS (⟨⟨4 :: l⟩⟩ : ByteArray) = 18
    · have hs := listG (⟨⟨4 :: l⟩⟩ : ByteArray).data.toList
      rw [show (⟨⟨4 :: l⟩⟩ : ByteArray).data.toList.length = 18 from hn] at hs
      have e : strEq (bytesR (o4 (⟨⟨4 :: l⟩⟩ : ByteArray))) (⟨⟨4 :: l⟩⟩ : ByteArray) = true := by
        unfold strEq; rw [hb, hs]; exact beq_self_eq_true _
      rw [if_pos hn, e]; rfl
    · have e : strEq (bytesR (o4 (⟨⟨4 :: l⟩⟩ : ByteArray))) (⟨⟨4 :: l⟩⟩ : ByteArray) = false := by
        unfold strEq; rw [hb]; apply beq_eq_false_iff_ne.2; intro e; apply hn; show (⟨⟨4 :: l⟩⟩ : ByteArray).data.toList.length = 18; rw [← e]; rfl
      rw [if_neg hn, e]; rfl
theorem opGR4 (s : ByteArray) : opG (o4 s) = opR (o4 s) := by
  show opG4 (o4 s) = opR4 (o4 s)
  unfold opG4 opR4; rw [ge3]
theorem of4_same (l : List UInt8) : ofG4 l = ofR4 l := by rw [ofG4_eq, ofR4_eq, opGR4]
def o5 (s : ByteArray) : Ope := (⟨5, 0, (byteD s 9), (W s 1), (W s 10), (W s 18)⟩ : Ope)
theorem ofG5_eq (l : List UInt8) : ofG5 l = if lenS (⟨⟨5 :: l⟩⟩ : ByteArray) = 26 then cond (!(opG (o5 (⟨⟨5 :: l⟩⟩ : ByteArray)))) badO (o5 (⟨⟨5 :: l⟩⟩ : ByteArray), 0) else badO := by
  unfold ofG5 o5
  simp only [lenD1, lenD8, strE, take8_W, take1_i, W1, W8, byte1, byte8, Nat.reduceAdd, Nat.add_zero]
  generalize opG _ = g
  have hl : 1 ≤ lenS (⟨⟨5 :: l⟩⟩ : ByteArray) := Nat.succ_pos _
  by_cases hn : lenS (⟨⟨5 :: l⟩⟩ : ByteArray) = 26
  · rw [if_pos hn, hn]; rfl
  · rw [if_neg hn]
    simp only [Bool.cond_eq_ite]
    repeat' split
    all_goals first | rfl | (exfalso; simp only [decide_eq_true_eq, decide_eq_false_iff_not, Bool.not_eq_true, Bool.not_eq_true', Bool.not_eq_false, Bool.not_eq_false'] at *; omega) | (exfalso; simp only [decide_eq_true_eq, decide_eq_false_iff_not, Bool.not_eq_true, Bool.not_eq_true', Bool.not_eq_false, Bool.not_eq_false'] at *; omega)
theorem bytes5 (s : ByteArray) (h0 : byteG s 0 = 5) (h : opR (o5 s) = true) : (bytesR (o5 s)).data.toList = [byteG s 0, byteG s 1, byteG s 2, byteG s 3, byteG s 4, byteG s 5, byteG s 6, byteG s 7, byteG s 8, byteG s 9, byteG s 10, byteG s 11, byteG s 12, byteG s 13, byteG s 14, byteG s 15, byteG s 16, byteG s 17, byteG s 18, byteG s 19, byteG s 20, byteG s 21, byteG s 22, byteG s 23, byteG s 24, byteG s 25] := by
  show (bytesR5 (o5 s)).data.toList = _
  unfold bytesR5
  rw [show opR ⟨5, (o5 s).qD, (o5 s).qF, (o5 s).qH, (o5 s).qA, (o5 s).qB⟩ = true from h]
  rw [h0]
  simp only [Bool.not_true, cond_false, joinL]
  first | (simp only [o5, e8, e1]; rfl) | rfl
theorem ofR5_eq (l : List UInt8) : ofR5 l = if lenS (⟨⟨5 :: l⟩⟩ : ByteArray) = 26 then cond (!(opR (o5 (⟨⟨5 :: l⟩⟩ : ByteArray)))) badO (o5 (⟨⟨5 :: l⟩⟩ : ByteArray), 0) else badO := by
  unfold ofR5
  try simp only [wordR1_W, wordR2_W, wordR9_W, wordR10_W, wordR18_W, W_mod]
  show cond (!(opR (o5 (⟨⟨5 :: l⟩⟩ : ByteArray)))) badO (cond (!(strEq (bytesR (o5 (⟨⟨5 :: l⟩⟩ : ByteArray))) (⟨⟨5 :: l⟩⟩ : ByteArray))) badO (o5 (⟨⟨5 :: l⟩⟩ : ByteArray), 0)) = _
  cases h : opR (o5 (⟨⟨5 :: l⟩⟩ : ByteArray)) with
  | false => by_cases hn : lenS (⟨⟨5 :: l⟩⟩ : ByteArray) = 26
             · rw [if_pos hn]; rfl
             · rw [if_neg hn]; rfl
  | true =>
    have hb := bytes5 (⟨⟨5 :: l⟩⟩ : ByteArray) rfl h
    by_cases hn : lenS (⟨⟨5 :: l⟩⟩ : ByteArray) = 26
    · have hs := listG (⟨⟨5 :: l⟩⟩ : ByteArray).data.toList
      rw [show (⟨⟨5 :: l⟩⟩ : ByteArray).data.toList.length = 26 from hn] at hs
      have e : strEq (bytesR (o5 (⟨⟨5 :: l⟩⟩ : ByteArray))) (⟨⟨5 :: l⟩⟩ : ByteArray) = true := by
        unfold strEq; rw [hb, hs]; exact beq_self_eq_true _
      rw [if_pos hn, e]; rfl
    · have e : strEq (bytesR (o5 (⟨⟨5 :: l⟩⟩ : ByteArray))) (⟨⟨5 :: l⟩⟩ : ByteArray) = false := by
        unfold strEq; rw [hb]; apply beq_eq_false_iff_ne.2; intro e; apply hn; show (⟨⟨5 :: l⟩⟩ : ByteArray).data.toList.length = 26; rw [← e]; rfl
      rw [if_neg hn, e]; rfl
theorem opGR5 (s : ByteArray) : opG (o5 s) = opR (o5 s) := by
  show opG5 (o5 s) = opR5 (o5 s)
  unfold opG5 opR5; rw [ge3]
theorem of5_same (l : List UInt8) : ofG5 l = ofR5 l := by rw [ofG5_eq, ofR5_eq, opGR5]
def o6 (s : ByteArray) : Ope := (⟨6, 0, 0, 0, 0, 0⟩ : Ope)
theorem ofG6_eq (l : List UInt8) : ofG6 l = if lenS (⟨⟨6 :: l⟩⟩ : ByteArray) = 1 then cond (!(opG (o6 (⟨⟨6 :: l⟩⟩ : ByteArray)))) badO (o6 (⟨⟨6 :: l⟩⟩ : ByteArray), 0) else badO := by
  unfold ofG6 o6
  simp only [lenD1, lenD8, strE, take8_W, take1_i, W1, W8, byte1, byte8, Nat.reduceAdd, Nat.add_zero]
  generalize opG _ = g
  have hl : 1 ≤ lenS (⟨⟨6 :: l⟩⟩ : ByteArray) := Nat.succ_pos _
  by_cases hn : lenS (⟨⟨6 :: l⟩⟩ : ByteArray) = 1
  · rw [if_pos hn, hn]; rfl
  · rw [if_neg hn]
    simp only [Bool.cond_eq_ite]
    repeat' split
    all_goals first | rfl | (exfalso; simp only [decide_eq_true_eq, decide_eq_false_iff_not, Bool.not_eq_true, Bool.not_eq_true', Bool.not_eq_false, Bool.not_eq_false'] at *; omega) | (exfalso; simp only [decide_eq_true_eq, decide_eq_false_iff_not, Bool.not_eq_true, Bool.not_eq_true', Bool.not_eq_false, Bool.not_eq_false'] at *; omega)
theorem bytes6 (s : ByteArray) (h0 : byteG s 0 = 6) (h : opR (o6 s) = true) : (bytesR (o6 s)).data.toList = [byteG s 0] := by
  show (bytesR6 (o6 s)).data.toList = _
  unfold bytesR6
  rw [show opR ⟨6, (o6 s).qD, (o6 s).qF, (o6 s).qH, (o6 s).qA, (o6 s).qB⟩ = true from h]
  rw [h0]
  rfl
theorem ofR6_eq (l : List UInt8) : ofR6 l = if lenS (⟨⟨6 :: l⟩⟩ : ByteArray) = 1 then cond (!(opR (o6 (⟨⟨6 :: l⟩⟩ : ByteArray)))) badO (o6 (⟨⟨6 :: l⟩⟩ : ByteArray), 0) else badO := by
  unfold ofR6
  try simp only [wordR1_W, wordR2_W, wordR9_W, wordR10_W, wordR18_W, W_mod]
  show cond (!(opR (o6 (⟨⟨6 :: l⟩⟩ : ByteArray)))) badO (cond (!(strEq (bytesR (o6 (⟨⟨6 :: l⟩⟩ : ByteArray))) (⟨⟨6 :: l⟩⟩ : ByteArray))) badO (o6 (⟨⟨6 :: l⟩⟩ : ByteArray), 0)) = _
  cases h : opR (o6 (⟨⟨6 :: l⟩⟩ : ByteArray)) with
  | false => by_cases hn : lenS (⟨⟨6 :: l⟩⟩ : ByteArray) = 1
             · rw [if_pos hn]; rfl
             · rw [if_neg hn]; rfl
  | true =>
    have hb := bytes6 (⟨⟨6 :: l⟩⟩ : ByteArray) rfl h
    by_cases hn : lenS (⟨⟨6 :: l⟩⟩ : ByteArray) = 1
    · have hs := listG (⟨⟨6 :: l⟩⟩ : ByteArray).data.toList
      rw [show (⟨⟨6 :: l⟩⟩ : ByteArray).data.toList.length = 1 from hn] at hs
      have e : strEq (bytesR (o6 (⟨⟨6 :: l⟩⟩ : ByteArray))) (⟨⟨6 :: l⟩⟩ : ByteArray) = true := by
        unfold strEq; rw [hb, hs]; exact beq_self_eq_true _
      rw [if_pos hn, e]; rfl
    · have e : strEq (bytesR (o6 (⟨⟨6 :: l⟩⟩ : ByteArray))) (⟨⟨6 :: l⟩⟩ : ByteArray) = false := by
        unfold strEq; rw [hb]; apply beq_eq_false_iff_ne.2; intro e; apply hn; show (⟨⟨6 :: l⟩⟩ : ByteArray).data.toList.length = 1; rw [← e]; rfl
      rw [if_neg hn, e]; rfl
theorem opGR6 (s : ByteArray) : opG (o6 s) = opR (o6 s) := by
  show opG6 (o6 s) = opR6 (o6 s)
  unfold opG6 opR6; rw [ge3]
theorem of6_same (l : List UInt8) : ofG6 l = ofR6 l := by rw [ofG6_eq, ofR6_eq, opGR6]
def o7 (s : ByteArray) : Ope := (⟨7, (byteD s 1), 0, 0, (W s 2), 0⟩ : Ope)
theorem ofG7_eq (l : List UInt8) : ofG7 l = if lenS (⟨⟨7 :: l⟩⟩ : ByteArray) = 10 then cond (!(opG (o7 (⟨⟨7 :: l⟩⟩ : ByteArray)))) badO (o7 (⟨⟨7 :: l⟩⟩ : ByteArray), 0) else badO := by
  unfold ofG7 o7
  simp only [lenD1, lenD8, strE, take8_W, take1_i, W1, W8, byte1, byte8, Nat.reduceAdd, Nat.add_zero]
  generalize opG _ = g
  have hl : 1 ≤ lenS (⟨⟨7 :: l⟩⟩ : ByteArray) := Nat.succ_pos _
  by_cases hn : lenS (⟨⟨7 :: l⟩⟩ : ByteArray) = 10
  · rw [if_pos hn, hn]; rfl
  · rw [if_neg hn]
    simp only [Bool.cond_eq_ite]
    repeat' split
    all_goals first | rfl | (exfalso; simp only [decide_eq_true_eq, decide_eq_false_iff_not, Bool.not_eq_true, Bool.not_eq_true', Bool.not_eq_false, Bool.not_eq_false'] at *; omega) | (exfalso; simp only [decide_eq_true_eq, decide_eq_false_iff_not, Bool.not_eq_true, Bool.not_eq_true', Bool.not_eq_false, Bool.not_eq_false'] at *; omega)
theorem bytes7 (s : ByteArray) (h0 : byteG s 0 = 7) (h : opR (o7 s) = true) : (bytesR (o7 s)).data.toList = [byteG s 0, byteG s 1, byteG s 2, byteG s 3, byteG s 4, byteG s 5, byteG s 6, byteG s 7, byteG s 8, byteG s 9] := by
  show (bytesR7 (o7 s)).data.toList = _
  unfold bytesR7
  rw [show opR ⟨7, (o7 s).qD, (o7 s).qF, (o7 s).qH, (o7 s).qA, (o7 s).qB⟩ = true from h]
  rw [h0]
  simp only [Bool.not_true, cond_false, joinL]
  first | (simp only [o7, e8, e1]; rfl) | rfl
theorem ofR7_eq (l : List UInt8) : ofR7 l = if lenS (⟨⟨7 :: l⟩⟩ : ByteArray) = 10 then cond (!(opR (o7 (⟨⟨7 :: l⟩⟩ : ByteArray)))) badO (o7 (⟨⟨7 :: l⟩⟩ : ByteArray), 0) else badO := by
  unfold ofR7
  try simp only [wordR1_W, wordR2_W, wordR9_W, wordR10_W, wordR18_W, W_mod]
  show cond (!(opR (o7 (⟨⟨7 :: l⟩⟩ : ByteArray)))) badO (cond (!(strEq (bytesR (o7 (⟨⟨7 :: l⟩⟩ : ByteArray))) (⟨⟨7 :: l⟩⟩ : ByteArray))) badO (o7 (⟨⟨7 :: l⟩⟩ : ByteArray), 0)) = _
  cases h : opR (o7 (⟨⟨7 :: l⟩⟩ : ByteArray)) with
  | false => by_cases hn : lenS (⟨⟨7 :: l⟩⟩ : ByteArray) = 10
             · rw [if_pos hn]; rfl
             · rw [if_neg hn]; rfl
  | true =>
    have hb := bytes7 (⟨⟨7 :: l⟩⟩ : ByteArray) rfl h
    by_cases hn : lenS (⟨⟨7 :: l⟩⟩ : ByteArray) = 10
    · have hs := listG (⟨⟨7 :: l⟩⟩ : ByteArray).data.toList
      rw [show (⟨⟨7 :: l⟩⟩ : ByteArray).data.toList.length = 10 from hn] at hs
      have e : strEq (bytesR (o7 (⟨⟨7 :: l⟩⟩ : ByteArray))) (⟨⟨7 :: l⟩⟩ : ByteArray) = true := by
        unfold strEq; rw [hb, hs]; exact beq_self_eq_true _
      rw [if_pos hn, e]; rfl
    · have e : strEq (bytesR (o7 (⟨⟨7 :: l⟩⟩ : ByteArray))) (⟨⟨7 :: l⟩⟩ : ByteArray) = false := by
        unfold strEq; rw [hb]; apply beq_eq_false_iff_ne.2; intro e; apply hn; show (⟨⟨7 :: l⟩⟩ : ByteArray).data.toList.length = 10; rw [← e]; rfl
      rw [if_neg hn, e]; rfl
theorem opGR7 (s : ByteArray) : opG (o7 s) = opR (o7 s) := by
  show opG7 (o7 s) = opR7 (o7 s)
  unfold opG7 opR7; rw [ge3]
theorem of7_same (l : List UInt8) : ofG7 l = ofR7 l := by rw [ofG7_eq, ofR7_eq, opGR7]
def o8 (s : ByteArray) : Ope := (⟨8, (byteD s 1), 0, 0, 0, 0⟩ : Ope)
theorem ofG8_eq (l : List UInt8) : ofG8 l = if lenS (⟨⟨8 :: l⟩⟩ : ByteArray) = 2 then cond (!(opG (o8 (⟨⟨8 :: l⟩⟩ : ByteArray)))) badO (o8 (⟨⟨8 :: l⟩⟩ : ByteArray), 0) else badO := by
  unfold ofG8 o8
  simp only [lenD1, lenD8, strE, take8_W, take1_i, W1, W8, byte1, byte8, Nat.reduceAdd, Nat.add_zero]
  generalize opG _ = g
  have hl : 1 ≤ lenS (⟨⟨8 :: l⟩⟩ : ByteArray) := Nat.succ_pos _
  by_cases hn : lenS (⟨⟨8 :: l⟩⟩ : ByteArray) = 2
  · rw [if_pos hn, hn]; rfl
  · rw [if_neg hn]
    simp only [Bool.cond_eq_ite]
    repeat' split
    all_goals first | rfl | (exfalso; simp only [decide_eq_true_eq, decide_eq_false_iff_not, Bool.not_eq_true, Bool.not_eq_true', Bool.not_eq_false, Bool.not_eq_false'] at *; omega) | (exfalso; simp only [decide_eq_true_eq, decide_eq_false_iff_not, Bool.not_eq_true, Bool.not_eq_true', Bool.not_eq_false, Bool.not_eq_false'] at *; omega)
theorem bytes8 (s : ByteArray) (h0 : byteG s 0 = 8) (h : opR (o8 s) = true) : (bytesR (o8 s)).data.toList = [byteG s 0, byteG s 1] := by
  show (bytesR8 (o8 s)).data.toList = _
  unfold bytesR8
  rw [show opR ⟨8, (o8 s).qD, (o8 s).qF, (o8 s).qH, (o8 s).qA, (o8 s).qB⟩ = true from h]
  rw [h0]
  simp only [Bool.not_true, cond_false, joinL]
  first | (simp only [o8, e8, e1]; rfl) | rfl
theorem ofR8_eq (l : List UInt8) : ofR8 l = if lenS (⟨⟨8 :: l⟩⟩ : ByteArray) = 2 then cond (!(opR (o8 (⟨⟨8 :: l⟩⟩ : ByteArray)))) badO (o8 (⟨⟨8 :: l⟩⟩ : ByteArray), 0) else badO := by
  unfold ofR8
  try simp only [wordR1_W, wordR2_W, wordR9_W, wordR10_W, wordR18_W, W_mod]
  show cond (!(opR (o8 (⟨⟨8 :: l⟩⟩ : ByteArray)))) badO (cond (!(strEq (bytesR (o8 (⟨⟨8 :: l⟩⟩ : ByteArray))) (⟨⟨8 :: l⟩⟩ : ByteArray))) badO (o8 (⟨⟨8 :: l⟩⟩ : ByteArray), 0)) = _
  cases h : opR (o8 (⟨⟨8 :: l⟩⟩ : ByteArray)) with
  | false => by_cases hn : lenS (⟨⟨8 :: l⟩⟩ : ByteArray) = 2
             · rw [if_pos hn]; rfl
             · rw [if_neg hn]; rfl
  | true =>
    have hb := bytes8 (⟨⟨8 :: l⟩⟩ : ByteArray) rfl h
    by_cases hn : lenS (⟨⟨8 :: l⟩⟩ : ByteArray) = 2
    · have hs := listG (⟨⟨8 :: l⟩⟩ : ByteArray).data.toList
      rw [show (⟨⟨8 :: l⟩⟩ : ByteArray).data.toList.length = 2 from hn] at hs
      have e : strEq (bytesR (o8 (⟨⟨8 :: l⟩⟩ : ByteArray))) (⟨⟨8 :: l⟩⟩ : ByteArray) = true := by
        unfold strEq; rw [hb, hs]; exact beq_self_eq_true _
      rw [if_pos hn, e]; rfl
    · have e : strEq (bytesR (o8 (⟨⟨8 :: l⟩⟩ : ByteArray))) (⟨⟨8 :: l⟩⟩ : ByteArray) = false := by
        unfold strEq; rw [hb]; apply beq_eq_false_iff_ne.2; intro e; apply hn; show (⟨⟨8 :: l⟩⟩ : ByteArray).data.toList.length = 2; rw [← e]; rfl
      rw [if_neg hn, e]; rfl
theorem opGR8 (s : ByteArray) : opG (o8 s) = opR (o8 s) := by
  show opG8 (o8 s) = opR8 (o8 s)
  unfold opG8 opR8; rw [ge3]
theorem of8_same (l : List UInt8) : ofG8 l = ofR8 l := by rw [ofG8_eq, ofR8_eq, opGR8]
def o9 (s : ByteArray) : Ope := (⟨9, 0, 0, 0, 0, 0⟩ : Ope)
theorem ofG9_eq (l : List UInt8) : ofG9 l = if lenS (⟨⟨9 :: l⟩⟩ : ByteArray) = 1 then cond (!(opG (o9 (⟨⟨9 :: l⟩⟩ : ByteArray)))) badO (o9 (⟨⟨9 :: l⟩⟩ : ByteArray), 0) else badO := by
  unfold ofG9 o9
  simp only [lenD1, lenD8, strE, take8_W, take1_i, W1, W8, byte1, byte8, Nat.reduceAdd, Nat.add_zero]
  generalize opG _ = g
  have hl : 1 ≤ lenS (⟨⟨9 :: l⟩⟩ : ByteArray) := Nat.succ_pos _
  by_cases hn : lenS (⟨⟨9 :: l⟩⟩ : ByteArray) = 1
  · rw [if_pos hn, hn]; rfl
  · rw [if_neg hn]
    simp only [Bool.cond_eq_ite]
    repeat' split
    all_goals first | rfl | (exfalso; simp only [decide_eq_true_eq, decide_eq_false_iff_not, Bool.not_eq_true, Bool.not_eq_true', Bool.not_eq_false, Bool.not_eq_false'] at *; omega) | (exfalso; simp only [decide_eq_true_eq, decide_eq_false_iff_not, Bool.not_eq_true, Bool.not_eq_true', Bool.not_eq_false, Bool.not_eq_false'] at *; omega)
theorem bytes9 (s : ByteArray) (h0 : byteG s 0 = 9) (h : opR (o9 s) = true) : (bytesR (o9 s)).data.toList = [byteG s 0] := by
  show (bytesR9 (o9 s)).data.toList = _
  unfold bytesR9
  rw [show opR ⟨9, (o9 s).qD, (o9 s).qF, (o9 s).qH, (o9 s).qA, (o9 s).qB⟩ = true from h]
  rw [h0]
  rfl
theorem ofR9_eq (l : List UInt8) : ofR9 l = if lenS (⟨⟨9 :: l⟩⟩ : ByteArray) = 1 then cond (!(opR (o9 (⟨⟨9 :: l⟩⟩ : ByteArray)))) badO (o9 (⟨⟨9 :: l⟩⟩ : ByteArray), 0) else badO := by
  unfold ofR9
  try simp only [wordR1_W, wordR2_W, wordR9_W, wordR10_W, wordR18_W, W_mod]
  show cond (!(opR (o9 (⟨⟨9 :: l⟩⟩ : ByteArray)))) badO (cond (!(strEq (bytesR (o9 (⟨⟨9 :: l⟩⟩ : ByteArray))) (⟨⟨9 :: l⟩⟩ : ByteArray))) badO (o9 (⟨⟨9 :: l⟩⟩ : ByteArray), 0)) = _
  cases h : opR (o9 (⟨⟨9 :: l⟩⟩ : ByteArray)) with
  | false => by_cases hn : lenS (⟨⟨9 :: l⟩⟩ : ByteArray) = 1
             · rw [if_pos hn]; rfl
             · rw [if_neg hn]; rfl
  | true =>
    have hb := bytes9 (⟨⟨9 :: l⟩⟩ : ByteArray) rfl h
    by_cases hn : lenS (⟨⟨9 :: l⟩⟩ : ByteArray) = 1
    · have hs := listG (⟨⟨9 :: l⟩⟩ : ByteArray).data.toList
      rw [show (⟨⟨9 :: l⟩⟩ : ByteArray).data.toList.length = 1 from hn] at hs
      have e : strEq (bytesR (o9 (⟨⟨9 :: l⟩⟩ : ByteArray))) (⟨⟨9 :: l⟩⟩ : ByteArray) = true := by
        unfold strEq; rw [hb, hs]; exact beq_self_eq_true _
      rw [if_pos hn, e]; rfl
    · have e : strEq (bytesR (o9 (⟨⟨9 :: l⟩⟩ : ByteArray))) (⟨⟨9 :: l⟩⟩ : ByteArray) = false := by
        unfold strEq; rw [hb]; apply beq_eq_false_iff_ne.2; intro e; apply hn; show (⟨⟨9 :: l⟩⟩ : ByteArray).data.toList.length = 1; rw [← e]; rfl
      rw [if_neg hn, e]; rfl
theorem opGR9 (s : ByteArray) : opG (o9 s) = opR (o9 s) := by
  show opG9 (o9 s) = opR9 (o9 s)
  unfold opG9 opR9; rw [ge3]
theorem of9_same (l : List UInt8) : ofG9 l = ofR9 l := by rw [ofG9_eq, ofR9_eq, opGR9]
def o10 (s : ByteArray) : Ope := (⟨10, (byteD s 1), 0, 0, (W s 2), (W s 10)⟩ : Ope)
theorem ofG10_eq (l : List UInt8) : ofG10 l = if lenS (⟨⟨10 :: l⟩⟩ : ByteArray) = 18 then cond (!(opG (o10 (⟨⟨10 :: l⟩⟩ : ByteArray)))) badO (o10 (⟨⟨10 :: l⟩⟩ : ByteArray), 0) else badO := by
  unfold ofG10 o10
  simp only [lenD1, lenD8, strE, take8_W, take1_i, W1, W8, byte1, byte8, Nat.reduceAdd, Nat.add_zero]
  generalize opG _ = g
  have hl : 1 ≤ lenS (⟨⟨10 :: l⟩⟩ : ByteArray) := Nat.succ_pos _
  by_cases hn : lenS (⟨⟨10 :: l⟩⟩ : ByteArray) = 18
  · rw [if_pos hn, hn]; rfl
  · rw [if_neg hn]
    simp only [Bool.cond_eq_ite]
    repeat' split
    all_goals first | rfl | (exfalso; simp only [decide_eq_true_eq, decide_eq_false_iff_not, Bool.not_eq_true, Bool.not_eq_true', Bool.not_eq_false, Bool.not_eq_false'] at *; omega) | (exfalso; simp only [decide_eq_true_eq, decide_eq_false_iff_not, Bool.not_eq_true, Bool.not_eq_true', Bool.not_eq_false, Bool.not_eq_false'] at *; omega)
theorem bytes10 (s : ByteArray) (h0 : byteG s 0 = 10) (h : opR (o10 s) = true) : (bytesR (o10 s)).data.toList = [byteG s 0, byteG s 1, byteG s 2, byteG s 3, byteG s 4, byteG s 5, byteG s 6, byteG s 7, byteG s 8, byteG s 9, byteG s 10, byteG s 11, byteG s 12, byteG s 13, byteG s 14, byteG s 15, byteG s 16, byteG s 17] := by
  show (bytesR10 (o10 s)).data.toList = _
  unfold bytesR10
  rw [show opR ⟨10, (o10 s).qD, (o10 s).qF, (o10 s).qH, (o10 s).qA, (o10 s).qB⟩ = true from h]
  rw [h0]
  simp only [Bool.not_true, cond_false, joinL]
  first | (simp only [o10, e8, e1]; rfl) | rfl
theorem ofR10_eq (l : List UInt8) : ofR10 l = if lenS (⟨⟨10 :: l⟩⟩ : ByteArray) = 18 then cond (!(opR (o10 (⟨⟨10 :: l⟩⟩ : ByteArray)))) badO (o10 (⟨⟨10 :: l⟩⟩ : ByteArray), 0) else badO := by
  unfold ofR10
  try simp only [wordR1_W, wordR2_W, wordR9_W, wordR10_W, wordR18_W, W_mod]
  show cond (!(opR (o10 (⟨⟨10 :: l⟩⟩ : ByteArray)))) badO (cond (!(strEq (bytesR (o10 (⟨⟨10 :: l⟩⟩ : ByteArray))) (⟨⟨10 :: l⟩⟩ : ByteArray))) badO (o10 (⟨⟨10 :: l⟩⟩ : ByteArray), 0)) = _
  cases h : opR (o10 (⟨⟨10 :: l⟩⟩ : ByteArray)) with
  | false => by_cases hn : lenS (⟨⟨10 :: l⟩⟩ : ByteArray) = 18
             · rw [if_pos hn]; rfl
             · rw [if_neg hn]; rfl
  | true =>
    have hb := bytes10 (⟨⟨10 :: l⟩⟩ : ByteArray) rfl h
    by_cases hn : lenS (⟨⟨10 :: l⟩⟩ : ByteArray) = 18
    · have hs := listG (⟨⟨10 :: l⟩⟩ : ByteArray).data.toList
      rw [show (⟨⟨10 :: l⟩⟩ : ByteArray).data.toList.length = 18 from hn] at hs
      have e : strEq (bytesR (o10 (⟨⟨10 :: l⟩⟩ : ByteArray))) (⟨⟨10 :: l⟩⟩ : ByteArray) = true := by
        unfold strEq; rw [hb, hs]; exact beq_self_eq_true _
      rw [if_pos hn, e]; rfl
    · have e : strEq (bytesR (o10 (⟨⟨10 :: l⟩⟩ : ByteArray))) (⟨⟨10 :: l⟩⟩ : ByteArray) = false := by
        unfold strEq; rw [hb]; apply beq_eq_false_iff_ne.2; intro e; apply hn; show (⟨⟨10 :: l⟩⟩ : ByteArray).data.toList.length = 18; rw [← e]; rfl
      rw [if_neg hn, e]; rfl
theorem opGR10 (s : ByteArray) : opG (o10 s) = opR (o10 s) := by
  show opG10 (o10 s) = opR10 (o10 s)
  unfold opG10 opR10; rw [ge3]
theorem of10_same (l : List UInt8) : ofG10 l = ofR10 l := by rw [ofG10_eq, ofR10_eq, opGR10]
def o11 (s : ByteArray) : Ope := (⟨11, (byteD s 1), 0, 0, (W s 2), 0⟩ : Ope)
theorem ofG11_eq (l : List UInt8) : ofG11 l = if lenS (⟨⟨11 :: l⟩⟩ : ByteArray) = 10 then cond (!(opG (o11 (⟨⟨11 :: l⟩⟩ : ByteArray)))) badO (o11 (⟨⟨11 :: l⟩⟩ : ByteArray), 0) else badO := by
  unfold ofG11 o11
  simp only [lenD1, lenD8, strE, take8_W, take1_i, W1, W8, byte1, byte8, Nat.reduceAdd, Nat.add_zero]
  generalize opG _ = g
  have hl : 1 ≤ lenS (⟨⟨11 :: l⟩⟩ : ByteArray) := Nat.succ_pos _
  by_cases hn : lenS (⟨⟨11 :: l⟩⟩ : ByteArray) = 10
  · rw [if_pos hn, hn]; rfl
  · rw [if_neg hn]
    simp only [Bool.cond_eq_ite]
    repeat' split
    all_goals first | rfl | (exfalso; simp only [decide_eq_true_eq, decide_eq_false_iff_not, Bool.not_eq_true, Bool.not_eq_true', Bool.not_eq_false, Bool.not_eq_false'] at *; omega) | (exfalso; simp only [decide_eq_true_eq, decide_eq_false_iff_not, Bool.not_eq_true, Bool.not_eq_true', Bool.not_eq_false, Bool.not_eq_false'] at *; omega)
theorem bytes11 (s : ByteArray) (h0 : byteG s 0 = 11) (h : opR (o11 s) = true) : (bytesR (o11 s)).data.toList = [byteG s 0, byteG s 1, byteG s 2, byteG s 3, byteG s 4, byteG s 5, byteG s 6, byteG s 7, byteG s 8, byteG s 9] := by
  show (bytesR11 (o11 s)).data.toList = _
  unfold bytesR11
  rw [show opR ⟨11, (o11 s).qD, (o11 s).qF, (o11 s).qH, (o11 s).qA, (o11 s).qB⟩ = true from h]
  rw [h0]
  simp only [Bool.not_true, cond_false, joinL]
  first | (simp only [o11, e8, e1]; rfl) | rfl
theorem ofR11_eq (l : List UInt8) : ofR11 l = if lenS (⟨⟨11 :: l⟩⟩ : ByteArray) = 10 then cond (!(opR (o11 (⟨⟨11 :: l⟩⟩ : ByteArray)))) badO (o11 (⟨⟨11 :: l⟩⟩ : ByteArray), 0) else badO := by
  unfold ofR11
  try simp only [wordR1_W, wordR2_W, wordR9_W, wordR10_W, wordR18_W, W_mod]
  show cond (!(opR (o11 (⟨⟨11 :: l⟩⟩ : ByteArray)))) badO (cond (!(strEq (bytesR (o11 (⟨⟨11 :: l⟩⟩ : ByteArray))) (⟨⟨11 :: l⟩⟩ : ByteArray))) badO (o11 (⟨⟨11 :: l⟩⟩ : ByteArray), 0)) = _
  cases h : opR (o11 (⟨⟨11 :: l⟩⟩ : ByteArray)) with
  | false => by_cases hn : lenS (⟨⟨11 :: l⟩⟩ : ByteArray) = 10
             · rw [if_pos hn]; rfl
             · rw [if_neg hn]; rfl
  | true =>
    have hb := bytes11 (⟨⟨11 :: l⟩⟩ : ByteArray) rfl h
    by_cases hn : lenS (⟨⟨11 :: l⟩⟩ : ByteArray) = 10
    · have hs := listG (⟨⟨11 :: l⟩⟩ : ByteArray).data.toList
      rw [show (⟨⟨11 :: l⟩⟩ : ByteArray).data.toList.length = 10 from hn] at hs
      have e : strEq (bytesR (o11 (⟨⟨11 :: l⟩⟩ : ByteArray))) (⟨⟨11 :: l⟩⟩ : ByteArray) = true := by
        unfold strEq; rw [hb, hs]; exact beq_self_eq_true _
      rw [if_pos hn, e]; rfl
    · have e : strEq (bytesR (o11 (⟨⟨11 :: l⟩⟩ : ByteArray))) (⟨⟨11 :: l⟩⟩ : ByteArray) = false := by
        unfold strEq; rw [hb]; apply beq_eq_false_iff_ne.2; intro e; apply hn; show (⟨⟨11 :: l⟩⟩ : ByteArray).data.toList.length = 10; rw [← e]; rfl
      rw [if_neg hn, e]; rfl
theorem opGR11 (s : ByteArray) : opG (o11 s) = opR (o11 s) := by
  show opG11 (o11 s) = opR11 (o11 s)
  unfold opG11 opR11; rw [ge3]
theorem of11_same (l : List UInt8) : ofG11 l = ofR11 l := by rw [ofG11_eq, ofR11_eq, opGR11]
def o12 (s : ByteArray) : Ope := (⟨12, (byteD s 1), 0, 0, (W s 2), 0⟩ : Ope)
theorem ofG12_eq (l : List UInt8) : ofG12 l = if lenS (⟨⟨12 :: l⟩⟩ : ByteArray) = 10 then cond (!(opG (o12 (⟨⟨12 :: l⟩⟩ : ByteArray)))) badO (o12 (⟨⟨12 :: l⟩⟩ : ByteArray), 0) else badO := by
  unfold ofG12 o12
  simp only [lenD1, lenD8, strE, take8_W, take1_i, W1, W8, byte1, byte8, Nat.reduceAdd, Nat.add_zero]
  generalize opG _ = g
  have hl : 1 ≤ lenS (⟨⟨12 :: l⟩⟩ : ByteArray) := Nat.succ_pos _
  by_cases hn : lenS (⟨⟨12 :: l⟩⟩ : ByteArray) = 10
  · rw [if_pos hn, hn]; rfl
  · rw [if_neg hn]
    simp only [Bool.cond_eq_ite]
    repeat' split
    all_goals first | rfl | (exfalso; simp only [decide_eq_true_eq, decide_eq_false_iff_not, Bool.not_eq_true, Bool.not_eq_true', Bool.not_eq_false, Bool.not_eq_false'] at *; omega) | (exfalso; simp only [decide_eq_true_eq, decide_eq_false_iff_not, Bool.not_eq_true, Bool.not_eq_true', Bool.not_eq_false, Bool.not_eq_false'] at *; omega)
theorem bytes12 (s : ByteArray) (h0 : byteG s 0 = 12) (h : opR (o12 s) = true) : (bytesR (o12 s)).data.toList = [byteG s 0, byteG s 1, byteG s 2, byteG s 3, byteG s 4, byteG s 5, byteG s 6, byteG s 7, byteG s 8, byteG s 9] := by
  show (bytesR12 (o12 s)).data.toList = _
  unfold bytesR12
  rw [show opR ⟨12, (o12 s).qD, (o12 s).qF, (o12 s).qH, (o12 s).qA, (o12 s).qB⟩ = true from h]
  rw [h0]
  simp only [Bool.not_true, cond_false, joinL]
  first | (simp only [o12, e8, e1]; rfl) | rfl
theorem ofR12_eq (l : List UInt8) : ofR12 l = if lenS (⟨⟨12 :: l⟩⟩ : ByteArray) = 10 then cond (!(opR (o12 (⟨⟨12 :: l⟩⟩ : ByteArray)))) badO (o12 (⟨⟨12 :: l⟩⟩ : ByteArray), 0) else badO := by
  unfold ofR12
  try simp only [wordR1_W, wordR2_W, wordR9_W, wordR10_W, wordR18_W, W_mod]
  show cond (!(opR (o12 (⟨⟨12 :: l⟩⟩ : ByteArray)))) badO (cond (!(strEq (bytesR (o12 (⟨⟨12 :: l⟩⟩ : ByteArray))) (⟨⟨12 :: l⟩⟩ : ByteArray))) badO (o12 (⟨⟨12 :: l⟩⟩ : ByteArray), 0)) = _
  cases h : opR (o12 (⟨⟨12 :: l⟩⟩ : ByteArray)) with
  | false => by_cases hn : lenS (⟨⟨12 :: l⟩⟩ : ByteArray) = 10
             · rw [if_pos hn]; rfl
             · rw [if_neg hn]; rfl
  | true =>
    have hb := bytes12 (⟨⟨12 :: l⟩⟩ : ByteArray) rfl h
    by_cases hn : lenS (⟨⟨12 :: l⟩⟩ : ByteArray) = 10
    · have hs := listG (⟨⟨12 :: l⟩⟩ : ByteArray).data.toList
      rw [show (⟨⟨12 :: l⟩⟩ : ByteArray).data.toList.length = 10 from hn] at hs
      have e : strEq (bytesR (o12 (⟨⟨12 :: l⟩⟩ : ByteArray))) (⟨⟨12 :: l⟩⟩ : ByteArray) = true := by
        unfold strEq; rw [hb, hs]; exact beq_self_eq_true _
      rw [if_pos hn, e]; rfl
    · have e : strEq (bytesR (o12 (⟨⟨12 :: l⟩⟩ : ByteArray))) (⟨⟨12 :: l⟩⟩ : ByteArray) = false := by
        unfold strEq; rw [hb]; apply beq_eq_false_iff_ne.2; intro e; apply hn; show (⟨⟨12 :: l⟩⟩ : ByteArray).data.toList.length = 10; rw [← e]; rfl
      rw [if_neg hn, e]; rfl
theorem opGR12 (s : ByteArray) : opG (o12 s) = opR (o12 s) := by
  show opG12 (o12 s) = opR12 (o12 s)
  unfold opG12 opR12; rw [ge3]
theorem of12_same (l : List UInt8) : ofG12 l = ofR12 l := by rw [ofG12_eq, ofR12_eq, opGR12]
end Go.Proofs.YtehihnapbpcfbaaGreat.Fun
