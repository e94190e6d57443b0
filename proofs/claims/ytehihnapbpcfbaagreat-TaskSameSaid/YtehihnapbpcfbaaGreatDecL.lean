/- decode.Of is the document's: code by code (printed by wip/decp.py). -/
import Derived.Test.YtehihnapbpcfbaaGreatDecP
namespace Go.Proofs.YtehihnapbpcfbaaGreat.Fun
open Go
set_option linter.unusedVariables false
set_option linter.unusedSimpArgs false
abbrev badO : Ope × Int := ((⟨0, 0, 0, 0, 0, 0⟩ : Ope), 2)
theorem ge3 (x : Int) : decide (x ≥ 3) = decide (x > 2) := decide_eq_decide.2 (by omega)
def o1 (s : ByteArray) : Ope := (⟨1, 0, 0, 0, 0, 0⟩ : Ope)
theorem ofG1_eq (l : List UInt8) : ofG1 l = if lenS (⟨⟨1 :: l⟩⟩ : ByteArray) = 1 then cond (!(opG (o1 (⟨⟨1 :: l⟩⟩ : ByteArray)))) badO (o1 (⟨⟨1 :: l⟩⟩ : ByteArray), 0) else badO := by
  unfold ofG1 o1
  simp only [lenD1, lenD8, strE, take8_W, take1_i, W1, W8, byte1, byte8, Nat.reduceAdd, Nat.add_zero]
  generalize opG _ = g
  have hl : 1 ≤ lenS (⟨⟨1 :: l⟩⟩ : ByteArray) := Nat.succ_pos _
  by_cases hn : lenS (⟨⟨1 :: l⟩⟩ : ByteArray) = 1
  · rw [if_pos hn, hn]; rfl
  · rw [if_neg hn]
    simp only [Bool.cond_eq_ite]
    repeat' split
    all_goals first | rfl | (exfalso; simp only [decide_eq_true_eq, decide_eq_false_iff_not, Bool.not_eq_true, Bool.not_eq_true', Bool.not_eq_false, Bool.not_eq_false'] at *; omega) | (exfalso; simp only [decide_eq_true_eq, decide_eq_false_iff_not, Bool.not_eq_true, Bool.not_eq_true', Bool.not_eq_false, Bool.not_eq_false'] at *; omega)
theorem opGR1 (s : ByteArray) : opG (o1 s) = opR (o1 s) := by
  show opG1 (o1 s) = opR1 (o1 s)
  unfold opG1 opR1; rw [ge3]
def o2 (s : ByteArray) : Ope := (⟨2, 0, 0, (W s 1), 0, 0⟩ : Ope)
theorem ofG2_eq (l : List UInt8) : ofG2 l = if lenS (⟨⟨2 :: l⟩⟩ : ByteArray) = 9 then cond (!(opG (o2 (⟨⟨2 :: l⟩⟩ : ByteArray)))) badO (o2 (⟨⟨2 :: l⟩⟩ : ByteArray), 0) else badO := by
  unfold ofG2 o2
  simp only [lenD1, lenD8, strE, take8_W, take1_i, W1, W8, byte1, byte8, Nat.reduceAdd, Nat.add_zero]
  generalize opG _ = g
  have hl : 1 ≤ lenS (⟨⟨2 :: l⟩⟩ : ByteArray) := Nat.succ_pos _
  by_cases hn : lenS (⟨⟨2 :: l⟩⟩ : ByteArray) = 9
  · rw [if_pos hn, hn]; rfl
  · rw [if_neg hn]
    simp only [Bool.cond_eq_ite]
    repeat' split
    all_goals first | rfl | (exfalso; simp only [decide_eq_true_eq, decide_eq_false_iff_not, Bool.not_eq_true, Bool.not_eq_true', Bool.not_eq_false, Bool.not_eq_false'] at *; omega) | (exfalso; simp only [decide_eq_true_eq, decide_eq_false_iff_not, Bool.not_eq_true, Bool.not_eq_true', Bool.not_eq_false, Bool.not_eq_false'] at *; omega)
theorem opGR2 (s : ByteArray) : opG (o2 s) = opR (o2 s) := by
  show opG2 (o2 s) = opR2 (o2 s)
  unfold opG2 opR2; rw [ge3]
def o3 (s : ByteArray) : Ope := (⟨3, 0, (byteD s 9), (W s 1), 0, 0⟩ : Ope)
theorem ofG3_eq (l : List UInt8) : ofG3 l = if lenS (⟨⟨3 :: l⟩⟩ : ByteArray) = 10 then cond (!(opG (o3 (⟨⟨3 :: l⟩⟩ : ByteArray)))) badO (o3 (⟨⟨3 :: l⟩⟩ : ByteArray), 0) else badO := by
  unfold ofG3 o3
  simp only [lenD1, lenD8, strE, take8_W, take1_i, W1, W8, byte1, byte8, Nat.reduceAdd, Nat.add_zero]
  generalize opG _ = g
  have hl : 1 ≤ lenS (⟨⟨3 :: l⟩⟩ : ByteArray) := Nat.succ_pos _
  by_cases hn : lenS (⟨⟨3 :: l⟩⟩ : ByteArray) = 10
  · rw [if_pos hn, hn]; rfl
  · rw [if_neg hn]
    simp only [Bool.cond_eq_ite]
    repeat' split
    all_goals first | rfl | (exfalso; simp only [decide_eq_true_eq, decide_eq_false_iff_not, Bool.not_eq_true, Bool.not_eq_true', Bool.not_eq_false, Bool.not_eq_false'] at *; omega) | (exfalso; simp only [decide_eq_true_eq, decide_eq_false_iff_not, Bool.not_eq_true, Bool.not_eq_true', Bool.not_eq_false, Bool.not_eq_false'] at *; omega)
theorem opGR3 (s : ByteArray) : opG (o3 s) = opR (o3 s) := by
  show opG3 (o3 s) = opR3 (o3 s)
  unfold opG3 opR3; rw [ge3]
def o4 (s : ByteArray) : Ope := (⟨4, 0, (byteD s 9), (W s 1), (W s 10), 0⟩ : Ope)
theorem ofG4_eq (l : List UInt8) : ofG4 l = if lenS (⟨⟨4 :: l⟩⟩ : ByteArray) = 18 then cond (!(opG (o4 (⟨⟨4 :: l⟩⟩ : ByteArray)))) badO (o4 (⟨⟨4 :: l⟩⟩ : ByteArray), 0) else badO := by
  unfold ofG4 o4
  simp only [lenD1, lenD8, strE, take8_W, take1_i, W1, W8, byte1, byte8, Nat.reduceAdd, Nat.add_zero]
  generalize opG _ = g
  have hl : 1 ≤ lenS (⟨⟨4 :: l⟩⟩ : ByteArray) := Nat.succ_pos _
  by_cases hn : lenS (⟨⟨4 :: l⟩⟩ : ByteArray) = 18
  · rw [if_pos hn, hn]; rfl
  · rw [if_neg hn]
    simp only [Bool.cond_eq_ite]
    repeat' split
    all_goals first | rfl | (exfalso; simp only [decide_eq_true_eq, decide_eq_false_iff_not, Bool.not_eq_true, Bool.not_eq_true', Bool.not_eq_false, Bool.not_eq_false'] at *; omega) | (exfalso; simp only [decide_eq_true_eq, decide_eq_false_iff_not, Bool.not_eq_true, Bool.not_eq_true', Bool.not_eq_false, Bool.not_eq_false'] at *; omega)
theorem opGR4 (s : ByteArray) : opG (o4 s) = opR (o4 s) := by
  show opG4 (o4 s) = opR4 (o4 s)
  unfold opG4 opR4; rw [ge3]
def o5 (s : ByteArray) : Ope := (⟨5, 0, (byteD s 9), (W s 1), (W s 10), (W s 18)⟩ : Ope)
theorem ofG5_eq (l : List UInt8) : ofG5 l = if lenS (⟨⟨5 :: l⟩⟩ : ByteArray) = 26 then cond (!(opG (o5 (⟨⟨5 :: l⟩⟩ : ByteArray)))) badO (o5 (⟨⟨5 :: l⟩⟩ : ByteArray), 0) else badO := by
  unfold ofG5 o5
  simp only [lenD1, lenD8, strE, take8_W, take1_i, W1, W8, byte1, byte8, Nat.reduceAdd, Nat.add_zero]
  generalize opG _ = g
  have hl : 1 ≤ lenS (⟨⟨5 :: l⟩⟩ : ByteArray) := Nat.succ_pos _
  by_cases hn : lenS (⟨⟨5 :: l⟩⟩ : ByteArray) = 26
  · rw [if_pos hn, hn]; rfl
  · rw [if_neg hn]
    simp only [Bool.cond_eq_ite]
    repeat' split
    all_goals first | rfl | (exfalso; simp only [decide_eq_true_eq, decide_eq_false_iff_not, Bool.not_eq_true, Bool.not_eq_true', Bool.not_eq_false, Bool.not_eq_false'] at *; omega) | (exfalso; simp only [decide_eq_true_eq, decide_eq_false_iff_not, Bool.not_eq_true, Bool.not_eq_true', Bool.not_eq_false, Bool.not_eq_false'] at *; omega)
theorem opGR5 (s : ByteArray) : opG (o5 s) = opR (o5 s) := by
  show opG5 (o5 s) = opR5 (o5 s)
  unfold opG5 opR5; rw [ge3]
def o6 (s : ByteArray) : Ope := (⟨6, 0, 0, 0, 0, 0⟩ : Ope)
theorem ofG6_eq (l : List UInt8) : ofG6 l = if lenS (⟨⟨6 :: l⟩⟩ : ByteArray) = 1 then cond (!(opG (o6 (⟨⟨6 :: l⟩⟩ : ByteArray)))) badO (o6 (⟨⟨6 :: l⟩⟩ : ByteArray), 0) else badO := by
  unfold ofG6 o6
  simp only [lenD1, lenD8, strE, take8_W, take1_i, W1, W8, byte1, byte8, Nat.reduceAdd, Nat.add_zero]
  generalize opG _ = g
  have hl : 1 ≤ lenS (⟨⟨6 :: l⟩⟩ : ByteArray) := Nat.succ_pos _
  by_cases hn : lenS (⟨⟨6 :: l⟩⟩ : ByteArray) = 1
  · rw [if_pos hn, hn]; rfl
  · rw [if_neg hn]
    simp only [Bool.cond_eq_ite]
    repeat' split
    all_goals first | rfl | (exfalso; simp only [decide_eq_true_eq, decide_eq_false_iff_not, Bool.not_eq_true, Bool.not_eq_true', Bool.not_eq_false, Bool.not_eq_false'] at *; omega) | (exfalso; simp only [decide_eq_true_eq, decide_eq_false_iff_not, Bool.not_eq_true, Bool.not_eq_true', Bool.not_eq_false, Bool.not_eq_false'] at *; omega)
theorem opGR6 (s : ByteArray) : opG (o6 s) = opR (o6 s) := by
  show opG6 (o6 s) = opR6 (o6 s)
  unfold opG6 opR6; rw [ge3]
def o7 (s : ByteArray) : Ope := (⟨7, (byteD s 1), 0, 0, (W s 2), 0⟩ : Ope)
theorem ofG7_eq (l : List UInt8) : ofG7 l = if lenS (⟨⟨7 :: l⟩⟩ : ByteArray) = 10 then cond (!(opG (o7 (⟨⟨7 :: l⟩⟩ : ByteArray)))) badO (o7 (⟨⟨7 :: l⟩⟩ : ByteArray), 0) else badO := by
  unfold ofG7 o7
  simp only [lenD1, lenD8, strE, take8_W, take1_i, W1, W8, byte1, byte8, Nat.reduceAdd, Nat.add_zero]
  generalize opG _ = g
  have hl : 1 ≤ lenS (⟨⟨7 :: l⟩⟩ : ByteArray) := Nat.succ_pos _
  by_cases hn : lenS (⟨⟨7 :: l⟩⟩ : ByteArray) = 10
  · rw [if_pos hn, hn]; rfl
  · rw [if_neg hn]
    simp only [Bool.cond_eq_ite]
    repeat' split
    all_goals first | rfl | (exfalso; simp only [decide_eq_true_eq, decide_eq_false_iff_not, Bool.not_eq_true, Bool.not_eq_true', Bool.not_eq_false, Bool.not_eq_false'] at *; omega) | (exfalso; simp only [decide_eq_true_eq, decide_eq_false_iff_not, Bool.not_eq_true, Bool.not_eq_true', Bool.not_eq_false, Bool.not_eq_false'] at *; omega)
theorem opGR7 (s : ByteArray) : opG (o7 s) = opR (o7 s) := by
  show opG7 (o7 s) = opR7 (o7 s)
  unfold opG7 opR7; rw [ge3]
def o8 (s : ByteArray) : Ope := (⟨8, (byteD s 1), 0, 0, 0, 0⟩ : Ope)
theorem ofG8_eq (l : List UInt8) : ofG8 l = if lenS (⟨⟨8 :: l⟩⟩ : ByteArray) = 2 then cond (!(opG (o8 (⟨⟨8 :: l⟩⟩ : ByteArray)))) badO (o8 (⟨⟨8 :: l⟩⟩ : ByteArray), 0) else badO := by
  unfold ofG8 o8
  simp only [lenD1, lenD8, strE, take8_W, take1_i, W1, W8, byte1, byte8, Nat.reduceAdd, Nat.add_zero]
  generalize opG _ = g
  have hl : 1 ≤ lenS (⟨⟨8 :: l⟩⟩ : ByteArray) := Nat.succ_pos _
  by_cases hn : lenS (⟨⟨8 :: l⟩⟩ : ByteArray) = 2
  · rw [if_pos hn, hn]; rfl
  · rw [if_neg hn]
    simp only [Bool.cond_eq_ite]
    repeat' split
    all_goals first | rfl | (exfalso; simp only [decide_eq_true_eq, decide_eq_false_iff_not, Bool.not_eq_true, Bool.not_eq_true', Bool.not_eq_false, Bool.not_eq_false'] at *; omega) | (exfalso; simp only [decide_eq_true_eq, decide_eq_false_iff_not, Bool.not_eq_true, Bool.not_eq_true', Bool.not_eq_false, Bool.not_eq_false'] at *; omega)
theorem opGR8 (s : ByteArray) : opG (o8 s) = opR (o8 s) := by
  show opG8 (o8 s) = opR8 (o8 s)
  unfold opG8 opR8; rw [ge3]
def o9 (s : ByteArray) : Ope := (⟨9, 0, 0, 0, 0, 0⟩ : Ope)
theorem ofG9_eq (l : List UInt8) : ofG9 l = if lenS (⟨⟨9 :: l⟩⟩ : ByteArray) = 1 then cond (!(opG (o9 (⟨⟨9 :: l⟩⟩ : ByteArray)))) badO (o9 (⟨⟨9 :: l⟩⟩ : ByteArray), 0) else badO := by
  unfold ofG9 o9
  simp only [lenD1, lenD8, strE, take8_W, take1_i, W1, W8, byte1, byte8, Nat.reduceAdd, Nat.add_zero]
  generalize opG _ = g
  have hl : 1 ≤ lenS (⟨⟨9 :: l⟩⟩ : ByteArray) := Nat.succ_pos _
  by_cases hn : lenS (⟨⟨9 :: l⟩⟩ : ByteArray) = 1
  · rw [if_pos hn, hn]; rfl
  · rw [if_neg hn]
    simp only [Bool.cond_eq_ite]
    repeat' split
    all_goals first | rfl | (exfalso; simp only [decide_eq_true_eq, decide_eq_false_iff_not, Bool.not_eq_true, Bool.not_eq_true', Bool.not_eq_false, Bool.not_eq_false'] at *; omega) | (exfalso; simp only [decide_eq_true_eq, decide_eq_false_iff_not, Bool.not_eq_true, Bool.not_eq_true', Bool.not_eq_false, Bool.not_eq_false'] at *; omega)
theorem opGR9 (s : ByteArray) : opG (o9 s) = opR (o9 s) := by
  show opG9 (o9 s) = opR9 (o9 s)
  unfold opG9 opR9; rw [ge3]
def o10 (s : ByteArray) : Ope := (⟨10, (byteD s 1), 0, 0, (W s 2), (W s 10)⟩ : Ope)
theorem ofG10_eq (l : List UInt8) : ofG10 l = if lenS (⟨⟨10 :: l⟩⟩ : ByteArray) = 18 then cond (!(opG (o10 (⟨⟨10 :: l⟩⟩ : ByteArray)))) badO (o10 (⟨⟨10 :: l⟩⟩ : ByteArray), 0) else badO := by
  unfold ofG10 o10
  simp only [lenD1, lenD8, strE, take8_W, take1_i, W1, W8, byte1, byte8, Nat.reduceAdd, Nat.add_zero]
  generalize opG _ = g
  have hl : 1 ≤ lenS (⟨⟨10 :: l⟩⟩ : ByteArray) := Nat.succ_pos _
  by_cases hn : lenS (⟨⟨10 :: l⟩⟩ : ByteArray) = 18
  · rw [if_pos hn, hn]; rfl
  · rw [if_neg hn]
    simp only [Bool.cond_eq_ite]
    repeat' split
    all_goals first | rfl | (exfalso; simp only [decide_eq_true_eq, decide_eq_false_iff_not, Bool.not_eq_true, Bool.not_eq_true', Bool.not_eq_false, Bool.not_eq_false'] at *; omega) | (exfalso; simp only [decide_eq_true_eq, decide_eq_false_iff_not, Bool.not_eq_true, Bool.not_eq_true', Bool.not_eq_false, Bool.not_eq_false'] at *; omega)
theorem opGR10 (s : ByteArray) : opG (o10 s) = opR (o10 s) := by
  show opG10 (o10 s) = opR10 (o10 s)
  unfold opG10 opR10; rw [ge3]
def o11 (s : ByteArray) : Ope := (⟨11, (byteD s 1), 0, 0, (W s 2), 0⟩ : Ope)
theorem ofG11_eq (l : List UInt8) : ofG11 l = if lenS (⟨⟨11 :: l⟩⟩ : ByteArray) = 10 then cond (!(opG (o11 (⟨⟨11 :: l⟩⟩ : ByteArray)))) badO (o11 (⟨⟨11 :: l⟩⟩ : ByteArray), 0) else badO := by
  unfold ofG11 o11
  simp only [lenD1, lenD8, strE, take8_W, take1_i, W1, W8, byte1, byte8, Nat.reduceAdd, Nat.add_zero]
  generalize opG _ = g
  have hl : 1 ≤ lenS (⟨⟨11 :: l⟩⟩ : ByteArray) := Nat.succ_pos _
  by_cases hn : lenS (⟨⟨11 :: l⟩⟩ : ByteArray) = 10
  · rw [if_pos hn, hn]; rfl
  · rw [if_neg hn]
    simp only [Bool.cond_eq_ite]
    repeat' split
    all_goals first | rfl | (exfalso; simp only [decide_eq_true_eq, decide_eq_false_iff_not, Bool.not_eq_true, Bool.not_eq_true', Bool.not_eq_false, Bool.not_eq_false'] at *; omega) | (exfalso; simp only [decide_eq_true_eq, decide_eq_false_iff_not, Bool.not_eq_true, Bool.not_eq_true', Bool.not_eq_false, Bool.not_eq_false'] at *; omega)
theorem opGR11 (s : ByteArray) : opG (o11 s) = opR (o11 s) := by
  show opG11 (o11 s) = opR11 (o11 s)
  unfold opG11 opR11; rw [ge3]
def o12 (s : ByteArray) : Ope := (⟨12, (byteD s 1), 0, 0, (W s 2), 0⟩ : Ope)
theorem ofG12_eq (l : List UInt8) : ofG12 l = if lenS (⟨⟨12 :: l⟩⟩ : ByteArray) = 10 then cond (!(opG (o12 (⟨⟨12 :: l⟩⟩ : ByteArray)))) badO (o12 (⟨⟨12 :: l⟩⟩ : ByteArray), 0) else badO := by
  unfold ofG12 o12
  simp only [lenD1, lenD8, strE, take8_W, take1_i, W1, W8, byte1, byte8, Nat.reduceAdd, Nat.add_zero]
  generalize opG _ = g
  have hl : 1 ≤ lenS (⟨⟨12 :: l⟩⟩ : ByteArray) := Nat.succ_pos _
  by_cases hn : lenS (⟨⟨12 :: l⟩⟩ : ByteArray) = 10
  · rw [if_pos hn, hn]; rfl
  · rw [if_neg hn]
    simp only [Bool.cond_eq_ite]
    repeat' split
    all_goals first | rfl | (exfalso; simp only [decide_eq_true_eq, decide_eq_false_iff_not, Bool.not_eq_true, Bool.not_eq_true', Bool.not_eq_false, Bool.not_eq_false'] at *; omega) | (exfalso; simp only [decide_eq_true_eq, decide_eq_false_iff_not, Bool.not_eq_true, Bool.not_eq_true', Bool.not_eq_false, Bool.not_eq_false'] at *; omega)
theorem opGR12 (s : ByteArray) : opG (o12 s) = opR (o12 s) := by
  show opG12 (o12 s) = opR12 (o12 s)
  unfold opG12 opR12; rw [ge3]
end Go.Proofs.YtehihnapbpcfbaaGreat.Fun
