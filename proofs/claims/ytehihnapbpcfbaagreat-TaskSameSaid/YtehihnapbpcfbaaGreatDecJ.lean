/- decode.Of and the document's Of come to one (printed by wip/decj.py). -/
import Derived.Test.YtehihnapbpcfbaaGreatDecL
namespace Go.Proofs.YtehihnapbpcfbaaGreat.Fun
open Go
set_option linter.unusedVariables false
/-- What bytes come to. -/
def ofN : Nat → List UInt8 → Ope × Int
  | 1, l => ofG1 l
  | 2, l => ofG2 l
  | 3, l => ofG3 l
  | 4, l => ofG4 l
  | 5, l => ofG5 l
  | 6, l => ofG6 l
  | 7, l => ofG7 l
  | 8, l => ofG8 l
  | 9, l => ofG9 l
  | 10, l => ofG10 l
  | 11, l => ofG11 l
  | 12, l => ofG12 l
  | _, _ => badO
def ofL : List UInt8 → Ope × Int
  | [] => badO
  | c :: l => ofN c.toNat l
def ofB (b : ByteArray) : Ope × Int := ofL b.data.toList
abbrev ofV (r : Ope × Int) : DV := .tup [.agg r.1.cs, I r.2]
theorem ofB_of (b : ByteArray) : Ck n_decode_Of [.str b] (ofV (ofB b)) := by
  obtain ⟨⟨l⟩⟩ := b
  cases l with
  | nil => exact ofG_bad2 rfl
  | cons c l =>
    have hb : byteD ⟨⟨c :: l⟩⟩ 0 = (c.toNat : Int) := rfl
    have ht : IntKind.i64.wrap (take1 ⟨⟨c :: l⟩⟩) = (c.toNat : Int) := by rw [take1_i, hb]
    by_cases hc : 1 ≤ c.toNat ∧ c.toNat ≤ 12
    · have hd : c.toNat = 1 ∨ c.toNat = 2 ∨ c.toNat = 3 ∨ c.toNat = 4 ∨ c.toNat = 5 ∨ c.toNat = 6 ∨ c.toNat = 7 ∨ c.toNat = 8 ∨ c.toNat = 9 ∨ c.toNat = 10 ∨ c.toNat = 11 ∨ c.toNat = 12 := by omega
      rcases hd with h | h | h | h | h | h | h | h | h | h | h | h
      · obtain rfl : c = 1 := UInt8.toNat_inj.1 (h.trans rfl)
        exact ofG1_ok l
      · obtain rfl : c = 2 := UInt8.toNat_inj.1 (h.trans rfl)
        exact ofG2_ok l
      · obtain rfl : c = 3 := UInt8.toNat_inj.1 (h.trans rfl)
        exact ofG3_ok l
      · obtain rfl : c = 4 := UInt8.toNat_inj.1 (h.trans rfl)
        exact ofG4_ok l
      · obtain rfl : c = 5 := UInt8.toNat_inj.1 (h.trans rfl)
        exact ofG5_ok l
      · obtain rfl : c = 6 := UInt8.toNat_inj.1 (h.trans rfl)
        exact ofG6_ok l
      · obtain rfl : c = 7 := UInt8.toNat_inj.1 (h.trans rfl)
        exact ofG7_ok l
      · obtain rfl : c = 8 := UInt8.toNat_inj.1 (h.trans rfl)
        exact ofG8_ok l
      · obtain rfl : c = 9 := UInt8.toNat_inj.1 (h.trans rfl)
        exact ofG9_ok l
      · obtain rfl : c = 10 := UInt8.toNat_inj.1 (h.trans rfl)
        exact ofG10_ok l
      · obtain rfl : c = 11 := UInt8.toNat_inj.1 (h.trans rfl)
        exact ofG11_ok l
      · obtain rfl : c = 12 := UInt8.toNat_inj.1 (h.trans rfl)
        exact ofG12_ok l
    · have e : ofB ⟨⟨c :: l⟩⟩ = badO := by
        show ofN c.toNat l = badO
        have : c.toNat = 0 ∨ 13 ≤ c.toNat := by omega
        rcases this with h | h
        · rw [h]; rfl
        · obtain ⟨z, hz⟩ : ∃ z, c.toNat = z + 13 := ⟨c.toNat - 13, by omega⟩
          rw [hz]; rfl
      rw [e]
      by_cases h : 1 ≤ c.toNat
      · exact ofG_bad1 (lenX c l) (by rw [ht]; exact decide_eq_true (by omega)) (by rw [ht]; rw [decide_eq_false (by omega)]; rfl)
      · exact ofG_bad0 (lenX c l) (by rw [ht]; exact decide_eq_false (by omega))
/-- None's, or a formed operation. -/
theorem ofB_form (b : ByteArray) : ofB b = badO ∨ ∃ o, ofB b = (o, 0) ∧ opG o = true := by
  obtain ⟨⟨l⟩⟩ := b
  cases l with
  | nil => exact .inl rfl
  | cons c l =>
    show ofN c.toNat l = badO ∨ ∃ o, ofN c.toNat l = (o, 0) ∧ opG o = true
    have key : ∀ (n k : Nat) (o : Ope), (if n = k then cond (!(opG o)) badO (o, 0) else badO) = badO ∨ ∃ o', (if n = k then cond (!(opG o)) badO (o, 0) else badO) = (o', 0) ∧ opG o' = true := fun n k o => by
      split
      · cases h : opG o with
        | false => exact .inl rfl
        | true => exact .inr ⟨o, rfl, h⟩
      · exact .inl rfl
    by_cases hc : 1 ≤ c.toNat ∧ c.toNat ≤ 12
    · have hd : c.toNat = 1 ∨ c.toNat = 2 ∨ c.toNat = 3 ∨ c.toNat = 4 ∨ c.toNat = 5 ∨ c.toNat = 6 ∨ c.toNat = 7 ∨ c.toNat = 8 ∨ c.toNat = 9 ∨ c.toNat = 10 ∨ c.toNat = 11 ∨ c.toNat = 12 := by omega
      rcases hd with h | h | h | h | h | h | h | h | h | h | h | h
      · rw [h]; show ofG1 l = badO ∨ ∃ o, ofG1 l = (o, 0) ∧ opG o = true; rw [ofG1_eq]; exact key _ _ _
      · rw [h]; show ofG2 l = badO ∨ ∃ o, ofG2 l = (o, 0) ∧ opG o = true; rw [ofG2_eq]; exact key _ _ _
      · rw [h]; show ofG3 l = badO ∨ ∃ o, ofG3 l = (o, 0) ∧ opG o = true; rw [ofG3_eq]; exact key _ _ _
      · rw [h]; show ofG4 l = badO ∨ ∃ o, ofG4 l = (o, 0) ∧ opG o = true; rw [ofG4_eq]; exact key _ _ _
      · rw [h]; show ofG5 l = badO ∨ ∃ o, ofG5 l = (o, 0) ∧ opG o = true; rw [ofG5_eq]; exact key _ _ _
      · rw [h]; show ofG6 l = badO ∨ ∃ o, ofG6 l = (o, 0) ∧ opG o = true; rw [ofG6_eq]; exact key _ _ _
      · rw [h]; show ofG7 l = badO ∨ ∃ o, ofG7 l = (o, 0) ∧ opG o = true; rw [ofG7_eq]; exact key _ _ _
      · rw [h]; show ofG8 l = badO ∨ ∃ o, ofG8 l = (o, 0) ∧ opG o = true; rw [ofG8_eq]; exact key _ _ _
      · rw [h]; show ofG9 l = badO ∨ ∃ o, ofG9 l = (o, 0) ∧ opG o = true; rw [ofG9_eq]; exact key _ _ _
      · rw [h]; show ofG10 l = badO ∨ ∃ o, ofG10 l = (o, 0) ∧ opG o = true; rw [ofG10_eq]; exact key _ _ _
      · rw [h]; show ofG11 l = badO ∨ ∃ o, ofG11 l = (o, 0) ∧ opG o = true; rw [ofG11_eq]; exact key _ _ _
      · rw [h]; show ofG12 l = badO ∨ ∃ o, ofG12 l = (o, 0) ∧ opG o = true; rw [ofG12_eq]; exact key _ _ _
    · refine .inl ?_
      have : c.toNat = 0 ∨ 13 ≤ c.toNat := by omega
      rcases this with h | h
      · rw [h]; rfl
      · obtain ⟨z, hz⟩ : ∃ z, c.toNat = z + 13 := ⟨c.toNat - 13, by omega⟩
        rw [hz]; rfl
theorem opGR (o : Ope) : opG o = opR o := by
  obtain ⟨c, d, f, h, x, y⟩ := o
  by_cases hc : 1 ≤ c ∧ c ≤ 12
  · have hd : c = 1 ∨ c = 2 ∨ c = 3 ∨ c = 4 ∨ c = 5 ∨ c = 6 ∨ c = 7 ∨ c = 8 ∨ c = 9 ∨ c = 10 ∨ c = 11 ∨ c = 12 := by omega
    rcases hd with rfl | rfl | rfl | rfl | rfl | rfl | rfl | rfl | rfl | rfl | rfl | rfl
    · show opG1 _ = opR1 _; unfold opG1 opR1; rw [ge3]
    · show opG2 _ = opR2 _; unfold opG2 opR2; rw [ge3]
    · show opG3 _ = opR3 _; unfold opG3 opR3; rw [ge3]
    · show opG4 _ = opR4 _; unfold opG4 opR4; rw [ge3]
    · show opG5 _ = opR5 _; unfold opG5 opR5; rw [ge3]
    · show opG6 _ = opR6 _; unfold opG6 opR6; rw [ge3]
    · show opG7 _ = opR7 _; unfold opG7 opR7; rw [ge3]
    · show opG8 _ = opR8 _; unfold opG8 opR8; rw [ge3]
    · show opG9 _ = opR9 _; unfold opG9 opR9; rw [ge3]
    · show opG10 _ = opR10 _; unfold opG10 opR10; rw [ge3]
    · show opG11 _ = opR11 _; unfold opG11 opR11; rw [ge3]
    · show opG12 _ = opR12 _; unfold opG12 opR12; rw [ge3]
  · have e : opR ⟨c, d, f, h, x, y⟩ = false := by
      show opRT c.toNat _ = false
      have : c.toNat = 0 ∨ 13 ≤ c.toNat := by omega
      rcases this with h | h
      · rw [h]; rfl
      · obtain ⟨z, hz⟩ : ∃ z, c.toNat = z + 13 := ⟨c.toNat - 13, by omega⟩
        rw [hz]; rfl
    rw [e]
    unfold opG
    by_cases h1 : c ≥ 1
    · rw [decide_eq_true h1, decide_eq_false (show ¬ c ≤ 12 from fun q => hc ⟨h1, q⟩)]; rfl
    · rw [decide_eq_false h1]; rfl
end Go.Proofs.YtehihnapbpcfbaaGreat.Fun
