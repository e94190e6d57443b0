/- What decode.Of tells, in plain lists: the operation whose bytes they are, or that they are none's. -/
import Derived.Test.YtdmiingneodcbaaDDecodeOf
namespace Go.Proofs.Ytdmiingneodcbaa.DDecodeOf
open Go Go.RowKit Go.Proofs.Ytdmiingneodcbaa.PDecodeOf Go.Proofs.YtdmiingneodcbaaW.PrintWords Go.Proofs.YtdmiingneodcbaaW.PrintLast Go.Proofs.YtdmiingneodcbaaW.PrintMore Go.Proofs.Ytdmiingneodcbaa.FB Giv4
set_option linter.unusedVariables false
set_option linter.unusedSimpArgs false
theorem val_eight {x : Int} (h : 0 ≤ x ∧ x < 18446744073709551616) : val (Giv3.eightB x) = x := by
  simp only [Giv3.eightB, val]
  omega
theorem eight_val : ∀ {l : List Int}, l.length = 8 → (∀ y ∈ l, 0 ≤ y ∧ y < 256) → Giv3.eightB (val l) = l := by
  intro l hl hr
  match l, hl with
  | [a, b, c, d, e, f, g, h], _ =>
    have ha := hr a (by simp)
    have hb := hr b (by simp)
    have hc := hr c (by simp)
    have hd := hr d (by simp)
    have he := hr e (by simp)
    have hf := hr f (by simp)
    have hg := hr g (by simp)
    have hh := hr h (by simp)
    simp only [Giv3.eightB, val, List.cons.injEq, and_true]
    omega
def p8 (is : Bool) (x : Int) : List Int := if is = true then Giv3.eightB x else []
def p1 (is : Bool) (x : Int) : List Int := if is = true then [x % 256] else []
theorem byt_eq (c d f h a b : Int) (xh xd xf xa xb : Bool) : Giv3.byt c d f h a b xh xd xf xa xb = c % 256 :: (p8 xh h ++ (p1 xd d ++ (p1 xf f ++ (p8 xa a ++ (p8 xb b ++ []))))) := by
  unfold Giv3.byt Giv3.mid Giv3.put8 p8 p1
  cases xh <;> cases xd <;> cases xf <;> cases xa <;> cases xb <;> simp
theorem tk8_app {is : Bool} {x : Int} (l : List Int) (bad : Bool) (hx : 0 ≤ x ∧ x < 18446744073709551616) (hz : is = true ∨ x = 0) : tk 8 is (p8 is x ++ l) bad = (x, l, bad) := by
  unfold tk p8
  cases is
  · rw [if_neg (by simp), if_neg (by simp)]
    simp at hz
    rw [hz]
    rfl
  · rw [if_pos rfl, if_pos rfl, if_neg (by simp [Giv3.eightB])]
    have e1 : (Giv3.eightB x ++ l).take 8 = Giv3.eightB x := by rw [List.take_append_of_le_length (by simp [Giv3.eightB])]; rfl
    have e2 : (Giv3.eightB x ++ l).drop 8 = l := by rw [List.drop_append_of_le_length (by simp [Giv3.eightB])]; rfl
    rw [e1, e2, val_eight hx]
theorem tk1_app {is : Bool} {x : Int} (l : List Int) (bad : Bool) (hx : 0 ≤ x ∧ x ≤ 255) (hz : is = true ∨ x = 0) : tk 1 is (p1 is x ++ l) bad = (x, l, bad) := by
  unfold tk p1
  cases is
  · rw [if_neg (by simp), if_neg (by simp)]
    simp at hz
    rw [hz]
    rfl
  · rw [if_pos rfl, if_pos rfl, if_neg (by simp)]
    simp [val]
    omega
def Rg (h a b : Int) : Prop := (0 ≤ h ∧ h < 18446744073709551616) ∧ (0 ≤ a ∧ a < 18446744073709551616) ∧ (0 ≤ b ∧ b < 18446744073709551616)
def bytO (c d f h a b : Int) : List Int := Giv3.byt c d f h a b (Giv.askh c) (Giv.askd c) (Giv.askf c) (Giv.aska c) (Giv.askb c)
theorem ofL_byt {c d f h a b : Int} (hF : Giv.OpF c d f h a b) (r : Rg h a b) : ofL (bytO c d f h a b) = (c, d, f, h, a, b, 0) := by
  obtain ⟨⟨c1, c2, d1, d2, f1, f2⟩, gh, gd, gf, ga, gb⟩ := hF
  have ec : c % 256 = c := by omega
  have e1 : tk 1 true (bytO c d f h a b) false = (c, p8 (Giv.askh c) h ++ (p1 (Giv.askd c) d ++ (p1 (Giv.askf c) f ++ (p8 (Giv.aska c) a ++ (p8 (Giv.askb c) b ++ [])))), false) := by
    unfold bytO
    rw [byt_eq, ec]
    exact tk1_app (is := true) (x := c) _ _ (by omega) (Or.inl rfl) |> fun q => by simpa [p1, ec] using q
  unfold ofL
  simp only [e1]
  rw [tk8_app _ _ r.1 gh]
  simp only
  rw [tk1_app _ _ ⟨d1, d2⟩ gd]
  simp only
  rw [tk1_app _ _ (by omega) gf]
  simp only
  rw [tk8_app _ _ r.2.1 ga]
  simp only
  rw [tk8_app _ _ r.2.2 gb]
  rw [if_pos ⟨c1, c2⟩, if_pos ⟨rfl, rfl, ⟨c1, c2, d1, d2, f1, f2⟩, gh, gd, gf, ga, gb⟩]
theorem tk8_inv {is : Bool} {l : List Int} {bad : Bool} (hl : ∀ y ∈ l, 0 ≤ y ∧ y < 256) (h : (tk 8 is l bad).2.2 = false) :
    bad = false ∧ l = p8 is (tk 8 is l bad).1 ++ (tk 8 is l bad).2.1 ∧ (0 ≤ (tk 8 is l bad).1 ∧ (tk 8 is l bad).1 < 18446744073709551616) := by
  unfold tk p8 at *
  cases is
  · simp at h ⊢
    exact h
  · simp only [if_true] at h ⊢
    by_cases hs : l.length < 8
    · rw [if_pos hs] at h
      exact absurd h (by simp)
    · rw [if_neg hs] at h ⊢
      have h8 : (l.take 8).length = 8 := by rw [List.length_take]; omega
      have hr : ∀ y ∈ l.take 8, 0 ≤ y ∧ y < 256 := fun y hy => hl y (List.mem_of_mem_take hy)
      refine ⟨h, ?_, ?_⟩
      · simp only
        rw [eight_val h8 hr, List.take_append_drop]
      · have := val_range _ hr
        rw [h8] at this
        exact this
theorem tk1_inv {is : Bool} {l : List Int} {bad : Bool} (hl : ∀ y ∈ l, 0 ≤ y ∧ y < 256) (h : (tk 1 is l bad).2.2 = false) :
    bad = false ∧ l = p1 is (tk 1 is l bad).1 ++ (tk 1 is l bad).2.1 := by
  unfold tk p1 at *
  cases is
  · simp at h ⊢
    exact h
  · simp only [if_true] at h ⊢
    match l, hl with
    | [], _ => simp at h
    | x :: t, hl =>
      have hx := hl x (by simp)
      simp [val] at h ⊢
      exact ⟨h, by omega⟩
theorem tk_range {n : Nat} {is : Bool} {l : List Int} {bad : Bool} (hl : ∀ y ∈ l, 0 ≤ y ∧ y < 256) : ∀ y ∈ (tk n is l bad).2.1, 0 ≤ y ∧ y < 256 := by
  intro y hy
  unfold tk at hy
  split at hy
  · split at hy
    · exact hl y hy
    · exact hl y (List.mem_of_mem_drop hy)
  · exact hl y hy
theorem ofL_inv {l : List Int} (hl : ∀ y ∈ l, 0 ≤ y ∧ y < 256) : ofL l = (0, 0, 0, 0, 0, 0, 2) ∨ ∃ c d f h a b, ofL l = (c, d, f, h, a, b, 0) ∧ Giv.OpF c d f h a b ∧ Rg h a b ∧ l = bytO c d f h a b := by
  unfold ofL
  simp only
  split
  · rename_i hc
    split
    · rename_i hq
      obtain ⟨q1, q2, q3⟩ := hq
      right
      refine ⟨_, _, _, _, _, _, rfl, q3, ?_⟩
      have r1 := tk_range (n := 1) (is := true) (bad := false) hl
      generalize t1e : tk 1 true l false = t1 at *
      have r2 := tk_range (n := 8) (is := Giv.askh t1.1) (bad := t1.2.2) r1
      generalize t2e : tk 8 (Giv.askh t1.1) t1.2.1 t1.2.2 = t2 at *
      have r3 := tk_range (n := 1) (is := Giv.askd t1.1) (bad := t2.2.2) r2
      generalize t3e : tk 1 (Giv.askd t1.1) t2.2.1 t2.2.2 = t3 at *
      have r4 := tk_range (n := 1) (is := Giv.askf t1.1) (bad := t3.2.2) r3
      generalize t4e : tk 1 (Giv.askf t1.1) t3.2.1 t3.2.2 = t4 at *
      have r5 := tk_range (n := 8) (is := Giv.aska t1.1) (bad := t4.2.2) r4
      generalize t5e : tk 8 (Giv.aska t1.1) t4.2.1 t4.2.2 = t5 at *
      obtain ⟨b6, l6, g6⟩ := tk8_inv (is := Giv.askb t1.1) (bad := t5.2.2) r5 q1
      obtain ⟨b5, l5, g5⟩ := tk8_inv (is := Giv.aska t1.1) (bad := t4.2.2) r4 (by rw [t5e]; exact b6)
      obtain ⟨b4, l4⟩ := tk1_inv (is := Giv.askf t1.1) (bad := t3.2.2) r3 (by rw [t4e]; exact b5)
      obtain ⟨b3, l3⟩ := tk1_inv (is := Giv.askd t1.1) (bad := t2.2.2) r2 (by rw [t3e]; exact b4)
      obtain ⟨b2, l2, g2⟩ := tk8_inv (is := Giv.askh t1.1) (bad := t1.2.2) r1 (by rw [t2e]; exact b3)
      obtain ⟨_, l1⟩ := tk1_inv (is := true) (bad := false) hl (by rw [t1e]; exact b2)
      rw [t5e] at l5 g5
      rw [t4e] at l4
      rw [t3e] at l3
      rw [t2e] at l2 g2
      rw [t1e] at l1
      generalize tk 8 (Giv.askb t1.1) t5.2.1 t5.2.2 = t6 at *
      refine ⟨⟨g2, g5, g6⟩, ?_⟩
      unfold bytO
      rw [byt_eq]
      rw [q2] at l6
      rw [l1, l2, l3, l4, l5, l6]
      simp only [p1, if_true, List.cons_append, List.nil_append, List.append_nil]
    · exact Or.inl rfl
  · exact Or.inl rfl
theorem bytO_len (c d f h a b : Int) : (bytO c d f h a b).length = 1 + (if Giv.askh c = true then 8 else 0) + (if Giv.askd c = true then 1 else 0) + (if Giv.askf c = true then 1 else 0) + (if Giv.aska c = true then 8 else 0) + (if Giv.askb c = true then 8 else 0) := by
  unfold bytO
  rw [byt_eq]
  unfold p8 p1
  cases Giv.askh c <;> cases Giv.askd c <;> cases Giv.askf c <;> cases Giv.aska c <;> cases Giv.askb c <;> simp [Giv3.eightB]
theorem bytO_head (c d f h a b : Int) : ∃ t, bytO c d f h a b = (c % 256) :: t := ⟨_, byt_eq ..⟩
theorem bytO_code {c d f h a b c' d' f' h' a' b' : Int} (hF : Giv.OpF c d f h a b) (hG : Giv.OpF c' d' f' h' a' b') {x y : List Int} (e : bytO c d f h a b ++ x = bytO c' d' f' h' a' b' ++ y) : c = c' := by
  obtain ⟨t, ht⟩ := bytO_head c d f h a b
  obtain ⟨t', ht'⟩ := bytO_head c' d' f' h' a' b'
  rw [ht, ht'] at e
  simp at e
  have := hF.1
  have := hG.1
  omega
theorem ofL_none {l : List Int} (hl : ∀ y ∈ l, 0 ≤ y ∧ y < 256) (h : ∀ c d f h a b, Giv.OpF c d f h a b → l ≠ bytO c d f h a b) : ofL l = (0, 0, 0, 0, 0, 0, 2) := by
  rcases ofL_inv hl with e | ⟨c, d, f, h', a, b, _, hF, _, e⟩
  · exact e
  · exact absurd e (h _ _ _ _ _ _ hF)
theorem nums_str {l : List Int} (hl : ∀ y ∈ l, 0 ≤ y ∧ y < 256) : Giv4.nums (strOfNums l) = l := by
  unfold Giv4.nums strOfNums
  simp only [List.map_map]
  conv => rhs; rw [← List.map_id l]
  apply List.map_congr_left
  intro x hx
  have := hl x hx
  simp
  omega
theorem bytO_range (c d f h a b : Int) : ∀ y ∈ bytO c d f h a b, 0 ≤ y ∧ y < 256 := by
  have h8 : ∀ (is : Bool) (x : Int), ∀ y ∈ p8 is x, 0 ≤ y ∧ y < 256 := by
    intro is x y hy
    unfold p8 at hy
    split at hy
    · simp [Giv3.eightB] at hy
      omega
    · simp at hy
  have h1 : ∀ (is : Bool) (x : Int), ∀ y ∈ p1 is x, 0 ≤ y ∧ y < 256 := by
    intro is x y hy
    unfold p1 at hy
    split at hy
    · simp at hy
      omega
    · simp at hy
  intro y hy
  unfold bytO at hy
  rw [byt_eq] at hy
  simp only [List.mem_cons, List.mem_append, List.not_mem_nil, or_false] at hy
  rcases hy with h | h | h | h | h | h
  · omega
  · exact h8 _ _ y h
  · exact h1 _ _ y h
  · exact h1 _ _ y h
  · exact h8 _ _ y h
  · exact h8 _ _ y h
theorem nums_take (s : ByteArray) (m : Nat) : Giv4.nums (s.extract 0 m) = (Giv4.nums s).take m := by
  unfold Giv4.nums
  rw [← List.map_take]
  congr 1
  have e : (s.extract 0 m).data = s.data.extract 0 m := ByteArray.data_extract
  rw [e, Array.toList_extract, List.extract_eq_take_drop]
  simp
end Go.Proofs.Ytdmiingneodcbaa.DDecodeOf
