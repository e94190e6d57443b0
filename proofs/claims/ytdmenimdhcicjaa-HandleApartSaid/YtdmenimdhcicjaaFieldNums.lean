/- Plain facts: the words of states and of handles, as whole numbers. -/
import Derived.Test.YtdmenimdhcicjaaFieldLists
namespace Go.Proofs.Ytdmenimdhcicjaa.FN
open Go Go.Proofs.Ytdmenimdhcicjaa.FB Go.Proofs.Ytdmenimdhcicjaa.FL
set_option linter.unusedVariables false
set_option linter.unusedSimpArgs false
theorem bitn (w : BitVec 64) (j : Nat) : w.toNat.testBit j = w.getLsbD j := BitVec.testBit_toNat w
/-- A number put above all that a word has. -/
theorem pt_low {a n : Nat} (hf : Fm (a : Int) (n : Int)) (w v : BitVec 64) (hw : w.toNat < 2 ^ a) (hv : v.toNat < 2 ^ n) : (pt ((a : Int), (n : Int)) w v).toNat = v.toNat * 2 ^ a + w.toNat := by
  rw [← Nat.shiftLeft_eq, Nat.shiftLeft_add_eq_or_of_lt hw]
  have hf' := hf
  unfold Fm at hf'
  apply Nat.eq_of_testBit_eq
  intro j
  rw [bitn, bit_pt (f := ((a : Int), (n : Int))) hf, Nat.testBit_or, Nat.testBit_shiftLeft]
  simp only [Int.toNat_natCast]
  by_cases h : In ((a : Int), (n : Int)) j
  · rw [if_pos h]
    unfold In at h
    have h1 : w.toNat.testBit j = false := Nat.testBit_lt_two_pow (Nat.lt_of_lt_of_le hw (Nat.pow_le_pow_right (by omega) (by omega)))
    rw [h1, bitn]
    simp
    intro; omega
  · rw [if_neg h, ← bitn]
    unfold In at h
    simp only at h
    by_cases h2 : a ≤ j
    · have h3 : v.toNat.testBit (j - a) = false := Nat.testBit_lt_two_pow (Nat.lt_of_lt_of_le hv (Nat.pow_le_pow_right (by omega) (by omega)))
      rw [h3]; simp
    · have h4 : decide (j ≥ a) = false := decide_eq_false h2
      rw [h4]; simp
theorem gt_num {a n : Nat} (hf : Fm (a : Int) (n : Int)) (w : BitVec 64) : u (gt ((a : Int), (n : Int)) w) = u w / ((2 ^ a : Nat) : Int) % ((2 ^ n : Nat) : Int) := by
  unfold Fm at hf
  unfold u gt FB.get
  rw [BitVec.toNat_and, BitVec.toNat_ushiftRight]
  simp only [Int.toNat_natCast]
  rw [toNat_ones (by omega), Nat.and_two_pow_sub_one_eq_mod, Nat.shiftRight_eq_div_pow, Int.natCast_emod, Int.natCast_ediv]
theorem ons_num {a n : Nat} (hf : Fm (a : Int) (n : Int)) : u (ons ((a : Int), (n : Int))) = ((2 ^ n : Nat) : Int) - 1 := by
  unfold Fm at hf
  unfold u ons
  simp only [Int.toNat_natCast]
  rw [toNat_ones (by omega)]
  have : 0 < 2 ^ n := Nat.pow_pos (by omega)
  omega
theorem word_num {x : Int} (h0 : 0 ≤ x) (h1 : x < 18446744073709551616) : ∃ b : BitVec 64, u b = x ∧ (b.toNat : Int) = x := by
  have := u_ofInt ⟨h0, h1⟩
  exact ⟨_, this.symm, this.symm⟩
/-! ### States -/
def stl : List Fld := [(0, 30), (30, 2), (32, 2)]
theorem stl_lay : Lay stl := by decide
def StF (g m t : Int) : Prop := 0 ≤ g ∧ g ≤ 1073741823 ∧ 0 ≤ m ∧ m ≤ 3 ∧ 0 ≤ t ∧ t ≤ 2
instance (g m t : Int) : Decidable (StF g m t) := by unfold StF; infer_instance
theorem st_pack {g m t : Int} (h : 0 ≤ g ∧ g ≤ 1073741823 ∧ 0 ≤ m ∧ m ≤ 3 ∧ 0 ≤ t ∧ t ≤ 3) : ∃ vs : List (BitVec 64), vs.map u = [g, m, t] ∧ packed stl vs = (g + m * 1073741824 + t * 4294967296, 0) := by
  obtain ⟨G, hG, hG'⟩ := word_num (x := g) (by omega) (by omega)
  obtain ⟨M, hM, hM'⟩ := word_num (x := m) (by omega) (by omega)
  obtain ⟨T, hT, hT'⟩ := word_num (x := t) (by omega) (by omega)
  refine ⟨[G, M, T], by simp [hG, hM, hT], ?_⟩
  unfold packed
  rw [if_pos ⟨stl_lay, rfl⟩]
  have f1 : Fm ((0 : Nat) : Int) ((30 : Nat) : Int) := by decide
  have f2 : Fm ((30 : Nat) : Int) ((2 : Nat) : Int) := by decide
  have f3 : Fm ((32 : Nat) : Int) ((2 : Nat) : Int) := by decide
  have o1 := ons_num f1
  have o2 := ons_num f2
  have o3 := ons_num f3
  have p1 := pt_low f1 0#64 G (by simp) (by omega)
  have p2 := pt_low f2 (pt (((0 : Nat) : Int), ((30 : Nat) : Int)) 0#64 G) M (by rw [p1]; simp; omega) (by omega)
  have p3 := pt_low f3 (pt (((30 : Nat) : Int), ((2 : Nat) : Int)) (pt (((0 : Nat) : Int), ((30 : Nat) : Int)) 0#64 G) M) T (by rw [p2, p1]; simp; omega) (by omega)
  have hk : pk 0#64 stl [G, M, T] = some (pt (((32 : Nat) : Int), ((2 : Nat) : Int)) (pt (((30 : Nat) : Int), ((2 : Nat) : Int)) (pt (((0 : Nat) : Int), ((30 : Nat) : Int)) 0#64 G) M) T) := by
    show (if u (ons (((0 : Nat) : Int), ((30 : Nat) : Int))) < u G then none else if u (ons (((30 : Nat) : Int), ((2 : Nat) : Int))) < u M then none else if u (ons (((32 : Nat) : Int), ((2 : Nat) : Int))) < u T then none else some _) = _
    rw [if_neg (by rw [o1, hG]; simp; omega), if_neg (by rw [o2, hM]; simp; omega), if_neg (by rw [o3, hT]; simp; omega)]
    rfl
  rw [hk]
  simp only [Prod.mk.injEq, and_true]
  unfold u
  rw [p3, p2, p1]
  simp
  omega
theorem left_zero {l : List Fld} (hl : ∀ f ∈ l, Fm f.1 f.2) (w : BitVec 64) : u (left w l) = 0 ↔ ∀ j, j < 64 → w.getLsbD j = true → ∃ f ∈ l, In f j := by
  rw [u_eq_zero]
  constructor
  · intro h j hj hb
    have := congrArg (fun b : BitVec 64 => b.getLsbD j) h
    simp only [bit_left hl w j hj, hb, BitVec.getLsbD_zero] at this
    simpa using this
  · intro h
    apply ext
    intro j hj
    rw [bit_left hl w j hj, BitVec.getLsbD_zero]
    cases hb : w.getLsbD j with
    | false => rfl
    | true =>
      have := h j hj hb
      simp [this]
theorem lt_pow_iff (w : BitVec 64) (n : Nat) : w.toNat < 2 ^ n ↔ ∀ j, j < 64 → w.getLsbD j = true → j < n := by
  constructor
  · intro h j hj hb
    apply Nat.lt_of_not_le
    intro hn
    rw [← bitn, Nat.testBit_lt_two_pow (Nat.lt_of_lt_of_le h (Nat.pow_le_pow_right (by omega) hn))] at hb
    exact absurd hb (by simp)
  · intro h
    apply Nat.lt_of_not_le
    intro hge
    obtain ⟨i, hi, ht⟩ := Nat.exists_ge_and_testBit_of_ge_two_pow hge
    rw [bitn] at ht
    have h64 : i < 64 := by
      apply Nat.lt_of_not_le
      intro hh
      rw [BitVec.getLsbD_of_ge _ _ hh] at ht
      exact absurd ht (by simp)
    have := h i h64 ht
    omega
theorem st_parted (w : BitVec 64) : parted stl w = if u w < 17179869184 then ([u w % 1073741824, u w / 1073741824 % 4, u w / 4294967296 % 4], 0) else ([], 10) := by
  unfold parted
  rw [if_pos stl_lay]
  have h1 : u (left w stl) = 0 ↔ u w < 17179869184 := by
    rw [left_zero stl_lay.1]
    have := lt_pow_iff w 34
    have e : u w < 17179869184 ↔ w.toNat < 2 ^ 34 := by unfold u; omega
    rw [e, this]
    constructor
    · intro h j hj hb
      obtain ⟨f, hf, hin⟩ := h j hj hb
      unfold In at hin
      simp [stl] at hf
      rcases hf with rfl | rfl | rfl <;> simp at hin <;> omega
    · intro h j hj hb
      have := h j hj hb
      unfold In
      by_cases c1 : j < 30
      · exact ⟨(0, 30), by simp [stl], by simp; omega⟩
      · by_cases c2 : j < 32
        · exact ⟨(30, 2), by simp [stl], by simp; omega⟩
        · exact ⟨(32, 2), by simp [stl], by simp; omega⟩
  by_cases h : u w < 17179869184
  · rw [if_pos (h1.2 h), if_pos h]
    have e1 := gt_num (a := 0) (n := 30) (by decide) w
    have e2 := gt_num (a := 30) (n := 2) (by decide) w
    have e3 := gt_num (a := 32) (n := 2) (by decide) w
    show ([u (gt (((0 : Nat) : Int), ((30 : Nat) : Int)) w), u (gt (((30 : Nat) : Int), ((2 : Nat) : Int)) w), u (gt (((32 : Nat) : Int), ((2 : Nat) : Int)) w)], (0 : Int)) = _
    rw [e1, e2, e3]
    simp
  · rw [if_neg (fun e => h (h1.1 e)), if_neg h]
/-! ### Handles -/
def hdl : List Fld := [(0, 20), (20, 30), (50, 6), (58, 6)]
theorem hdl_lay : Lay hdl := by decide
theorem hd_pack {i g t s : Int} (h : 0 ≤ i ∧ i < 1048576 ∧ 0 ≤ g ∧ g ≤ 1073741823 ∧ 0 ≤ t ∧ t < 64 ∧ 0 ≤ s ∧ s < 64) :
    ∃ vs : List (BitVec 64), vs.map u = [i, g, t, s] ∧ packed hdl vs = (i + g * 1048576 + t * 1125899906842624 + s * 288230376151711744, 0) := by
  obtain ⟨I, hI, hI'⟩ := word_num (x := i) (by omega) (by omega)
  obtain ⟨G, hG, hG'⟩ := word_num (x := g) (by omega) (by omega)
  obtain ⟨T, hT, hT'⟩ := word_num (x := t) (by omega) (by omega)
  obtain ⟨S, hS, hS'⟩ := word_num (x := s) (by omega) (by omega)
  refine ⟨[I, G, T, S], by simp [hI, hG, hT, hS], ?_⟩
  unfold packed
  rw [if_pos ⟨hdl_lay, rfl⟩]
  have f1 : Fm ((0 : Nat) : Int) ((20 : Nat) : Int) := by decide
  have f2 : Fm ((20 : Nat) : Int) ((30 : Nat) : Int) := by decide
  have f3 : Fm ((50 : Nat) : Int) ((6 : Nat) : Int) := by decide
  have f4 : Fm ((58 : Nat) : Int) ((6 : Nat) : Int) := by decide
  have o1 := ons_num f1
  have o2 := ons_num f2
  have o3 := ons_num f3
  have o4 := ons_num f4
  obtain ⟨W1, e1⟩ : ∃ x, x = pt (((0 : Nat) : Int), ((20 : Nat) : Int)) 0#64 I := ⟨_, rfl⟩
  obtain ⟨W2, e2⟩ : ∃ x, x = pt (((20 : Nat) : Int), ((30 : Nat) : Int)) W1 G := ⟨_, rfl⟩
  obtain ⟨W3, e3⟩ : ∃ x, x = pt (((50 : Nat) : Int), ((6 : Nat) : Int)) W2 T := ⟨_, rfl⟩
  have p1 := pt_low f1 0#64 I (by simp) (by omega)
  rw [← e1] at p1
  have p2 := pt_low f2 W1 G (by rw [p1]; simp; omega) (by omega)
  rw [← e2] at p2
  have p3 := pt_low f3 W2 T (by rw [p2, p1]; simp; omega) (by omega)
  rw [← e3] at p3
  have p4 := pt_low f4 W3 S (by rw [p3, p2, p1]; simp; omega) (by omega)
  have hk : pk 0#64 hdl [I, G, T, S] = some (pt (((58 : Nat) : Int), ((6 : Nat) : Int)) W3 S) := by
    rw [e3, e2, e1]
    show (if u (ons (((0 : Nat) : Int), ((20 : Nat) : Int))) < u I then none else if u (ons (((20 : Nat) : Int), ((30 : Nat) : Int))) < u G then none else if u (ons (((50 : Nat) : Int), ((6 : Nat) : Int))) < u T then none else if u (ons (((58 : Nat) : Int), ((6 : Nat) : Int))) < u S then none else some _) = _
    rw [if_neg (by rw [o1, hI]; simp; omega), if_neg (by rw [o2, hG]; simp; omega), if_neg (by rw [o3, hT]; simp; omega), if_neg (by rw [o4, hS]; simp; omega)]
    rfl
  rw [hk]
  simp only [Prod.mk.injEq, and_true]
  unfold u
  rw [p4, p3, p2, p1]
  simp
  omega
theorem hd_parted (w : BitVec 64) : parted hdl w = if u w / 72057594037927936 % 4 = 0 then ([u w % 1048576, u w / 1048576 % 1073741824, u w / 1125899906842624 % 64, u w / 288230376151711744], 0) else ([], 10) := by
  unfold parted
  rw [if_pos hdl_lay]
  have hb : ∀ j, j < 64 → w.getLsbD j = (w.toNat / 2 ^ j % 2 == 1) := fun j hj => by
    rw [← bitn, Nat.testBit_eq_decide_div_mod_eq]
    simp [BEq.beq]
  have h1 : u (left w hdl) = 0 ↔ u w / 72057594037927936 % 4 = 0 := by
    rw [left_zero hdl_lay.1]
    have b56 := hb 56 (by omega)
    have b57 := hb 57 (by omega)
    have e : u w / 72057594037927936 % 4 = 0 ↔ (w.getLsbD 56 = false ∧ w.getLsbD 57 = false) := by
      rw [b56, b57]
      unfold u
      simp
      omega
    rw [e]
    constructor
    · intro h
      constructor
      · cases hx : w.getLsbD 56 with
        | false => rfl
        | true =>
          obtain ⟨f, hf, hin⟩ := h 56 (by omega) hx
          unfold In at hin
          simp [hdl] at hf
          rcases hf with rfl | rfl | rfl | rfl <;> simp at hin
      · cases hx : w.getLsbD 57 with
        | false => rfl
        | true =>
          obtain ⟨f, hf, hin⟩ := h 57 (by omega) hx
          unfold In at hin
          simp [hdl] at hf
          rcases hf with rfl | rfl | rfl | rfl <;> simp at hin
    · rintro ⟨h56, h57⟩ j hj hx
      unfold In
      by_cases c1 : j < 20
      · exact ⟨(0, 20), by simp [hdl], by simp; omega⟩
      · by_cases c2 : j < 50
        · exact ⟨(20, 30), by simp [hdl], by simp; omega⟩
        · by_cases c3 : j < 56
          · exact ⟨(50, 6), by simp [hdl], by simp; omega⟩
          · by_cases c4 : j = 56
            · subst c4; rw [h56] at hx; cases hx
            · by_cases c5 : j = 57
              · subst c5; rw [h57] at hx; cases hx
              · exact ⟨(58, 6), by simp [hdl], by simp; omega⟩
  by_cases h : u w / 72057594037927936 % 4 = 0
  · rw [if_pos (h1.2 h), if_pos h]
    have e1 := gt_num (a := 0) (n := 20) (by decide) w
    have e2 := gt_num (a := 20) (n := 30) (by decide) w
    have e3 := gt_num (a := 50) (n := 6) (by decide) w
    have e4 := gt_num (a := 58) (n := 6) (by decide) w
    have hlt := u_lt w
    have hnn := u_nonneg w
    show ([u (gt (((0 : Nat) : Int), ((20 : Nat) : Int)) w), u (gt (((20 : Nat) : Int), ((30 : Nat) : Int)) w), u (gt (((50 : Nat) : Int), ((6 : Nat) : Int)) w), u (gt (((58 : Nat) : Int), ((6 : Nat) : Int)) w)], (0 : Int)) = _
    rw [e1, e2, e3, e4]
    simp
    omega
  · rw [if_neg (fun e => h (h1.1 e)), if_neg h]
end Go.Proofs.Ytdmenimdhcicjaa.FN
