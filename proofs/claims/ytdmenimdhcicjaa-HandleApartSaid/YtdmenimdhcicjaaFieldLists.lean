/- Plain facts on layouts: which are formed, what is packed, what is split; words of 64 bits, no program in sight. -/
import Derived.Test.YtdmenimdhcicjaaFieldBits
namespace Go.Proofs.Ytdmenimdhcicjaa.FL
open Go Go.Proofs.Ytdmenimdhcicjaa.FB
set_option linter.unusedVariables false
set_option linter.unusedSimpArgs false
abbrev Fld := Int × Int
def In (f : Fld) (j : Nat) : Prop := f.1 ≤ (j : Int) ∧ (j : Int) < f.1 + f.2
instance (f : Fld) (j : Nat) : Decidable (In f j) := by unfold In; infer_instance
def Dj (f g : Fld) : Prop := ¬ (f.1 < g.1 + g.2 ∧ g.1 < f.1 + f.2)
instance (f g : Fld) : Decidable (Dj f g) := by unfold Dj; infer_instance
theorem Dj.symm {f g : Fld} (h : Dj f g) : Dj g f := by unfold Dj at *; omega
theorem dj_iff {f g : Fld} (hf : Fm f.1 f.2) (hg : Fm g.1 g.2) : Dj f g ↔ ∀ j, j < 64 → In f j → ¬ In g j := by
  unfold Fm at hf hg
  constructor
  · intro h j _ h1 h2
    unfold Dj In at *
    omega
  · intro h
    unfold Dj
    intro hh
    have := h (max f.1 g.1).toNat (by omega)
    unfold In at this
    omega
def msk (f : Fld) : BitVec 64 := mask f.1.toNat f.2.toNat
def gt (f : Fld) (w : BitVec 64) : BitVec 64 := get f.1.toNat f.2.toNat w
def pt (f : Fld) (w v : BitVec 64) : BitVec 64 := put f.1.toNat f.2.toNat w v
def ons (f : Fld) : BitVec 64 := ones f.2.toNat
theorem bit_msk {f : Fld} (hf : Fm f.1 f.2) (j : Nat) : (msk f).getLsbD j = decide (In f j) := by
  unfold Fm at hf
  unfold msk
  rw [bit_mask (by omega)]
  unfold In
  congr 1
  rw [eq_iff_iff]
  omega
theorem bit_gt {f : Fld} (hf : Fm f.1 f.2) (w : BitVec 64) (j : Nat) : (gt f w).getLsbD j = (decide ((j : Int) < f.2) && w.getLsbD (f.1.toNat + j)) := by
  unfold Fm at hf
  unfold gt
  rw [bit_get (by omega)]
  have : (j < f.2.toNat) ↔ ((j : Int) < f.2) := by omega
  simp [this]
theorem bit_pt {f : Fld} (hf : Fm f.1 f.2) (w v : BitVec 64) (j : Nat) : (pt f w v).getLsbD j = if In f j then v.getLsbD (j - f.1.toNat) else w.getLsbD j := by
  unfold Fm at hf
  unfold pt
  rw [bit_put (by omega)]
  have : (f.1.toNat ≤ j ∧ j < f.1.toNat + f.2.toNat) ↔ In f j := by unfold In; omega
  by_cases h : In f j
  · rw [if_pos h, if_pos (this.2 h)]
  · rw [if_neg h, if_neg (fun e => h (this.1 e))]
/-- A layout that is formed. -/
def Lay (l : List Fld) : Prop := (∀ f ∈ l, Fm f.1 f.2) ∧ l.Pairwise Dj
instance (l : List Fld) : Decidable (Lay l) := by unfold Lay; infer_instance
theorem lay_nil : Lay [] := ⟨by simp, .nil⟩
theorem lay_cons {f : Fld} {l : List Fld} : Lay (f :: l) ↔ Fm f.1 f.2 ∧ (∀ g ∈ l, Dj f g) ∧ Lay l := by
  unfold Lay
  simp only [List.mem_cons, forall_eq_or_imp, List.pairwise_cons]
  constructor
  · rintro ⟨⟨a, b⟩, c, d⟩; exact ⟨a, c, b, d⟩
  · rintro ⟨a, c, b, d⟩; exact ⟨⟨a, b⟩, c, d⟩
theorem lay_snoc {f : Fld} {l : List Fld} : Lay (l ++ [f]) ↔ Lay l ∧ Fm f.1 f.2 ∧ ∀ g ∈ l, Dj g f := by
  unfold Lay
  rw [List.pairwise_append]
  simp only [List.mem_append, List.mem_singleton, List.pairwise_singleton, true_and]
  constructor
  · rintro ⟨a, b, c⟩
    exact ⟨⟨fun g hg => a g (.inl hg), b⟩, a f (.inr rfl), fun g hg => c g hg f rfl⟩
  · rintro ⟨⟨a, b⟩, c, d⟩
    refine ⟨?_, b, fun g hg x hx => by subst hx; exact d g hg⟩
    rintro g (hg | rfl)
    · exact a g hg
    · exact c
theorem lay_pre {p s : List Fld} (h : Lay (p ++ s)) : Lay p := ⟨fun f hf => h.1 f (List.mem_append_left _ hf), (List.pairwise_append.1 h.2).1⟩
theorem lay_rev {l : List Fld} : Lay l.reverse ↔ Lay l := by
  unfold Lay
  rw [List.pairwise_reverse]
  constructor
  · rintro ⟨a, b⟩
    exact ⟨fun f hf => a f (by simpa using hf), b.imp fun h => h.symm⟩
  · rintro ⟨a, b⟩
    exact ⟨fun f hf => a f (by simpa using hf), b.imp fun h => h.symm⟩
/-- The bits of a word are those of some fields. -/
def Bits (all : BitVec 64) (l : List Fld) : Prop := ∀ j, j < 64 → all.getLsbD j = decide (∃ f ∈ l, In f j)
theorem bits_nil : Bits 0#64 [] := fun j _ => by simp
theorem bits_snoc {all : BitVec 64} {l : List Fld} {f : Fld} (h : Bits all l) (hf : Fm f.1 f.2) : Bits (all ||| msk f) (l ++ [f]) := fun j hj => by
  rw [BitVec.getLsbD_or, h j hj, bit_msk hf]
  rw [Bool.eq_iff_iff]
  simp only [List.mem_append, List.mem_singleton, Bool.or_eq_true, decide_eq_true_eq]
  constructor
  · rintro (⟨g, hg, hh⟩ | hh)
    · exact ⟨g, .inl hg, hh⟩
    · exact ⟨f, .inr rfl, hh⟩
  · rintro ⟨g, hg | rfl, hh⟩
    · exact .inl ⟨g, hg, hh⟩
    · exact .inr hh
theorem bits_apart {all : BitVec 64} {l : List Fld} {f : Fld} (h : Bits all l) (hl : ∀ g ∈ l, Fm g.1 g.2) (hf : Fm f.1 f.2) : all &&& msk f = 0#64 ↔ ∀ g ∈ l, Dj g f := by
  constructor
  · intro e g hg
    rw [dj_iff (hl g hg) hf]
    intro j hj h1 h2
    have := congrArg (fun b : BitVec 64 => b.getLsbD j) e
    simp only [BitVec.getLsbD_and, h j hj, bit_msk hf, BitVec.getLsbD_zero] at this
    have h3 : ∃ g ∈ l, In g j := ⟨g, hg, h1⟩
    simp [h3, h2] at this
  · intro e
    apply ext
    intro j hj
    rw [BitVec.getLsbD_and, h j hj, bit_msk hf, BitVec.getLsbD_zero]
    rw [Bool.and_eq_false_iff]
    by_cases h2 : In f j
    · left
      rw [decide_eq_false_iff_not]
      rintro ⟨g, hg, h1⟩
      exact (dj_iff (hl g hg) hf).1 (e g hg) j hj h1 h2
    · right; simp [h2]
/-- The word of some numbers, put into another one; none: one is too great. -/
def pk : BitVec 64 → List Fld → List (BitVec 64) → Option (BitVec 64)
  | w, [], _ => some w
  | _, _ :: _, [] => none
  | w, f :: l, v :: vs => if u (ons f) < u v then none else pk (pt f w v) l vs
/-- What Pack comes to. -/
def packed (l : List Fld) (vs : List (BitVec 64)) : Int × Int :=
  if Lay l ∧ l.length = vs.length then (match pk 0#64 l vs with | some w => (u w, 0) | none => (0, 1)) else (0, 1)
/-- What is left of a word beside the fields. -/
def left : BitVec 64 → List Fld → BitVec 64
  | w, [] => w
  | w, f :: l => left (w &&& ~~~(msk f)) l
/-- What Split comes to. -/
def parted (l : List Fld) (w : BitVec 64) : List Int × Int :=
  if Lay l then (if u (left w l) = 0 then (l.map fun f => u (gt f w), 0) else ([], 10)) else ([], 1)
theorem pt_zero {f : Fld} (hf : Fm f.1 f.2) (w : BitVec 64) : pt f w 0#64 = w &&& ~~~(msk f) := by
  apply ext
  intro j hj
  rw [bit_pt hf, BitVec.getLsbD_and, BitVec.getLsbD_not, bit_msk hf]
  by_cases h : In f j <;> simp [h, hj]
theorem bit_left {l : List Fld} (h : ∀ f ∈ l, Fm f.1 f.2) (w : BitVec 64) (j : Nat) (hj : j < 64) : (left w l).getLsbD j = (w.getLsbD j && !decide (∃ f ∈ l, In f j)) := by
  induction l generalizing w with
  | nil => simp [left]
  | cons f l ih =>
    rw [left, ih (fun g hg => h g (by simp [hg])), BitVec.getLsbD_and, BitVec.getLsbD_not, bit_msk (h f (by simp))]
    by_cases h1 : In f j
    · have : ∃ g ∈ f :: l, In g j := ⟨f, by simp, h1⟩
      simp [h1]
    · have : (∃ g ∈ f :: l, In g j) ↔ ∃ g ∈ l, In g j := by simp [h1]
      have e : decide (∃ g ∈ f :: l, In g j) = decide (∃ g ∈ l, In g j) := by rw [decide_eq_decide]; exact this
      rw [e]
      simp [h1, hj]
theorem u_le_ons {f : Fld} (hf : Fm f.1 f.2) (v : BitVec 64) : ¬ u (ons f) < u v ↔ ∀ j : Nat, f.2 ≤ (j : Int) → v.getLsbD j = false := by
  unfold Fm at hf
  obtain ⟨n, hn⟩ : ∃ n : Nat, f.2 = n := ⟨f.2.toNat, by omega⟩
  unfold u ons
  rw [hn, Int.toNat_natCast, toNat_ones (by omega)]
  have h0 : 0 < 2 ^ n := Nat.pow_pos (by omega)
  constructor
  · intro h j hj
    have hlt : v.toNat < 2 ^ n := by omega
    rw [← BitVec.testBit_toNat]
    exact Nat.testBit_lt_two_pow (Nat.lt_of_lt_of_le hlt (Nat.pow_le_pow_right (by omega) (by omega)))
  · intro h
    have hlt : v.toNat < 2 ^ n := by
      apply Nat.lt_of_not_le
      intro hge
      obtain ⟨i, hi, ht⟩ := Nat.exists_ge_and_testBit_of_ge_two_pow hge
      rw [BitVec.testBit_toNat, h i (by omega)] at ht
      exact absurd ht (by simp)
    omega
/-- All numbers go into their fields. -/
def Fit : List Fld → List (BitVec 64) → Prop
  | [], _ => True
  | _ :: _, [] => False
  | f :: l, v :: vs => ¬ u (ons f) < u v ∧ Fit l vs
theorem pk_some {l : List Fld} {vs : List (BitVec 64)} : ∀ {w : BitVec 64}, Fit l vs → ∃ x, pk w l vs = some x := by
  induction l generalizing vs with
  | nil => intro w _; exact ⟨w, rfl⟩
  | cons f l ih =>
    intro w h
    cases vs with
    | nil => exact h.elim
    | cons v vs => obtain ⟨x, hx⟩ := ih (w := pt f w v) h.2; exact ⟨x, by rw [pk, if_neg h.1, hx]⟩
theorem pk_fit {l : List Fld} {vs : List (BitVec 64)} : ∀ {w x : BitVec 64}, pk w l vs = some x → Fit l vs := by
  induction l generalizing vs with
  | nil => intro w x _; trivial
  | cons f l ih =>
    intro w x h
    cases vs with
    | nil => simp [pk] at h
    | cons v vs =>
      rw [pk] at h
      split at h
      · cases h
      · rename_i hh; exact ⟨hh, ih h⟩
/-- A field, and its number, stand side by side. -/
theorem pk_out {l : List Fld} (hl : Lay l) : ∀ {vs : List (BitVec 64)} {w x : BitVec 64}, pk w l vs = some x → ∀ j, j < 64 → (∀ f ∈ l, ¬ In f j) → x.getLsbD j = w.getLsbD j := by
  induction l with
  | nil => intro vs w x h j _ _; simp [pk] at h; rw [h]
  | cons f l ih =>
    intro vs w x h j hj hn
    obtain ⟨hf, _, hl'⟩ := lay_cons.1 hl
    cases vs with
    | nil => simp [pk] at h
    | cons v vs =>
      rw [pk] at h
      split at h
      · cases h
      · rw [ih hl' h j hj (fun g hg => hn g (by simp [hg])), bit_pt hf, if_neg (hn f (by simp))]
theorem pk_in {l : List Fld} (hl : Lay l) : ∀ {vs : List (BitVec 64)} {w x : BitVec 64}, pk w l vs = some x → ∀ (i : Nat) (f : Fld) (v : BitVec 64), l[i]? = some f → vs[i]? = some v → ∀ j, j < 64 → In f j → x.getLsbD j = v.getLsbD (j - f.1.toNat) := by
  induction l with
  | nil => intro vs w x h i f v hf; simp at hf
  | cons f0 l ih =>
    intro vs w x h i f v hf hv j hj hin
    obtain ⟨hf0, hd, hl'⟩ := lay_cons.1 hl
    cases vs with
    | nil => simp [pk] at h
    | cons v0 vs =>
      rw [pk] at h
      split at h
      · cases h
      · cases i with
        | zero =>
          simp at hf hv
          subst hf; subst hv
          rw [pk_out hl' h j hj (fun g hg => (dj_iff hf0 (hl'.1 g hg)).1 (hd g hg) j hj hin), bit_pt hf0, if_pos hin]
        | succ i =>
          simp at hf hv
          exact ih hl' h i f v hf hv j hj hin
theorem fit_at {l : List Fld} : ∀ {vs : List (BitVec 64)}, Fit l vs → ∀ (i : Nat) (f : Fld) (v : BitVec 64), l[i]? = some f → vs[i]? = some v → ¬ u (ons f) < u v := by
  induction l with
  | nil => intro vs _ i f v hf; simp at hf
  | cons f0 l ih =>
    intro vs h i f v hf hv
    cases vs with
    | nil => exact h.elim
    | cons v0 vs =>
      cases i with
      | zero => simp at hf hv; subst hf; subst hv; exact h.1
      | succ i => simp at hf hv; exact ih h.2 i f v hf hv
theorem fit_of {l : List Fld} : ∀ {vs : List (BitVec 64)}, l.length ≤ vs.length → (∀ (i : Nat) (f : Fld) (v : BitVec 64), l[i]? = some f → vs[i]? = some v → ¬ u (ons f) < u v) → Fit l vs := by
  induction l with
  | nil => intro vs _ _; trivial
  | cons f0 l ih =>
    intro vs hl h
    cases vs with
    | nil => simp at hl
    | cons v0 vs => exact ⟨h 0 f0 v0 rfl rfl, ih (by simpa using hl) (fun i f v hf hv => h (i + 1) f v (by simpa using hf) (by simpa using hv))⟩
theorem get_in {f : Fld} (hf : Fm f.1 f.2) (w v : BitVec 64) (hv : ¬ u (ons f) < u v) (h : ∀ j, j < 64 → In f j → w.getLsbD j = v.getLsbD (j - f.1.toNat)) : gt f w = v := by
  apply ext
  intro j hj
  rw [bit_gt hf]
  have hz := (u_le_ons hf v).1 hv j
  unfold Fm at hf
  by_cases hb : (j : Int) < f.2
  · rw [h (f.1.toNat + j) (by omega) (by unfold In; omega), Nat.add_sub_cancel_left]
    simp [hb]
  · rw [hz (by omega)]; simp [hb]
/-- What is packed is split again. -/
theorem split_packed {l : List Fld} {vs : List (BitVec 64)} {w x : BitVec 64} (hl : Lay l) (hlen : l.length = vs.length) (h : pk 0#64 l vs = some x) : parted l x = (vs.map u, 0) := by
  unfold parted
  rw [if_pos hl]
  have h0 : u (left x l) = 0 := by
    rw [u_eq_zero]
    apply ext
    intro j hj
    rw [bit_left hl.1 x j hj, BitVec.getLsbD_zero]
    by_cases hn : ∃ f ∈ l, In f j
    · simp [hn]
    · rw [pk_out hl h j hj (fun f hf hin => hn ⟨f, hf, hin⟩)]; simp
  rw [if_pos h0]
  congr 1
  apply List.ext_getElem?
  intro i
  rw [List.getElem?_map, List.getElem?_map]
  by_cases hi : i < l.length
  · have e1 : l[i]? = some l[i] := List.getElem?_eq_getElem hi
    have e2 : vs[i]? = some (vs[i]'(by omega)) := List.getElem?_eq_getElem (by omega)
    rw [e1, e2, Option.map_some, Option.map_some]
    rw [get_in (hl.1 _ (List.getElem_mem hi)) x _ (fit_at (pk_fit h) i _ _ e1 e2) (fun j hj hin => pk_in hl h i _ _ e1 e2 j hj hin)]
  · rw [List.getElem?_eq_none (by omega), List.getElem?_eq_none (by omega)]; rfl
/-- What is split is packed again. -/
theorem packed_split {l : List Fld} {w : BitVec 64} (hl : Lay l) (h : u (left w l) = 0) : pk 0#64 l (l.map fun f => gt f w) = some w := by
  have hfit : Fit l (l.map fun f => gt f w) := fit_of (by simp) (fun i f v hf hv => by
    rw [List.getElem?_map, hf, Option.map_some] at hv
    obtain rfl := Option.some.inj hv
    have hm : Fm f.1 f.2 := hl.1 f (List.mem_of_getElem? hf)
    rw [u_le_ons hm]
    intro j hj
    rw [bit_gt hm]
    have : ¬ (j : Int) < f.2 := by omega
    simp [this])
  obtain ⟨x, hx⟩ := pk_some (w := 0#64) hfit
  rw [hx]
  congr 1
  apply ext
  intro j hj
  by_cases hn : ∃ f ∈ l, In f j
  · obtain ⟨f, hf, hin⟩ := hn
    obtain ⟨i, hi, rfl⟩ := List.getElem_of_mem hf
    have e1 : l[i]? = some l[i] := List.getElem?_eq_getElem hi
    rw [pk_in hl hx i l[i] (gt l[i] w) e1 (by rw [List.getElem?_map, e1]; rfl) j hj hin]
    have hm : Fm l[i].1 l[i].2 := hl.1 _ hf
    rw [bit_gt hm]
    unfold Fm at hm
    unfold In at hin
    have : ((j - (l[i].1).toNat : Nat) : Int) < l[i].2 := by omega
    rw [show (l[i].1).toNat + (j - (l[i].1).toNat) = j by omega]
    simp [this]
  · rw [pk_out hl hx j hj (fun f hf hin => hn ⟨f, hf, hin⟩)]
    rw [u_eq_zero] at h
    have := congrArg (fun b : BitVec 64 => b.getLsbD j) h
    simp only [bit_left hl.1 w j hj, BitVec.getLsbD_zero] at this
    simp [hn] at this
    simp [this]
/-- Turned round, they pack the same word. -/
theorem packed_rev {l : List Fld} {vs : List (BitVec 64)} : packed l.reverse vs.reverse = packed l vs := by
  unfold packed
  by_cases h : Lay l ∧ l.length = vs.length
  · obtain ⟨hl, hlen⟩ := h
    rw [if_pos ⟨lay_rev.2 hl, by simpa using hlen⟩, if_pos ⟨hl, hlen⟩]
    have key : ∀ (l : List Fld) (vs : List (BitVec 64)), l.length = vs.length → Fit l vs → Fit l.reverse vs.reverse := by
      intro l vs hlen hf
      refine fit_of (by simp; omega) (fun i f v h1 h2 => ?_)
      have hi : i < l.length := by
        have := (List.getElem?_eq_some_iff.1 h1).1
        simpa using this
      rw [List.getElem?_reverse hi] at h1
      rw [List.getElem?_reverse (by omega)] at h2
      exact fit_at hf _ f v h1 (by rw [hlen]; exact h2)
    cases e : pk 0#64 l vs with
    | none =>
      cases e' : pk 0#64 l.reverse vs.reverse with
      | none => rfl
      | some x =>
        exfalso
        have := key l.reverse vs.reverse (by simpa using hlen) (pk_fit e')
        rw [List.reverse_reverse, List.reverse_reverse] at this
        obtain ⟨y, hy⟩ := pk_some (w := 0#64) this
        rw [e] at hy; cases hy
    | some x =>
      obtain ⟨y, hy⟩ := pk_some (w := 0#64) (key l vs hlen (pk_fit e))
      rw [hy]
      have hlr : Lay l.reverse := lay_rev.2 hl
      have exy : y = x := by
        apply ext
        intro j hj
        by_cases hn : ∃ f ∈ l, In f j
        · obtain ⟨f, hf, hin⟩ := hn
          obtain ⟨i, hi, rfl⟩ := List.getElem_of_mem hf
          have e1 : l[i]? = some l[i] := List.getElem?_eq_getElem hi
          have e2 : vs[i]? = some (vs[i]'(by omega)) := List.getElem?_eq_getElem (by omega)
          rw [pk_in hl e i _ _ e1 e2 j hj hin]
          refine pk_in hlr hy (l.length - 1 - i) _ _ ?_ ?_ j hj hin
          · rw [List.getElem?_reverse (by omega), show l.length - 1 - (l.length - 1 - i) = i by omega, e1]
          · rw [List.getElem?_reverse (by omega), show vs.length - 1 - (l.length - 1 - i) = i by omega, e2]
        · rw [pk_out hl e j hj (fun f hf hin => hn ⟨f, hf, hin⟩), pk_out hlr hy j hj (fun f hf hin => hn ⟨f, by simpa using hf, hin⟩)]
      rw [exy]
  · rw [if_neg h, if_neg (fun e => h ⟨lay_rev.1 e.1, by simpa using e.2⟩)]
end Go.Proofs.Ytdmenimdhcicjaa.FL
