/- Which word of a region is of which sort; what the reference's drain leaves is what a drain leaves. -/
import Derived.Test.YtkhjkfbgcpjphaaRD40
namespace Go.Proofs.Ytkhjkfbgcpjphaa.Fun
open Go Go.Proofs.Ytkhjkfbgcpjphaa.Fun.E
set_option linter.unusedVariables false
theorem blkS_at (hd : Nat → List (Int × Int × Int)) (H : Nat) (hh : ∀ k, (hd k).length = H) (s : Int) (C : Nat) : ∀ (j q i : Nat) (x : Int × Int × Int), (blkS hd s C q j)[i]? = some x →
    ∃ k p, k < j ∧ p < H + C ∧ i = k * (H + C) + p ∧ ((p < H ∧ (hd (q + k))[p]? = some x) ∨ (H ≤ p ∧ x = (s, ((q + k : Nat) : Int), ((p - H : Nat) : Int))))
  | 0, q, i, x, hx => by simp [blkS] at hx
  | j + 1, q, i, x, hx => by
    rw [blkS_succ] at hx
    have hl : (hd q ++ (List.range' 0 C).map fun (i : Nat) => (s, (q : Int), (i : Int))).length = H + C := by rw [List.length_append, hh, List.length_map, List.length_range']
    by_cases hi : i < H + C
    · rw [List.getElem?_append_left (by omega)] at hx
      refine ⟨0, i, by omega, hi, by omega, ?_⟩
      by_cases hp : i < H
      · rw [List.getElem?_append_left (by rw [hh]; omega)] at hx
        exact .inl ⟨hp, by rw [Nat.add_zero]; exact hx⟩
      · rw [List.getElem?_append_right (by rw [hh]; omega), hh, List.getElem?_map, List.getElem?_range' (by omega)] at hx
        simp only [Option.map_some, Option.some.injEq] at hx
        refine .inr ⟨by omega, ?_⟩
        rw [← hx]
        simp
    · rw [List.getElem?_append_right (by omega), hl] at hx
      obtain ⟨k, p, h1, h2, h3, h4⟩ := blkS_at hd H hh s C j (q + 1) _ x hx
      refine ⟨k + 1, p, by omega, h2, ?_, ?_⟩
      · rw [Nat.succ_mul]; omega
      · rw [show q + (k + 1) = q + 1 + k by omega]; exact h4
/-- Which word of a region this is. -/
inductive Cl (n t r d b : Int) (o : Nat) : Int × Int × Int → Prop
  | head : o = 0 → Cl n t r d b o (0, 0, 0)
  | zero (x : Int × Int × Int) : 1 ≤ x.1 → x.1 ≤ 4 → o ∈ plcs t r d b → Cl n t r d b o x
  | kept (x : Int × Int × Int) : x.1 = 5 → 0 < o → o ∉ plcs t r d b → (o : Int) < ndP t r d b → Cl n t r d b o x
  | state (q : Nat) : (q : Int) < n → (o : Int) = ndP t r d b + q * 5 → Cl n t r d b o (6, (q : Int), 0)
  | next (q : Nat) : (q : Int) < n → (o : Int) = ndP t r d b + q * 5 + 1 → Cl n t r d b o (7, (q : Int), 0)
  | field (q i : Nat) : (q : Int) < n → i < 3 → (o : Int) = ndP t r d b + q * 5 + 2 + i → Cl n t r d b o (8, (q : Int), (i : Int))
section
variable {n t r d b g : Int} (h : PF n t r d b g)
include h
theorem mem_plcs {o : Nat} (ho : o ∈ plcs t r d b) : o = 0 ∨ (o : Int) < hzP d b ∨ (hzP d b ≤ (o : Int) ∧ (o : Int) < ctP t d b) ∨ ∃ k : Nat, (o : Int) = ctP t d b + (k : Int) * (1 + r) := by
  have hd := h.hd; have hc := h.cl; have ht := h.ht; have hhz := h.hz; have hct := h.ct
  unfold plcs at ho
  simp only [List.mem_append, List.mem_singleton] at ho
  rcases ho with ((ho | ho) | ho) | ho
  · exact .inl ho
  · right; left
    simp only [domPl, List.mem_flatMap, List.mem_range'_1, List.mem_cons, List.mem_map] at ho
    obtain ⟨k, hk, ho⟩ := ho
    have hm := h.mul1 (k := (k : Int)) (by omega) (by omega)
    have e : ((k : Int) + 1) * (1 + cl b) ≤ d * (1 + cl b) := Int.mul_le_mul_of_nonneg_right (by omega) (by omega)
    rw [Int.add_mul, Int.one_mul] at e
    unfold hzP
    rcases ho with ho | ⟨i, hi, ho⟩
    · omega
    · omega
  · right; right; left
    simp only [hazPl, List.mem_flatMap, List.mem_range'_1, List.mem_map] at ho
    obtain ⟨k, hk, i, hi, ho⟩ := ho
    unfold ctP
    omega
  · right; right; right
    simp only [cntPl, List.mem_range'_1, List.mem_map] at ho
    obtain ⟨k, hk, ho⟩ := ho
    have hm : 0 ≤ (k : Int) * (1 + r) := Int.mul_nonneg (by omega) (by have := h.hr; omega)
    exact ⟨k, by omega⟩
theorem sorts_len : ((sorts n t r d b).length : Int) = szP n t r d b := by
  have hn := h.hn; have ht := h.ht; have hd := h.hd; have hc := h.cl; have hr := h.hr
  unfold sorts
  rw [List.length_append, List.length_append, List.length_append, List.length_append, blkS_len hd1 1 (fun _ => rfl), blkS_len hd2 0 (fun _ => rfl), blkS_len hd3 1 (fun _ => rfl), blkS_len hd4 2 (fun _ => rfl)]
  unfold szP ndP ctP hzP
  simp only [Int.natCast_add, Int.natCast_mul, List.length_cons, List.length_nil]
  rw [Int.toNat_of_nonneg (by omega : 0 ≤ d), Int.toNat_of_nonneg (by omega : 0 ≤ t), Int.toNat_of_nonneg (by omega : 0 ≤ n), Int.toNat_of_nonneg (by omega : 0 ≤ cl b), Int.toNat_of_nonneg (by omega : 0 ≤ r)]
  simp
theorem sorts_cl {o : Nat} {x : Int × Int × Int} (hx : (sorts n t r d b)[o]? = some x) : Cl n t r d b o x := by
  have hn := h.hn; have ht := h.ht; have hd := h.hd; have hc := h.cl; have hr := h.hr; have hhz := h.hz; have hct := h.ct; have hnd := h.nd
  unfold sorts at hx
  obtain ⟨N, hN⟩ : ∃ N : Nat, n.toNat = N := ⟨_, rfl⟩
  obtain ⟨D, hD⟩ : ∃ D : Nat, d.toNat = D := ⟨_, rfl⟩
  obtain ⟨T, hT⟩ : ∃ T : Nat, t.toNat = T := ⟨_, rfl⟩
  obtain ⟨R, hR⟩ : ∃ R : Nat, r.toNat = R := ⟨_, rfl⟩
  obtain ⟨C, hC⟩ : ∃ C : Nat, (cl b).toNat = C := ⟨_, rfl⟩
  rw [hN, hD, hT, hR, hC] at hx
  have n1 : ([(0, 0, 0)] ++ blkS hd1 2 C 0 D).length = 1 + D * (1 + C) := by rw [List.length_append, blkS_len hd1 1 (fun _ => rfl)]; rfl
  have n2 : ([(0, 0, 0)] ++ blkS hd1 2 C 0 D ++ blkS hd2 3 3 0 T).length = 1 + D * (1 + C) + T * (0 + 3) := by rw [List.length_append, n1, blkS_len hd2 0 (fun _ => rfl)]
  have n3 : ([(0, 0, 0)] ++ blkS hd1 2 C 0 D ++ blkS hd2 3 3 0 T ++ blkS hd3 5 R 0 T).length = 1 + D * (1 + C) + T * (0 + 3) + T * (1 + R) := by rw [List.length_append, n2, blkS_len hd3 1 (fun _ => rfl)]
  have p1 : ((1 + D * (1 + C) : Nat) : Int) = hzP d b := by
    unfold hzP
    simp only [Int.natCast_add, Int.natCast_mul]
    rw [← hD, ← hC, Int.toNat_of_nonneg (by omega : 0 ≤ d), Int.toNat_of_nonneg (by omega : 0 ≤ cl b)]; rfl
  have p2 : ((1 + D * (1 + C) + T * (0 + 3) : Nat) : Int) = ctP t d b := by unfold ctP; omega
  have p3 : ((1 + D * (1 + C) + T * (0 + 3) + T * (1 + R) : Nat) : Int) = ndP t r d b := by
    unfold ndP
    rw [Int.natCast_add, p2, Int.natCast_mul, ← hT, ← hR]
    simp only [Int.natCast_add]
    rw [Int.toNat_of_nonneg (by omega : 0 ≤ t), Int.toNat_of_nonneg (by omega : 0 ≤ r)]; rfl
  by_cases h3 : o < 1 + D * (1 + C) + T * (0 + 3) + T * (1 + R)
  case neg =>
    -- nodes
    rw [List.getElem?_append_right (by omega), n3] at hx
    obtain ⟨k, p, hk, hp, e, hc4⟩ := blkS_at hd4 2 (fun _ => rfl) 8 3 N 0 _ x hx
    rw [Nat.zero_add] at hc4
    rcases hc4 with ⟨h2, hx⟩ | ⟨h2, rfl⟩
    · rcases p with _ | p
      · simp only [hd4, List.getElem?_cons_zero, Option.some.injEq] at hx
        subst hx
        exact .state k (by omega) (by omega)
      · have : p = 0 := by omega
        subst this
        simp only [hd4, List.getElem?_cons_succ, List.getElem?_cons_zero, Option.some.injEq] at hx
        subst hx
        exact .next k (by omega) (by omega)
    · exact .field k (p - 2) (by omega) (by omega) (by omega)
  rw [List.getElem?_append_left (by omega)] at hx
  by_cases h2 : o < 1 + D * (1 + C) + T * (0 + 3)
  case neg =>
    rw [List.getElem?_append_right (by omega), n2] at hx
    obtain ⟨k, p, hk, hp, e, hc3⟩ := blkS_at hd3 1 (fun _ => rfl) 5 R T 0 _ x hx
    rw [Nat.zero_add] at hc3
    have ek : ((k * (1 + R) : Nat) : Int) = (k : Int) * (1 + r) := by
      rw [Int.natCast_mul, Int.natCast_add, ← hR, Int.toNat_of_nonneg (by omega : 0 ≤ r)]; rfl
    have eo : (o : Int) = ctP t d b + (k : Int) * (1 + r) + p := by omega
    rcases hc3 with ⟨h2, hx⟩ | ⟨h2, rfl⟩
    · have : p = 0 := by omega
      subst this
      simp only [hd3, List.getElem?_cons_zero, Option.some.injEq] at hx
      subst hx
      refine .zero _ (by simp) (by simp) ?_
      unfold plcs
      simp only [List.mem_append]
      right
      simp only [cntPl, List.mem_map, List.mem_range'_1]
      exact ⟨k, by omega, by omega⟩
    · refine .kept _ rfl (by omega) (fun hm => ?_) (by omega)
      rcases mem_plcs h hm with hm | hm | hm | ⟨k', hm⟩
      · omega
      · omega
      · omega
      · have ek' : ((k' * (1 + R) : Nat) : Int) = (k' : Int) * (1 + r) := by
          rw [Int.natCast_mul, Int.natCast_add, ← hR, Int.toNat_of_nonneg (by omega : 0 ≤ r)]; rfl
        rcases Nat.lt_or_ge k k' with hl | hl
        · have := Nat.mul_le_mul_right (1 + R) (show k + 1 ≤ k' by omega)
          rw [Nat.succ_mul] at this
          omega
        · have := Nat.mul_le_mul_right (1 + R) hl
          omega
  rw [List.getElem?_append_left (by omega)] at hx
  by_cases h1 : o < 1 + D * (1 + C)
  case neg =>
    rw [List.getElem?_append_right (by omega), n1] at hx
    obtain ⟨k, p, hk, hp, e, hc2⟩ := blkS_at hd2 0 (fun _ => rfl) 3 3 T 0 _ x hx
    rw [Nat.zero_add] at hc2
    rcases hc2 with ⟨h2, hx⟩ | ⟨h2, rfl⟩
    · omega
    · refine .zero _ (by simp) (by simp) ?_
      unfold plcs
      simp only [List.mem_append]
      left; right
      simp only [hazPl, List.mem_flatMap, List.mem_map, List.mem_range'_1]
      exact ⟨k, by omega, p, by omega, by omega⟩
  rw [List.getElem?_append_left (by omega)] at hx
  rcases o with _ | o
  · simp at hx; subst hx; exact .head rfl
  rw [List.getElem?_append_right (by simp)] at hx
  simp only [List.length_singleton, Nat.add_sub_cancel] at hx
  obtain ⟨k, p, hk, hp, e, hc1⟩ := blkS_at hd1 1 (fun _ => rfl) 2 C D 0 _ x hx
  rw [Nat.zero_add] at hc1
  have ek : ((k * (1 + C) : Nat) : Int) = (k : Int) * (1 + cl b) := by
    rw [Int.natCast_mul, Int.natCast_add, ← hC, Int.toNat_of_nonneg (by omega : 0 ≤ cl b)]; rfl
  have hz : o + 1 ∈ plcs t r d b := by
    unfold plcs
    simp only [List.mem_append]
    left; left; right
    simp only [domPl, List.mem_flatMap, List.mem_cons, List.mem_map, List.mem_range'_1]
    refine ⟨k, by omega, ?_⟩
    rcases p with _ | p
    · left; omega
    · right; exact ⟨p, by omega, by omega⟩
  rcases hc1 with ⟨h2, hx⟩ | ⟨h2, rfl⟩
  · have : p = 0 := by omega
    subst this
    simp only [hd1, List.getElem?_cons_zero, Option.some.injEq] at hx
    subst hx
    exact .zero _ (by simp) (by simp) hz
  · exact .zero _ (by simp) (by simp) hz
/-- The place of a node's word of the list. -/
theorem sorts_next {q : Nat} (hq : (q : Int) < n) : (sorts n t r d b)[(ndP t r d b + q * 5 + 1).toNat]? = some (7, (q : Int), 0) := by
  have hl := sorts_len h; have hnd := h.nd; have hct := h.ct; have hhz := h.hz
  unfold szP at hl
  have hlt : (ndP t r d b + q * 5 + 1).toNat < (sorts n t r d b).length := by omega
  have hx := List.getElem?_eq_getElem hlt
  rw [hx]
  have hcl := sorts_cl h hx
  generalize (sorts n t r d b)[(ndP t r d b + q * 5 + 1).toNat] = x at hcl
  cases hcl with
  | head e => omega
  | zero x _ _ hm => have := plcs_lt h hm; omega
  | kept x _ _ _ e => omega
  | state q' _ e => omega
  | next q' _ e => rw [show q' = q by omega]
  | field q' i _ _ e => omega
/-- What the reference makes of a word, by its sort. -/
def rW (g s v : Int) : Int := if s < 5 ∨ s = 8 then 0 else if s = 6 then stW g v else v
def outW (n t r d b g : Int) (w : Nat → Int) (k : Nat) : Nat → Int := fun o => if o < k then rW g ((sorts n t r d b)[o]?.getD (5, 0, 0)).1 (w o) else w o
theorem nodesU_zero (X : Nat → Int) (i : Nat) (hi : 2 ≤ i ∧ i < 5) : ∀ (l : List Nat) (w : Nat → Int) (q : Nat), q ∈ l ∨ w (ndP t r d b + q * 5 + i).toNat = 0 → ups (nodesU (ndP t r d b) X l) w (ndP t r d b + q * 5 + i).toNat = 0
  | [], w, q, hq => by
    rcases hq with hq | hq
    · simp at hq
    · exact hq
  | p :: l, w, q, hq => by
    have hnd := h.nd; have hct := h.ct; have hhz := h.hz
    rw [nodesU, List.flatMap_cons, ups_append]
    show ups (nodesU (ndP t r d b) X l) _ _ = 0
    refine nodesU_zero X i hi l _ q ?_
    by_cases hp : q = p
    · right; subst hp
      simp only [nodeU, ups, upd]
      rw [if_neg (by omega)]
      by_cases h4 : i = 4
      · rw [if_pos (by omega)]
      rw [if_neg (by omega)]
      by_cases h3 : i = 3
      · rw [if_pos (by omega)]
      rw [if_neg (by omega), if_pos (by omega)]
    · rcases hq with hq | hq
      · left
        rcases List.mem_cons.1 hq with hq | hq
        · exact absurd hq hp
        · exact hq
      · right
        simp only [nodeU, ups, upd]
        rw [if_neg (by omega), if_neg (by omega), if_neg (by omega), if_neg (by omega)]
        exact hq
omit h in
theorem zerosU_get : ∀ (l : List Nat) (w : Nat → Int) (o : Nat), ups (zerosU l) w o = if o ∈ l then 0 else w o
  | [], w, o => by simp [zerosU, ups]
  | p :: l, w, o => by
    show ups (zerosU l) (upd w p 0) o = _
    rw [zerosU_get l]
    by_cases ho : o ∈ l
    · rw [if_pos ho, if_pos (List.mem_cons_of_mem _ ho)]
    · rw [if_neg ho]
      by_cases hp : o = p
      · rw [if_pos (by simp [hp])]; simp [upd, hp]
      · rw [if_neg (by simp [hp, ho])]; simp [upd, hp]
omit h in
theorem chain_mem (nx : Nat → Nat) (gone : Nat → Bool) : ∀ (k : Nat) (word cnt : Int), 0 ∈ (chainU nx gone k word cnt).1.map (·.1) ∧ ∀ q, q < k → nx q ∈ (chainU nx gone k word cnt).1.map (·.1)
  | 0, word, cnt => ⟨by simp [chainU], fun q hq => by omega⟩
  | k + 1, word, cnt => by
    simp only [chainU]
    split
    all_goals
      refine ⟨?_, fun q hq => ?_⟩
      · simp only [List.map_cons]
        exact List.mem_cons_of_mem _ (chain_mem nx gone k _ _).1
      · simp only [List.map_cons]
        by_cases hk : q = k
        · subst hk; exact List.mem_cons_self ..
        · exact List.mem_cons_of_mem _ ((chain_mem nx gone k _ _).2 q (by omega))
omit h in
theorem nodesU_low (nd : Int) (X : Nat → Int) (h0 : 0 ≤ nd) : ∀ (l : List Nat) (w : Nat → Int) (o : Nat), (o : Int) < nd → ups (nodesU nd X l) w o = w o
  | [], w, o, _ => rfl
  | p :: l, w, o, ho => by
    rw [nodesU, List.flatMap_cons, ups_append]
    show ups (nodesU nd X l) _ _ = w o
    rw [nodesU_low nd X h0 l _ o ho]
    simp only [nodeU, ups, upd]
    rw [if_neg (by omega), if_neg (by omega), if_neg (by omega), if_neg (by omega)]
/-- The reference's words, with the chain put behind, are those of a drain. -/
theorem ref_drain (w : Nat → Int) (o : Nat) (ho : o < (sorts n t r d b).length) :
    ups (chainU (nxOf (ndP t r d b)) (goneW (ndP t r d b) g w) n.toNat 0 0).1 (outW n t r d b g w (sorts n t r d b).length) o = (drnW n t r d b g w).1 o := by
  have hnd := h.nd; have hct := h.ct; have hhz := h.hz
  have hx := List.getElem?_eq_getElem ho
  have hcl := sorts_cl h hx
  have e1 : outW n t r d b g w (sorts n t r d b).length o = rW g ((sorts n t r d b)[o]).1 (w o) := by unfold outW; rw [if_pos ho, hx]; rfl
  have hin : ∀ q : Nat, (q : Int) < n → q ∈ List.range' 0 n.toNat := fun q hq => by simp only [List.mem_range'_1]; omega
  unfold drnW
  rw [drain_ups]
  unfold drainU
  rw [ups_append, ups_append]
  refine ups_congr _ _ _ o ?_
  rw [e1]
  generalize (sorts n t r d b)[o] = x at hcl
  cases hcl with
  | head e => right; rw [e]; exact (chain_mem _ _ _ _ _).1
  | zero x h1 h4 hm =>
    left
    rw [nodesU_low _ _ (by omega) _ _ o (plcs_lt h hm), zerosU_get, if_pos hm]
    unfold rW; rw [if_pos (by omega)]
  | kept x h5 h0 hm hl =>
    left
    rw [nodesU_low _ _ (by omega) _ _ o hl, zerosU_get, if_neg hm]
    unfold rW; rw [if_neg (by omega), if_neg (by omega)]
  | state q hq e =>
    left
    have eo : o = (ndP t r d b + q * 5).toNat := by omega
    rw [eo, nodesU_get h _ _ _ q (List.nodup_range' (step := 1)), if_pos (hin q hq)]
    unfold rW XW; rw [if_neg (by simp), if_pos rfl]
  | next q hq e =>
    right
    have := (chain_mem (nxOf (ndP t r d b)) (goneW (ndP t r d b) g w) n.toNat 0 0).2 q (by omega)
    have eo : o = nxOf (ndP t r d b) q := by unfold nxOf; omega
    rw [eo]; exact this
  | field q i hq hi e =>
    left
    have eo : o = (ndP t r d b + q * 5 + ((i + 2 : Nat) : Int)).toNat := by omega
    rw [eo, nodesU_zero h _ (i + 2) (by omega) _ _ q (.inl (hin q hq))]
    unfold rW; rw [if_pos (by simp)]
end
end Go.Proofs.Ytkhjkfbgcpjphaa.Fun
