/- The reference's states, places, and drain. -/
import Derived.Test.YtkhjkfbgcpjphaaRD41
namespace Go.Proofs.Ytkhjkfbgcpjphaa.Fun
open Go Go.Proofs.Ytkhjkfbgcpjphaa.Fun.E
set_option linter.unusedVariables false
theorem stOk_word {w : Int} (h : Wd w) : stOk? w = true ↔ (stk w ≤ 2 ∧ stg w + stm w * 1073741824 + stk w * 4294967296 = w) := by
  have h0 := h.1; have h1 := h.2
  unfold stOk? stg stm stk
  simp only [Bool.and_eq_true, decide_eq_true_eq]
  omega
theorem of54 {w : Int} (h : Wd w) (m : Mu) : CallOk Try.prog 54 [.int .u64 w] m (if stOk? w = true then .tup [.agg [.int .i64 (stg w), .int .i64 (stm w), .int .i64 (stk w)], .bool true] else .tup [.agg [.int .i64 0, .int .i64 0, .int .i64 0], .bool false]) m false [] := by
  have hin := st_in w
  have h0 := h.1; have h1 := h.2
  have eg : IntKind.i64.wrap (Int.tmod w 1073741824) = stg w := by
    rw [Int.tmod_eq_emod_of_nonneg h0]; exact wrap64 (x := stg w) (by omega) (by omega)
  have em : IntKind.i64.wrap (Int.tmod (IntKind.u64.wrap (Int.tdiv w 1073741824)) 4) = stm w := by
    rw [Int.tdiv_eq_ediv_of_nonneg h0, wrapu_of ⟨by omega, by omega⟩, Int.tmod_eq_emod_of_nonneg (by omega)]; exact wrap64 (x := stm w) (by omega) (by omega)
  have ek : IntKind.i64.wrap (Int.tmod (IntKind.u64.wrap (Int.tdiv w 4294967296)) 4) = stk w := by
    rw [Int.tdiv_eq_ediv_of_nonneg h0, wrapu_of ⟨by omega, by omega⟩, Int.tmod_eq_emod_of_nonneg (by omega)]; exact wrap64 (x := stk w) (by omega) (by omega)
  have hs := stOk_word h
  have es : IntKind.u64.wrap ((IntKind.u64.wrap ((IntKind.u64.wrap (stg w)) + (IntKind.u64.wrap ((IntKind.u64.wrap (stm w)) * 1073741824)))) + (IntKind.u64.wrap ((IntKind.u64.wrap (stk w)) * 4294967296))) = stg w + stm w * 1073741824 + stk w * 4294967296 := by
    rw [wrapu_of (x := stg w) ⟨by omega, by omega⟩, wrapu_of (x := stm w) ⟨by omega, by omega⟩, wrapu_of (x := stk w) ⟨by omega, by omega⟩, wrapu_of (x := stm w * 1073741824) ⟨by omega, by omega⟩, wrapu_of (x := stk w * 4294967296) ⟨by omega, by omega⟩, wrapu_of (x := stg w + stm w * 1073741824) ⟨by omega, by omega⟩, wrapu_of ⟨by omega, by omega⟩]
  by_cases hk : stk w ≤ 2
  · by_cases he : stg w + stm w * 1073741824 + stk w * 4294967296 = w
    · rw [if_pos (hs.2 ⟨hk, he⟩)]
      have q := d54_6 (a0 := w) (by rw [eg]; exact decide_eq_true (by omega)) (by rw [eg]; exact decide_eq_true (by omega)) (by rw [em]; exact decide_eq_true (by omega)) (by rw [em]; exact decide_eq_true (by omega)) (by rw [ek]; exact decide_eq_true (by omega)) (by rw [ek, decide_eq_true hk]; rfl) (by rw [eg, em, ek, es, he]; simp) m
      rw [eg, em, ek] at q
      exact q
    · rw [if_neg (fun hh => he (hs.1 hh).2)]
      exact d54_7 (by rw [eg]; exact decide_eq_true (by omega)) (by rw [eg]; exact decide_eq_true (by omega)) (by rw [em]; exact decide_eq_true (by omega)) (by rw [em]; exact decide_eq_true (by omega)) (by rw [ek]; exact decide_eq_true (by omega)) (by rw [ek, decide_eq_true hk]; rfl) (by rw [eg, em, ek, es]; simpa using he) m
  · rw [if_neg (fun hh => hk (hs.1 hh).1)]
    exact d54_8 (by rw [eg]; exact decide_eq_true (by omega)) (by rw [eg]; exact decide_eq_true (by omega)) (by rw [em]; exact decide_eq_true (by omega)) (by rw [em]; exact decide_eq_true (by omega)) (by rw [ek]; exact decide_eq_true (by omega)) (by rw [ek, decide_eq_false hk]; rfl) m
theorem freed55 {g a : Int} (a0 : 0 ≤ a) (a1 : a ≤ 1073741823) (s k : Int) (m : Mu) : CallOk Try.prog 55 [.agg [.int .i64 a, .int .i64 s, .int .i64 k], .int .i64 g] m (.agg [.int .i64 (fr g a).1, .int .i64 (fr g a).2.1, .int .i64 (fr g a).2.2]) m false [] := by
  unfold fr
  by_cases h : a ≥ g
  · rw [if_pos h]; exact d55_2 (decide_eq_true h) m
  · rw [if_neg h]
    have := d55_1 (a0_0 := a) (a0_1 := s) (a0_2 := k) (decide_eq_false h) m
    rwa [wrap64 (by omega) (by omega)] at this
theorem word56 {g s k : Int} (g0 : 0 ≤ g) (g1 : g ≤ 1073741823) (s0 : 0 ≤ s) (s1 : s ≤ 3) (k0 : 0 ≤ k) (k1 : k ≤ 2) (m : Mu) : CallOk Try.prog 56 [.agg [.int .i64 g, .int .i64 s, .int .i64 k]] m (.int .u64 (g + s * 1073741824 + k * 4294967296)) m false [] := by
  have q := d56_6 (a0_0 := g) (a0_1 := s) (a0_2 := k) (decide_eq_true g0) (decide_eq_true (by omega)) (decide_eq_true s0) (decide_eq_true s1) (decide_eq_true k0) (by rw [decide_eq_true k1]; rfl) m
  rw [wrapu_of (x := g) ⟨by omega, by omega⟩, wrapu_of (x := s) ⟨by omega, by omega⟩, wrapu_of (x := k) ⟨by omega, by omega⟩, wrapu_of (x := s * 1073741824) ⟨by omega, by omega⟩, wrapu_of (x := k * 4294967296) ⟨by omega, by omega⟩, wrapu_of (x := g + s * 1073741824) ⟨by omega, by omega⟩, wrapu_of ⟨by omega, by omega⟩] at q
  exact q
/-- The place of a sort. -/
theorem pl57 {m : Mu} {sb : Nat} {l : List (Int × Int × Int)} (hs : TriAt m sb l) (hl : l.length < 1000000) {p : Nat} {x : Int × Int × Int} (hp : l[p]? = some x) (hx : ∀ i, i < p → l[i]? ≠ some x) : ∀ (j i : Nat), i + j = p →
    LoopOk Try.prog (codeAt [true, false, true, false, false] (Try.f57.body.getD .skip)) (L57_1 sb 0 l.length x.1 x.2.1 x.2.2 0 (i : Int) m false) .ret (L57_1 sb 0 l.length x.1 x.2.1 x.2.2 (p : Int) (p : Int) m false)
  | 0, i, hi => by
    have e : i = p := by omega
    subst e
    have hlt := (List.getElem?_eq_some_iff.1 hp).1
    have g := hs.get hp
    have e0 : 0 + ((i : Nat) : Int).toNat * 3 = i * 3 := by simp
    have this : CodeOk Try.prog (codeAt [true, false, true, false, false] (Try.f57.body.getD .skip)) (L57_1 sb 0 l.length x.1 x.2.1 x.2.2 0 (i : Int) m false) .ret (L57_1 sb 0 l.length x.1 x.2.1 x.2.2 (i : Int) (i : Int) m false) :=
      L57_1_3 (v0_0 := x.1) (v0_1 := x.2.1) (v0_2 := x.2.2) (decide_eq_true (by omega)) (decide_eq_true ⟨by omega, by omega⟩) (by rw [e0]; exact g.1) (by rw [e0]; exact g.2.1) (by rw [e0]; exact g.2.2) (by simp)
    exact .last (by simp) @this
  | j + 1, i, hi => by
    have hlt := (List.getElem?_eq_some_iff.1 hp).1
    have hy := List.getElem?_eq_getElem (show i < l.length by omega)
    have g := hs.get hy
    have hne : l[i] ≠ x := fun e => hx i (by omega) (by rw [hy, e])
    obtain ⟨y, hye⟩ : ∃ y, l[i] = y := ⟨_, rfl⟩
    rw [hye] at g hne
    have e0 : 0 + ((i : Nat) : Int).toNat * 3 = i * 3 := by simp
    have this : CodeOk Try.prog (codeAt [true, false, true, false, false] (Try.f57.body.getD .skip)) (L57_1 sb 0 l.length x.1 x.2.1 x.2.2 0 (i : Int) m false) .normal (L57_1 sb 0 l.length x.1 x.2.1 x.2.2 0 (IntKind.i64.wrap ((i : Int) + 1)) m false) :=
      L57_1_2 (v0_0 := y.1) (v0_1 := y.2.1) (v0_2 := y.2.2) (decide_eq_true (by omega)) (decide_eq_true ⟨by omega, by omega⟩) (by rw [e0]; exact g.1) (by rw [e0]; exact g.2.1) (by rw [e0]; exact g.2.2) (by
        rw [Bool.eq_false_iff]
        intro hh
        simp only [Bool.and_eq_true, beq_iff_eq, and_true] at hh
        exact hne (Prod.ext hh.1 (Prod.ext hh.2.1 hh.2.2)))
    rw [show IntKind.i64.wrap ((i : Int) + 1) = ((i + 1 : Nat) : Int) by rw [wrap64 (by omega) (by omega)]; omega] at this
    exact .step (P := Try.prog) @this (pl57 hs hl hp hx j (i + 1) (by omega))
theorem place57 {m : Mu} {sb : Nat} {l : List (Int × Int × Int)} (hs : TriAt m sb l) (hl : l.length < 1000000) {p : Nat} {x : Int × Int × Int} (hp : l[p]? = some x) (hx : ∀ i, i < p → l[i]? ≠ some x) :
    CallOk Try.prog 57 [.vec sb 0 l.length 3, .agg [.int .i64 x.1, .int .i64 x.2.1, .int .i64 x.2.2]] m (.int .i64 (p : Int)) m false [] := by
  have q : CodeOk Try.prog (codeAt [true, false, true, false] (Try.f57.body.getD .skip)) (L57_1 sb 0 l.length x.1 x.2.1 x.2.2 0 0 m false) .ret (L57_1 sb 0 l.length x.1 x.2.1 x.2.2 (p : Int) (p : Int) m false) := by
    rw [L57_1_loop]
    exact (pl57 hs hl hp hx p 0 (by omega)).code
  exact f57_2 q
theorem upd1 {m : Mu} {c k : Nat} {v : DV} (c' o : Nat) : updMu m c (0 + ((k : Nat) : Int).toNat * 1) [v] c' o = if c' = c ∧ o = k then some v else m c' o := by
  rw [updMu_get]
  simp only [Nat.zero_add, Int.toNat_natCast, Nat.mul_one, List.length_singleton]
  by_cases hh : c' = c ∧ o = k
  · rw [if_pos hh, if_pos ⟨hh.1, by omega, by omega⟩, hh.2, Nat.sub_self]; rfl
  · rw [if_neg hh, if_neg (by rintro ⟨h1, h2, h3⟩; exact hh ⟨h1, by omega⟩)]
section
variable {n t r d b g : Int} (h : PF n t r d b g)
include h
/-- What the drain's first loop has done, at the word k. -/
structure DrI (n t r d b g : Int) (m0 : Mu) (sb wb g0 g1 : Nat) (w : Nat → Int) (m : Mu) (k : Nat) : Prop where
  so : TriAt m sb (sorts n t r d b)
  wo : ∀ o, o < (sorts n t r d b).length → m wb o = some (.int .u64 (w o))
  ou : ∀ o, o < (sorts n t r d b).length → m g0 o = some (.int .u64 (outW n t r d b g w k o))
  go : ∀ q : Nat, (q : Int) < n → m g1 q = some (.bool (decide (ndP t r d b + q * 5 < k) && goneW (ndP t r d b) g w q))
  lo : ∀ c, c ≠ g0 → c ≠ g1 → ∀ o, m c o = m0 c o
omit h in
theorem DrI.next {m0 : Mu} {sb wb g0 g1 : Nat} {w : Nat → Int} {m : Mu} {k : Nat} (H : DrI n t r d b g m0 sb wb g0 g1 w m k) (hd : sb ≠ g0 ∧ sb ≠ g1 ∧ wb ≠ g0 ∧ wb ≠ g1) (hk : k < (sorts n t r d b).length) {x : Int × Int × Int} (hx : (sorts n t r d b)[k]? = some x) {m' : Mu}
    (ho : ∀ o, o < (sorts n t r d b).length → m' g0 o = some (.int .u64 (if o = k then rW g x.1 (w k) else outW n t r d b g w k o)))
    (hg : ∀ q : Nat, (q : Int) < n → m' g1 q = some (.bool (if ndP t r d b + q * 5 = k then goneW (ndP t r d b) g w q else decide (ndP t r d b + q * 5 < k) && goneW (ndP t r d b) g w q)))
    (hc : ∀ c, c ≠ g0 → c ≠ g1 → ∀ o, m' c o = m c o) : DrI n t r d b g m0 sb wb g0 g1 w m' (k + 1) where
  so := H.so.keep (hc sb hd.1 hd.2.1)
  wo o hl := by rw [hc wb hd.2.2.1 hd.2.2.2]; exact H.wo o hl
  ou o hl := by
    rw [ho o hl]
    congr 2
    unfold outW
    by_cases e : o = k
    · subst e; rw [if_pos rfl, if_pos (by omega), hx]; rfl
    · rw [if_neg e]
      by_cases e2 : o < k
      · rw [if_pos e2, if_pos (by omega)]
      · rw [if_neg e2, if_neg (by omega)]
  go q hq := by
    rw [hg q hq]
    congr 2
    by_cases e : ndP t r d b + q * 5 = k
    · rw [if_pos e, decide_eq_true (by omega : ndP t r d b + (q : Int) * 5 < ((k + 1 : Nat) : Int)), Bool.true_and]
    · rw [if_neg e]
      congr 1
      exact decide_eq_decide.2 (by omega)
  lo c h1 h2 o := by rw [hc c h1 h2, H.lo c h1 h2]
/-- A round of the first loop. -/
theorem round23 {m0 : Mu} {sb wb g0 g1 : Nat} {w : Nat → Int} (hw : ∀ o, Wd (w o)) (hd : sb ≠ g0 ∧ sb ≠ g1 ∧ wb ≠ g0 ∧ wb ≠ g1) (hg01 : g0 ≠ g1) {m : Mu} {k : Nat} (H : DrI n t r d b g m0 sb wb g0 g1 w m k) (hk : k < (sorts n t r d b).length) (hL : (sorts n t r d b).length < 1000000) :
    ∃ m', (∀ fr, CodeOk Try.prog (codeAt [true, true, true, true, false, true, false, false] (Try.f23.body.getD .skip)) (L23_1 n t r d b g wb 0 (sorts n t r d b).length sb 0 (sorts n t r d b).length g0 g1 (k : Int) m false fr) .normal (L23_1 n t r d b g wb 0 (sorts n t r d b).length sb 0 (sorts n t r d b).length g0 g1 ((k + 1 : Nat) : Int) m' false fr)) ∧ DrI n t r d b g m0 sb wb g0 g1 w m' (k + 1) := by
  have hnd := h.nd; have hct := h.ct; have hhz := h.hz
  have hx := List.getElem?_eq_getElem hk
  have hcl := sorts_cl h hx
  obtain ⟨x, hxe⟩ : ∃ x, (sorts n t r d b)[k] = x := ⟨_, rfl⟩
  rw [hxe] at hx hcl
  have gx := H.so.get hx
  have ew : IntKind.i64.wrap ((k : Int) + 1) = ((k + 1 : Nat) : Int) := by rw [wrap64 (by omega) (by omega)]; omega
  have e0 : 0 + ((k : Nat) : Int).toNat * 3 = k * 3 := by simp
  have e1 : 0 + ((k : Nat) : Int).toNat * 1 = k := by simp
  have lt1 : decide ((k : Int) < (((sorts n t r d b).length : Nat) : Int)) = true := decide_eq_true (by omega)
  have lt2 : decide ((0 : Int) ≤ (k : Int) ∧ (k : Int) < (((sorts n t r d b).length : Nat) : Int)) = true := decide_eq_true ⟨by omega, by omega⟩
  have isout : (m g0 (0 + ((k : Nat) : Int).toNat * 1)).isSome = true := by rw [e1, H.ou k hk]; rfl
  have hsb : ∀ (v : DV) o, updMu m g0 (0 + ((k : Nat) : Int).toNat * 1) [v] sb o = m sb o := fun v o => by rw [upd1, if_neg (fun hh => hd.1 hh.1)]
  have hwk : outW n t r d b g w k k = w k := by unfold outW; rw [if_neg (by omega)]
  -- a word that is made 0
  have zeroK : (∀ q : Nat, (q : Int) < n → ndP t r d b + q * 5 ≠ k) → rW g x.1 (w k) = 0 → DrI n t r d b g m0 sb wb g0 g1 w (updMu m g0 (0 + ((k : Nat) : Int).toNat * 1) [.int .u64 0]) (k + 1) := fun hq hz =>
    H.next hd hk hx (fun o ho => by
      rw [upd1]
      by_cases e : o = k
      · rw [if_pos ⟨rfl, e⟩, if_pos e, hz]
      · rw [if_neg (fun hh => e hh.2), if_neg e]; exact H.ou o ho) (fun q hqn => by
      rw [upd1, if_neg (fun hh => hg01 hh.1.symm), if_neg (hq q hqn)]; exact H.go q hqn) (fun c h1 h2 o => by rw [upd1, if_neg (fun hh => h1 hh.1)])
  have keepK : (∀ q : Nat, (q : Int) < n → ndP t r d b + q * 5 ≠ k) → rW g x.1 (w k) = w k → DrI n t r d b g m0 sb wb g0 g1 w m (k + 1) := fun hq hz =>
    H.next hd hk hx (fun o ho => by
      by_cases e : o = k
      · rw [if_pos e, hz, e, H.ou k hk, hwk]
      · rw [if_neg e]; exact H.ou o ho) (fun q hqn => by rw [if_neg (hq q hqn)]; exact H.go q hqn) (fun c h1 h2 o => rfl)
  have low5 : x.1 < 5 → (∀ q : Nat, (q : Int) < n → ndP t r d b + q * 5 ≠ k) → ∃ m', (∀ fr, CodeOk Try.prog (codeAt [true, true, true, true, false, true, false, false] (Try.f23.body.getD .skip)) (L23_1 n t r d b g wb 0 (sorts n t r d b).length sb 0 (sorts n t r d b).length g0 g1 (k : Int) m false fr) .normal (L23_1 n t r d b g wb 0 (sorts n t r d b).length sb 0 (sorts n t r d b).length g0 g1 ((k + 1 : Nat) : Int) m' false fr)) ∧ DrI n t r d b g m0 sb wb g0 g1 w m' (k + 1) := fun h5 hq => by
    refine ⟨updMu m g0 (0 + ((k : Nat) : Int).toNat * 1) [.int .u64 0], fun fL => ?_, zeroK hq (by unfold rW; rw [if_pos (.inl h5)])⟩
    rw [← ew]
    exact L23_1_12 (v0 := x.1) (v1 := x.1) lt1 lt2 (by rw [e0]; exact gx.1) (decide_eq_true h5) lt2 isout (by rw [hsb, e0]; exact gx.1) (by rw [Bool.eq_false_iff]; intro hh; have := eq_of_beq hh; omega)
  have plain : ¬ x.1 < 5 → x.1 ≠ 8 → x.1 ≠ 6 → (∀ q : Nat, (q : Int) < n → ndP t r d b + q * 5 ≠ k) → ∃ m', (∀ fr, CodeOk Try.prog (codeAt [true, true, true, true, false, true, false, false] (Try.f23.body.getD .skip)) (L23_1 n t r d b g wb 0 (sorts n t r d b).length sb 0 (sorts n t r d b).length g0 g1 (k : Int) m false fr) .normal (L23_1 n t r d b g wb 0 (sorts n t r d b).length sb 0 (sorts n t r d b).length g0 g1 ((k + 1 : Nat) : Int) m' false fr)) ∧ DrI n t r d b g m0 sb wb g0 g1 w m' (k + 1) := fun h5 h8 h6 hq => by
    refine ⟨m, fun fL => ?_, keepK hq (by unfold rW; rw [if_neg (by omega), if_neg h6])⟩
    rw [← ew]
    exact L23_1_2 (v0 := x.1) (v1 := x.1) (v2 := x.1) lt1 lt2 (by rw [e0]; exact gx.1) (decide_eq_false h5) (by rw [e0]; exact gx.1) (beq_eq_false_iff_ne.2 h8) (by rw [e0]; exact gx.1) (beq_eq_false_iff_ne.2 h6)
  cases hcl with
  | head e => exact low5 (by simp) (fun q hq => by omega)
  | zero x h1 h4 hm => exact low5 (by omega) (fun q hq => by have := plcs_lt h hm; omega)
  | kept x h5 h0 hm hl => exact plain (by omega) (by omega) (by omega) (fun q hq => by omega)
  | next q hq e => exact plain (by simp) (by simp) (by simp) (fun q' hq' => by omega)
  | field q i hq hi e =>
    refine ⟨updMu m g0 (0 + ((k : Nat) : Int).toNat * 1) [.int .u64 0], fun fL => ?_, zeroK (fun q' hq' => by omega) (by unfold rW; rw [if_pos (.inr rfl)])⟩
    rw [← ew]
    exact L23_1_7 (v0 := 8) (v1 := 8) (v2 := 8) lt1 lt2 (by rw [e0]; exact gx.1) (decide_eq_false (by omega)) (by rw [e0]; exact gx.1) rfl lt2 isout (by rw [hsb, e0]; exact gx.1) rfl
  | state q hq e =>
    have hin := st_in (w k)
    have hwo := H.wo k hk
    have wk := hw k
    have hgn : (q : Int) < (((n.toNat : Nat)) : Int) := by omega
    have qin : decide ((0 : Int) ≤ (q : Int) ∧ (q : Int) < ((n.toNat : Nat) : Int)) = true := decide_eq_true ⟨by omega, hgn⟩
    have eq1 : 0 + ((q : Nat) : Int).toNat * 1 = q := by simp
    have isg : (m g1 (0 + ((q : Nat) : Int).toNat * 1)).isSome = true := by rw [eq1, H.go q hq]; rfl
    have ek : (ndP t r d b + q * 5).toNat = k := by omega
    have eX : rW g 6 (w k) = stW g (w k) := by unfold rW; rw [if_neg (by omega), if_pos rfl]
    have egone : goneW (ndP t r d b) g w q = ((stS g (w k)).2.1 == 3) := by unfold goneW; rw [ek]
    have upg : ∀ (mm : Mu) (bv : Bool), bv = goneW (ndP t r d b) g w q → (∀ o, mm g1 o = m g1 o) → ∀ q' : Nat, (q' : Int) < n → updMu mm g1 (0 + ((q : Nat) : Int).toNat * 1) [.bool bv] g1 q' = some (.bool (if ndP t r d b + q' * 5 = k then goneW (ndP t r d b) g w q' else decide (ndP t r d b + q' * 5 < k) && goneW (ndP t r d b) g w q')) := fun mm bv hb hmm q' hq' => by
      rw [upd1]
      by_cases e : q' = q
      · rw [if_pos ⟨rfl, e⟩, e, if_pos (by omega), hb]
      · rw [if_neg (fun hh => e hh.2), if_neg (by omega), hmm]; exact H.go q' hq'
    have hof := of54 wk m
    have keepS : stS g (w k) = (stg (w k), stm (w k), stk (w k)) → stW g (w k) = w k → DrI n t r d b g m0 sb wb g0 g1 w (updMu m g1 (0 + ((q : Nat) : Int).toNat * 1) [.bool (stm (w k) == 3)]) (k + 1) := fun hS hW =>
      H.next hd hk hx (fun o ho => by
        rw [upd1, if_neg (fun hh => hg01 hh.1)]
        by_cases e : o = k
        · rw [if_pos e, eX, hW, e, H.ou k hk, hwk]
        · rw [if_neg e]; exact H.ou o ho) (upg m _ (by rw [egone, hS]) (fun _ => rfl)) (fun c h1 h2 o => by rw [upd1, if_neg (fun hh => h2 hh.1)])
    have freeS : DrI n t r d b g m0 sb wb g0 g1 w (updMu (updMu m g0 (0 + ((k : Nat) : Int).toNat * 1) [.int .u64 (stW g (w k))]) g1 (0 + ((q : Nat) : Int).toNat * 1) [.bool ((stS g (w k)).2.1 == 3)]) (k + 1) :=
      H.next hd hk hx (fun o ho => by
        rw [upd1, if_neg (fun hh => hg01 hh.1), upd1]
        by_cases e : o = k
        · rw [if_pos ⟨rfl, e⟩, if_pos e, eX]
        · rw [if_neg (fun hh => e hh.2), if_neg e]; exact H.ou o ho) (upg _ _ egone.symm (fun o => by rw [upd1, if_neg (fun hh => hg01 hh.1.symm)])) (fun c h1 h2 o => by rw [upd1, if_neg (fun hh => h2 hh.1), upd1, if_neg (fun hh => h1 hh.1)])
    have isg2 : ∀ v : DV, (updMu m g0 (0 + ((k : Nat) : Int).toNat * 1) [v] g1 (0 + ((q : Nat) : Int).toNat * 1)).isSome = true := fun v => by rw [upd1, if_neg (fun hh => hg01 hh.1.symm)]; exact isg
    by_cases hok : stOk? (w k) = true
    case neg =>
      rw [if_neg hok] at hof
      have hS : stS g (w k) = fr g 0 := by unfold stS; rw [if_neg hok]
      have hfi := fr_in (g := g) (a := 0) h.hg.2 (by omega) (by omega)
      refine ⟨_, fun fL => ?_, freeS⟩
      rw [← ew]
      have hW : stW g (w k) = (fr g 0).1 + (fr g 0).2.1 * 1073741824 + (fr g 0).2.2 * 4294967296 := by unfold stW; rw [hS]
      rw [hW, hS]
      have this : CodeOk Try.prog (codeAt [true, true, true, true, false, true, false, false] (Try.f23.body.getD .skip)) (L23_1 n t r d b g wb 0 (sorts n t r d b).length sb 0 (sorts n t r d b).length g0 g1 (k : Int) m false fL) .normal (L23_1 n t r d b g wb 0 (sorts n t r d b).length sb 0 (sorts n t r d b).length g0 g1 (IntKind.i64.wrap ((k : Int) + 1)) (updMu (updMu m g0 (0 + ((k : Nat) : Int).toNat * 1) [.int .u64 ((fr g 0).1 + (fr g 0).2.1 * 1073741824 + (fr g 0).2.2 * 4294967296)]) g1 (0 + ((q : Nat) : Int).toNat * 1) [.bool ((fr g 0).2.1 == 3)]) false fL) := L23_1_6 (v0 := 6) (v1 := 6) (v2 := 6) (v3 := w k) (v7 := (q : Int)) lt1 lt2 (by rw [e0]; exact gx.1) (decide_eq_false (by omega)) (by rw [e0]; exact gx.1) rfl (by rw [e0]; exact gx.1) rfl lt2 (by rw [e1]; exact hwo) hof rfl
        (freed55 (by omega) (by omega) 0 0 m) (word56 hfi.1 hfi.2.1 hfi.2.2.1 hfi.2.2.2.1 (by omega) (by omega) m) isout (by rw [hsb, e0]; exact gx.2.1) qin (isg2 _)
      exact @this
    rw [if_pos hok] at hof
    have hwd := ((stOk_word wk).1 hok).2
    by_cases hm3 : stm (w k) = 3
    · have hS : stS g (w k) = (stg (w k), stm (w k), stk (w k)) := by unfold stS; rw [if_pos hok, if_pos (.inl hm3)]
      refine ⟨_, fun fL => ?_, keepS hS (by unfold stW; rw [hS]; exact hwd)⟩
      rw [← ew]
      exact L23_1_3 (v0 := 6) (v1 := 6) (v2 := 6) (v3 := w k) (v5 := (q : Int)) lt1 lt2 (by rw [e0]; exact gx.1) (decide_eq_false (by omega)) (by rw [e0]; exact gx.1) rfl (by rw [e0]; exact gx.1) rfl lt2 (by rw [e1]; exact hwo) hof rfl
        (by rw [hm3]; rfl) (by rw [e0]; exact gx.2.1) qin isg
    by_cases hm0 : stm (w k) = 0 ∧ stk (w k) = 0
    · have hS : stS g (w k) = (stg (w k), stm (w k), stk (w k)) := by unfold stS; rw [if_pos hok, if_pos (.inr hm0)]
      refine ⟨_, fun fL => ?_, keepS hS (by unfold stW; rw [hS]; exact hwd)⟩
      rw [← ew]
      exact L23_1_4 (v0 := 6) (v1 := 6) (v2 := 6) (v3 := w k) (v5 := (q : Int)) lt1 lt2 (by rw [e0]; exact gx.1) (decide_eq_false (by omega)) (by rw [e0]; exact gx.1) rfl (by rw [e0]; exact gx.1) rfl lt2 (by rw [e1]; exact hwo) hof rfl
        (by rw [hm0.1]; rfl) (by rw [hm0.1, hm0.2]; simp) (by rw [e0]; exact gx.2.1) qin isg
    · have hS : stS g (w k) = fr g (stg (w k)) := by unfold stS; rw [if_pos hok, if_neg (by rintro (hh | hh); exact hm3 hh; exact hm0 hh)]
      have hfi := fr_in (g := g) (a := stg (w k)) h.hg.2 (by omega) (by omega)
      refine ⟨_, fun fL => ?_, freeS⟩
      rw [← ew]
      have hW : stW g (w k) = (fr g (stg (w k))).1 + (fr g (stg (w k))).2.1 * 1073741824 + (fr g (stg (w k))).2.2 * 4294967296 := by unfold stW; rw [hS]
      rw [hW, hS]
      have this : CodeOk Try.prog (codeAt [true, true, true, true, false, true, false, false] (Try.f23.body.getD .skip)) (L23_1 n t r d b g wb 0 (sorts n t r d b).length sb 0 (sorts n t r d b).length g0 g1 (k : Int) m false fL) .normal (L23_1 n t r d b g wb 0 (sorts n t r d b).length sb 0 (sorts n t r d b).length g0 g1 (IntKind.i64.wrap ((k : Int) + 1)) (updMu (updMu m g0 (0 + ((k : Nat) : Int).toNat * 1) [.int .u64 ((fr g (stg (w k))).1 + (fr g (stg (w k))).2.1 * 1073741824 + (fr g (stg (w k))).2.2 * 4294967296)]) g1 (0 + ((q : Nat) : Int).toNat * 1) [.bool ((fr g (stg (w k))).2.1 == 3)]) false fL) := L23_1_5 (v0 := 6) (v1 := 6) (v2 := 6) (v3 := w k) (v7 := (q : Int)) lt1 lt2 (by rw [e0]; exact gx.1) (decide_eq_false (by omega)) (by rw [e0]; exact gx.1) rfl (by rw [e0]; exact gx.1) rfl lt2 (by rw [e1]; exact hwo) hof rfl
        (bne_iff_ne.2 hm3) (by
          rw [Bool.not_eq_true', Bool.eq_false_iff]
          intro hh
          simp only [Bool.and_eq_true, beq_iff_eq, and_true] at hh
          exact hm0 hh.2)
        (freed55 (by omega) (by omega) _ _ m) (word56 hfi.1 hfi.2.1 hfi.2.2.1 hfi.2.2.2.1 (by omega) (by omega) m) isout (by rw [hsb, e0]; exact gx.2.1) qin (isg2 _)
      exact @this
end
end Go.Proofs.Ytkhjkfbgcpjphaa.Fun
