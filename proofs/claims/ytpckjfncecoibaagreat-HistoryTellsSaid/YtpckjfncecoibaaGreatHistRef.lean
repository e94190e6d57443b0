/- HistoryTells: the document's side, and the law. -/
import Derived.Test.YtpckjfncecoibaaGreatHistTells
namespace Go.Proofs.YtpckjfncecoibaaGreat.Fun
open Go
set_option linter.unusedVariables false
set_option linter.unusedSimpArgs false
attribute [local irreducible] CodeOk
/-- No earlier call of the thread, or the last one is ahead. -/
def inR (pre : List Ca) (c : Ca) : Bool := match pre.find? (fun a => c.th == a.th) with | some b => ahC b c | none => true
theorem sr_cons (c : Ca) (l pre : List Ca) : soundR Ca.th ahC badC (c :: l) pre = if badC c then false else if inR pre c then soundR Ca.th ahC badC l (c :: pre) else false := by
  unfold inR
  simp only [soundR]
  cases List.find? (fun a => c.th == a.th) pre <;> rfl
noncomputable abbrev cR : Code := codeAt [true, false, true, false, false] (Tryz.f69.body.getD .skip)
noncomputable abbrev cRL : Code := codeAt [true, false, true, false, false, true, false, false, true, true, true, false] (Tryz.f69.body.getD .skip)
noncomputable abbrev cRI : Code := codeAt [true, false, true, false, false, true, false, false, true, true, true, false, false] (Tryz.f69.body.getD .skip)
noncomputable abbrev LR (xs : List Ca) (k : Int) (m : Mu) : St := L_cubicleref23_Sound_1 (xs.flatMap Ca.cs) xs.length false k m false
noncomputable abbrev LI (xs : List Ca) (k : Int) (c : Ca) (t : Int) (m : Mu) : St := L_cubicleref23_Sound_1i_1 (xs.flatMap Ca.cs) xs.length k c.th c.co c.d c.f c.h c.a c.b c.fr c.to c.e c.v false t m false
section
variable {xs : List Ca} (hlen : xs.length ≤ 30) {m : Mu}
include hlen in
theorem inner (kk : Int) (c : Ca) : ∀ j : Nat, j ≤ xs.length → ∃ t, LoopOk Tryz.prog cRI (LI xs kk c ((j : Int) - 1) m) (if inR (xs.take j).reverse c then .exit 2 else .ret) (LI xs kk c t m)
  | 0, _ => ⟨_, .last (by simp [inR]) (by
      rw [if_pos (by simp [inR])]
      exact L_cubicleref23_Sound_1i_1_1 (decide_eq_false (by omega)))⟩
  | j + 1, hj => by
    obtain ⟨x, hx⟩ : ∃ x, xs[j]? = some x := ⟨xs[j]'(by omega), List.getElem?_eq_getElem (by omega)⟩
    have ht : (xs.take (j + 1)).reverse = x :: (xs.take j).reverse := by
      rw [List.take_add_one, hx]; simp
    have g0 : decide (((j : Nat) : Int) ≥ 0) = true := decide_eq_true (by omega)
    have g1 : decide ((0 : Int) ≤ ((j : Nat) : Int) ∧ ((j : Nat) : Int) < ((xs.length : Nat) : Int)) = true := decide_eq_true (by omega)
    rw [show ((j + 1 : Nat) : Int) - 1 = ((j : Nat) : Int) by omega, ht]
    rcases Bool.eq_false_or_eq_true (x.th == c.th) with e | e
    · have e' : (c.th == x.th) = true := by rw [beq_iff_eq] at e ⊢; exact e.symm
      have hi : inR (x :: (xs.take j).reverse) c = ahC x c := by simp only [inR, List.find?_cons, e']
      rw [hi]
      have ac := ahead68 x c m
      rcases Bool.eq_false_or_eq_true (ahC x c) with h | h
      · rw [h] at ac ⊢
        exact ⟨_, .last (by simp) (by rw [if_pos rfl]; exact L_cubicleref23_Sound_1i_1_3 g0 g1 (thread_at hx) e (call_at hx) ac rfl)⟩
      · rw [h] at ac ⊢
        exact ⟨_, .last (by simp) (by rw [if_neg (by simp)]; exact L_cubicleref23_Sound_1i_1_4 g0 g1 (thread_at hx) e (call_at hx) ac rfl)⟩
    · have e' : (c.th == x.th) = false := by rw [beq_eq_false_iff_ne] at e ⊢; exact fun q => e q.symm
      have hi : inR (x :: (xs.take j).reverse) c = inR (xs.take j).reverse c := by simp only [inR, List.find?_cons, e']
      rw [hi]
      obtain ⟨t, q⟩ := inner kk c j (by omega)
      have w : IntKind.i64.wrap (((j : Nat) : Int) - 1) = ((j : Nat) : Int) - 1 := wrap64' (by omega) (by omega)
      have st : CodeOk Tryz.prog cRI (LI xs kk c ((j : Nat) : Int) m) .normal (LI xs kk c (IntKind.i64.wrap (((j : Nat) : Int) - 1)) m) := L_cubicleref23_Sound_1i_1_2 g0 g1 (thread_at hx) e
      rw [w] at st
      exact ⟨t, .step st q⟩
variable {k : Nat} {c : Ca}
include hlen in
theorem ref_bad (hk : xs[k]? = some c) (hb : badC c = true) : CodeOk Tryz.prog cR (LR xs k m) .ret (LR xs k m) := by
  obtain ⟨h0, h1, _⟩ := round_in hlen hk
  unfold badC at hb
  cases e1 : opG c.op with
  | false => exact L_cubicleref23_Sound_1_14 h0 h1 (call_at hk) (formed130 c m) (by rw [e1]; rfl)
  | true =>
    rw [e1] at hb
    have f1 : (!(opG c.op)) = false := by rw [e1]; rfl
    cases e2 : decide (c.fr < 0) with
    | true => exact L_cubicleref23_Sound_1_13 h0 h1 (call_at hk) (formed130 c m) f1 (by exact e2)
    | false =>
      rw [e2] at hb
      cases e3 : c.to != -1 with
      | false =>
        have e4 : (c.to == -1) = true := by simpa [bne] using e3
        rw [e3, e4] at hb
        have e5 : (!((c.e == 0) && ((c.v == 0) && true))) = true := by simpa using hb
        cases e6 : decide (c.to < c.fr) with
        | false => exact L_cubicleref23_Sound_1_6 h0 h1 (call_at hk) (formed130 c m) f1 e2 e6 e4 (by exact e5)
        | true => exact L_cubicleref23_Sound_1_11 h0 h1 (call_at hk) (formed130 c m) f1 e2 e6 e3 e4 (by exact e5)
      | true =>
        have e4 : (c.to == -1) = false := by simpa [bne] using e3
        rw [e3, e4] at hb
        have e5 : decide (c.to < c.fr) = true := by simpa using hb
        exact L_cubicleref23_Sound_1_12 h0 h1 (call_at hk) (formed130 c m) f1 e2 e5 (by exact e3)
include hlen in
theorem ref_go {t : Int} (hk : xs[k]? = some c) (hb : badC c = false) (hi : CodeOk Tryz.prog cRL (LI xs k c (IntKind.i64.wrap (((k : Nat) : Int) - 1)) m) (.exit 2) (LI xs k c t m)) :
    CodeOk Tryz.prog cR (LR xs k m) .normal (LR xs ((k + 1 : Nat) : Int) m) := by
  obtain ⟨h0, h1, hw⟩ := round_in hlen hk
  obtain ⟨e1, e2, e3⟩ := good_of hb
  have f1 : (!(opG c.op)) = false := by rw [e1]; rfl
  rw [← hw]
  rcases e3 with ⟨e3, e4, e5⟩ | ⟨e3, e4, e5⟩
  · exact L_cubicleref23_Sound_1_2 h0 h1 (call_at hk) (formed130 c m) f1 e2 e5 e4 hi
  · cases e6 : decide (c.to < c.fr) with
    | false => exact L_cubicleref23_Sound_1_4 h0 h1 (call_at hk) (formed130 c m) f1 e2 e6 e4 e5 hi
    | true => exact L_cubicleref23_Sound_1_9 h0 h1 (call_at hk) (formed130 c m) f1 e2 e6 e3 e4 e5 hi
include hlen in
theorem ref_stop {t : Int} (hk : xs[k]? = some c) (hb : badC c = false) (hi : CodeOk Tryz.prog cRL (LI xs k c (IntKind.i64.wrap (((k : Nat) : Int) - 1)) m) .ret (LI xs k c t m)) :
    CodeOk Tryz.prog cR (LR xs k m) .ret (LR xs k m) := by
  obtain ⟨h0, h1, hw⟩ := round_in hlen hk
  obtain ⟨e1, e2, e3⟩ := good_of hb
  have f1 : (!(opG c.op)) = false := by rw [e1]; rfl
  rcases e3 with ⟨e3, e4, e5⟩ | ⟨e3, e4, e5⟩
  · exact L_cubicleref23_Sound_1_3 h0 h1 (call_at hk) (formed130 c m) f1 e2 e5 e4 hi
  · cases e6 : decide (c.to < c.fr) with
    | false => exact L_cubicleref23_Sound_1_5 h0 h1 (call_at hk) (formed130 c m) f1 e2 e6 e4 e5 hi
    | true => exact L_cubicleref23_Sound_1_10 h0 h1 (call_at hk) (formed130 c m) f1 e2 e6 e3 e4 e5 hi
include hlen in
theorem loopR : ∀ (l : List Ca) (k : Nat), xs.drop k = l → ∃ k' : Int, LoopOk Tryz.prog cR (LR xs k m) (if soundR Ca.th ahC badC l (xs.take k).reverse then .exit 0 else .ret) (LR xs k' m)
  | [], k, hd => by
    have hk : xs.length ≤ k := List.drop_eq_nil_iff.1 hd
    exact ⟨k, .last (by simp [soundR]) (by
      rw [show soundR Ca.th ahC badC [] (xs.take k).reverse = true from rfl, if_pos rfl]
      exact L_cubicleref23_Sound_1_1 (decide_eq_false (by omega)))⟩
  | c :: l, k, hd => by
    have hk : xs[k]? = some c := by
      have : (xs.drop k)[0]? = some c := by rw [hd]; rfl
      rw [List.getElem?_drop] at this; simpa using this
    have hd' : xs.drop (k + 1) = l := by rw [← List.drop_drop, hd]; rfl
    have ht : (xs.take (k + 1)).reverse = c :: (xs.take k).reverse := by
      rw [List.take_add_one, hk]; simp
    have hkl := (List.getElem?_eq_some_iff.1 hk).1
    have w : IntKind.i64.wrap (((k : Nat) : Int) - 1) = ((k : Nat) : Int) - 1 := wrap64' (by omega) (by omega)
    rw [sr_cons]
    rcases Bool.eq_false_or_eq_true (badC c) with hb | hb
    · rw [hb, if_pos rfl]
      exact ⟨k, .last (by simp) (by rw [if_neg (by simp)]; exact ref_bad hlen hk hb)⟩
    · rw [show (if badC c = true then false else if inR (xs.take k).reverse c = true then soundR Ca.th ahC badC l (c :: (xs.take k).reverse) else false) = (if inR (xs.take k).reverse c = true then soundR Ca.th ahC badC l (c :: (xs.take k).reverse) else false) by rw [hb]; rfl]
      obtain ⟨t, q⟩ := inner hlen (m := m) k c k (by omega)
      rw [← w] at q
      rcases Bool.eq_false_or_eq_true (inR (xs.take k).reverse c) with hi | hi
      · rw [hi, if_pos rfl] at q
        rw [hi, if_pos rfl, ← ht]
        obtain ⟨k', q'⟩ := loopR l (k + 1) hd'
        exact ⟨k', .step (ref_go hlen hk hb (by show CodeOk _ cRL _ _ _; rw [show cRL = .loop cRI from L_cubicleref23_Sound_1i_1_loop]; exact q.code)) q'⟩
      · rw [hi, if_neg (by simp)] at q
        rw [show (if inR (xs.take k).reverse c = true then soundR Ca.th ahC badC l (c :: (xs.take k).reverse) else false) = false by rw [hi]; rfl]
        exact ⟨k, .last (by simp) (by rw [if_neg (by simp)]; exact ref_stop hlen hk hb (by show CodeOk _ cRL _ _ _; rw [show cRL = .loop cRI from L_cubicleref23_Sound_1i_1_loop]; exact q.code))⟩
include hlen in
theorem soundR_ok (m : Mu) : CallOk Tryz.prog 69 [.slice (xs.flatMap Ca.cs) xs.length] m (.bool (soundH Ca.th ahC badC xs [])) m false [] := by
  obtain ⟨k', q⟩ := loopR hlen (m := m) xs 0 rfl
  have c : CodeOk Tryz.prog (codeAt [true, false, true, false] (Tryz.f69.body.getD .skip)) (LR xs 0 m) (if soundR Ca.th ahC badC xs [] then .exit 0 else .ret) (LR xs k' m) := by
    rw [L_cubicleref23_Sound_1_loop]; exact q.code
  rw [sound_same Ca.th ahC badC xs [] [] (fun _ => rfl)]
  cases hs : soundR Ca.th ahC badC xs [] with
  | true => rw [hs, if_pos rfl] at c; exact f_cubicleref23_Sound_1 c
  | false => rw [hs, if_neg (by simp)] at c; exact f_cubicleref23_Sound_2 c
/-- The law's loops. -/
noncomputable abbrev cT : Code := codeAt [true, true, false, true, false, false] (Tryz.f12.body.getD .skip)
noncomputable abbrev cTL : Code := codeAt [true, true, false, true, false, false, true, false, false, true, false] (Tryz.f12.body.getD .skip)
noncomputable abbrev cTI : Code := codeAt [true, true, false, true, false, false, true, false, false, true, false, false] (Tryz.f12.body.getD .skip)
noncomputable abbrev LT (xs : List Ca) (i : Int) (m : Mu) (fr : List Nat) : St := L_cubiclelaw23_HistoryTells_1 (xs.flatMap Ca.cs) xs.length false i m false fr
noncomputable abbrev LTI (xs : List Ca) (i j : Int) (m : Mu) (fr : List Nat) : St := L_cubiclelaw23_HistoryTells_1i_1 (xs.flatMap Ca.cs) xs.length i false j m false fr
include hlen in
theorem inT {fr : List Nat} {x : Ca} {i : Nat} (hi : xs[i]? = some x) : ∀ (d j : Nat), j + d = xs.length → LoopOk Tryz.prog cTI (LTI xs i j m fr) (.exit 2) (LTI xs i xs.length m fr)
  | 0, j, h => by
    have : j = xs.length := by omega
    subst this
    exact .last (by simp) (L_cubiclelaw23_HistoryTells_1i_1_1 (decide_eq_false (by omega)))
  | d + 1, j, h => by
    obtain ⟨y, hy⟩ : ∃ y, xs[j]? = some y := ⟨xs[j]'(by omega), List.getElem?_eq_getElem (by omega)⟩
    obtain ⟨h0, h1, hw⟩ := round_in hlen hy
    obtain ⟨_, h3, _⟩ := round_in hlen hi
    have st : CodeOk Tryz.prog cTI (LTI xs i j m fr) .normal (LTI xs i (IntKind.i64.wrap (((j : Nat) : Int) + 1)) m fr) :=
      L_cubiclelaw23_HistoryTells_1i_1_2 h0 h3 (call_at hi) h1 (call_at hy) (ahead67 x y m) (call_at hi) (call_at hy) (ahead68 x y m) (by cases ahC x y <;> rfl)
    rw [hw] at st
    exact .step st (inT hi d (j + 1) (by omega))
include hlen in
theorem loopT {fr : List Nat} : ∀ (d i : Nat), i + d = xs.length → LoopOk Tryz.prog cT (LT xs i m fr) (.exit 0) (LT xs xs.length m fr)
  | 0, i, h => by
    have : i = xs.length := by omega
    subst this
    exact .last (by simp) (L_cubiclelaw23_HistoryTells_1_1 (decide_eq_false (by omega)))
  | d + 1, i, h => by
    obtain ⟨x, hx⟩ : ∃ y, xs[i]? = some y := ⟨xs[i]'(by omega), List.getElem?_eq_getElem (by omega)⟩
    obtain ⟨h0, _, hw⟩ := round_in hlen hx
    have q := (inT hlen (m := m) (fr := fr) hx xs.length 0 (by omega)).code
    have st : CodeOk Tryz.prog cT (LT xs i m fr) .normal (LT xs (IntKind.i64.wrap (((i : Nat) : Int) + 1)) m fr) :=
      L_cubiclelaw23_HistoryTells_1_2 h0 (by show CodeOk _ cTL _ _ _; rw [show cTL = .loop cTI from L_cubiclelaw23_HistoryTells_1i_1_loop]; exact q)
    rw [hw] at st
    exact .step st (loopT d (i + 1) (by omega))
end
theorem tells_ok (xs : List Ca) (m : Mu) (g : Nat) : ∃ m', CallOk Tryz.prog 12 [.slice (xs.flatMap Ca.cs) xs.length] m (.bool true) m' false [g] := by
  have aw := awakeH_ok m
  by_cases h : xs.length ≤ 30
  · obtain ⟨m', hs⟩ := soundH_ok h m g
    have c : CodeOk Tryz.prog (codeAt [true, true, false, true, false] (Tryz.f12.body.getD .skip)) (LT xs 0 m [g]) (.exit 0) (LT xs xs.length m [g]) := by
      rw [L_cubiclelaw23_HistoryTells_1_loop]; exact (loopT h xs.length 0 (by omega)).code
    have := f_cubiclelaw23_HistoryTells_1 (F := [g]) (fs1 := [g]) aw rfl (decide_eq_false (by omega)) c hs (by simp) (soundR_ok h m')
    rw [beq_self_eq_true] at this
    exact ⟨m', this⟩
  · exact ⟨m, f_cubiclelaw23_HistoryTells_3 aw rfl (decide_eq_true (by omega)) aw⟩
end Go.Proofs.YtpckjfncecoibaaGreat.Fun
