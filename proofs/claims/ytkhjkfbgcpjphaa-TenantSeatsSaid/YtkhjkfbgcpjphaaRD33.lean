/- tenant.New: a house of plans. -/
import Derived.Test.YtkhjkfbgcpjphaaRD32
namespace Go.Proofs.Ytkhjkfbgcpjphaa.Fun
open Go
set_option linter.unusedVariables false
/-- A house that is built, with k tenants: the house at a, then two names a tenant. -/
structure HouseK (m : Mu) (a k : Nat) (ps : List P6) : Prop where
  mem : m a 0 = some .nilp
  l : m a 1 = some (.vec (a + 2 * k) 0 k 7)
  sizes : ∀ (i : Nat) (p : P6), i < k → ps[i]? = some p → m (a + 2 * k - 1) i = some (.int .i64 p.sz)
  tens : ∀ (i : Nat) (p : P6) (j : Nat) (c : DV), i < k → ps[i]? = some p → (p.dv ++ [.bool true])[j]? = some c → m (a + 2 * k) (i * 7 + j) = some c
/-- A house: its memory, its tenants' row. -/
structure HouseF (m : Mu) (hb mb lrow : Nat) (ps : List P6) (lv : Nat → Bool) : Prop where
  mem : m hb 0 = some (.adr mb 0)
  l : m hb 1 = some (.vec lrow 0 ps.length 7)
  tens : ∀ (i : Nat) (p : P6) (j : Nat) (c : DV), ps[i]? = some p → (p.dv ++ [.bool (lv i)])[j]? = some c → m lrow (i * 7 + j) = some c
theorem dvlen (p : P6) (b : Bool) : (p.dv ++ [DV.bool b]).length = 7 := by simp [P6.dv]
/-- A tenant more. -/
def houseNext (m : Mu) (a k b1 n1 b2 n2 : Nat) (p : P6) : Mu := updMu (appMu (appMu m b1 n1 (a + 2 * k + 1) [.int .i64 p.sz]) b2 n2 (a + 2 * k + 2) (p.dv ++ [.bool true])) a 1 [.vec (a + 2 * k + 2) 0 (k + 1) 7]
theorem houseNext_ok {m : Mu} {a k b1 n1 b2 n2 : Nat} {p : P6} {ps : List P6} (hb : (k = 0 ∧ b1 = a + 1 ∧ n1 = 0 ∧ b2 = a + 2 ∧ n2 = 0) ∨ (1 ≤ k ∧ b1 = a + 2 * k - 1 ∧ n1 = k * 1 ∧ b2 = a + 2 * k ∧ n2 = k * 7)) (hp : ps[k]? = some p) (h0 : m a 0 = some .nilp) (h : 1 ≤ k → HouseK m a k ps) :
    HouseK (houseNext m a k b1 n1 b2 n2 p) a (k + 1) ps ∧ Low a m (houseNext m a k b1 n1 b2 n2 p) := by
  have sz : ∀ o, houseNext m a k b1 n1 b2 n2 p (a + 2 * k + 1) o = if o < n1 then m b1 o else [DV.int .i64 p.sz][o - n1]? := fun o => by
    unfold houseNext
    rw [updMu_get, if_neg (by omega), appMu_low (by omega) (by omega), appMu_at]
  have tn : ∀ o, houseNext m a k b1 n1 b2 n2 p (a + 2 * k + 2) o = if o < n2 then (if 1 ≤ k then m b2 o else none) else (p.dv ++ [DV.bool true])[o - n2]? := fun o => by
    unfold houseNext
    rw [updMu_get, if_neg (by omega), appMu_at]
    by_cases ho : o < n2
    · rw [if_pos ho, if_pos ho]
      rcases hb with ⟨_, _, _, _, h⟩ | ⟨h1, rfl, _, rfl, _⟩
      · omega
      · rw [if_pos h1, appMu_low (by omega) (by omega)]
    · rw [if_neg ho, if_neg ho]
  refine ⟨⟨?_, ?_, fun i q hi hq => ?_, fun i q j c hi hq hc => ?_⟩, fun c hc o => ?_⟩
  · unfold houseNext
    rw [updMu_get, if_neg (by simp), appMu_low (by omega) (by omega), appMu_low (by omega) (by omega)]; exact h0
  · unfold houseNext
    rw [updMu_get, if_pos ⟨rfl, Nat.le_refl _, by simp⟩]; simp; omega
  · rw [show a + 2 * (k + 1) - 1 = a + 2 * k + 1 by omega, sz]
    by_cases hik : i < k
    · rcases hb with ⟨h0, _⟩ | ⟨h1, rfl, rfl, _, _⟩
      · omega
      · rw [if_pos (by omega)]; exact (h h1).sizes i q hik hq
    · obtain rfl : i = k := by omega
      rw [hp] at hq; cases hq
      rw [if_neg (by omega), show i - n1 = 0 by omega]; rfl
  · have hj : j < 7 := by
      have := (List.getElem?_eq_some_iff.1 hc).1
      rwa [dvlen] at this
    rw [show a + 2 * (k + 1) = a + 2 * k + 2 by omega, tn]
    by_cases hik : i < k
    · rcases hb with ⟨h0, _⟩ | ⟨h1, _, _, rfl, rfl⟩
      · omega
      · rw [if_pos (by omega), if_pos h1]; exact (h h1).tens i q j c hik hq hc
    · obtain rfl : i = k := by omega
      rw [hp] at hq; cases hq
      rw [if_neg (by omega), show i * 7 + j - n2 = j by omega]; exact hc
  · unfold houseNext
    rw [updMu_get, if_neg (by omega), appMu_low (by omega) (by omega), appMu_low (by omega) (by omega)]
namespace C
/-- The first loop of New, from its round k on. -/
theorem loop11 (ps : List P6) (hfew : ∀ p ∈ ps, p.fm → p.ok) (h6 : ps.length ≤ 6) (m : Mu) (a R : Nat) : ∀ (j k : Nat), 1 ≤ k → k + j = ps.length → ∀ mk : Mu, HouseK mk a k ps → (∀ (i : Nat) (p : P6), i < k → ps[i]? = some p → p.fm) → Low a m mk →
    (∃ m', LoopOk Try.prog (codeAt [true, true, true, true, false, true, false, false] (Try.f11.body.getD .skip)) (L11_1 (ps.flatMap P6.dv) ps.length a 0 (.vec (a + 2 * k - 1) 0 k 1) (k : Int) mk false (nms (a + 1 + 2 * k) (2 * j + R))) (.exit 0) (L11_1 (ps.flatMap P6.dv) ps.length a 0 (.vec (a + 2 * ps.length - 1) 0 ps.length 1) (ps.length : Int) m' false (nms (a + 1 + 2 * ps.length) R)) ∧ HouseK m' a ps.length ps ∧ (∀ p ∈ ps, p.fm) ∧ Low a m m') ∨
    (∃ x b nn m' fr, LoopOk Try.prog (codeAt [true, true, true, true, false, true, false, false] (Try.f11.body.getD .skip)) (L11_1 (ps.flatMap P6.dv) ps.length a 0 (.vec (a + 2 * k - 1) 0 k 1) (k : Int) mk false (nms (a + 1 + 2 * k) (2 * j + R))) .ret (L11_1 (ps.flatMap P6.dv) ps.length a 1 (.vec b 0 nn 1) x m' false fr) ∧ ∃ p ∈ ps, ¬ p.fm)
  | 0, k, hk1, hk, mk, hm, hfm, lw => by
    obtain rfl : k = ps.length := by omega
    refine .inl ⟨mk, ?_, hm, fun p hp => ?_, lw⟩
    · rw [Nat.mul_zero, Nat.zero_add]
      exact .last (by simp) (L11_1_1 (decide_eq_false (by omega)))
    · obtain ⟨i, hi, rfl⟩ := List.getElem_of_mem hp
      exact hfm i _ hi (List.getElem?_eq_getElem hi)
  | j + 1, k, hk1, hk, mk, hm, hfm, lw => by
    have hw : IntKind.i64.wrap ((k : Int) + 1) = ((k + 1 : Nat) : Int) := by rw [wrap64 (by omega) (by omega)]; omega
    obtain ⟨p, hp⟩ : ∃ p, ps[k]? = some p := ⟨ps[k]'(by omega), List.getElem?_eq_getElem (by omega)⟩
    have hfl := flat6 ps k p hp
    have h37 := formed37d p mk
    obtain ⟨G, hG⟩ : ∃ G, G = nms (a + 1 + 2 * k) (2 * (j + 1) + R) := ⟨_, rfl⟩
    rw [← hG]
    by_cases hf : p.fm
    case neg =>
      rw [decide_eq_false hf] at h37
      refine .inr ⟨(k : Int), a + 2 * k - 1, k, mk, G, .last (by simp) ?_, p, List.mem_of_getElem? hp, hf⟩
      have this : CodeOk Try.prog (codeAt [true, true, true, true, false, true, false, false] (Try.f11.body.getD .skip)) (L11_1 (ps.flatMap P6.dv) ps.length a 0 (.vec (a + 2 * k - 1) 0 k 1) (k : Int) mk false G) .ret (L11_1 (ps.flatMap P6.dv) ps.length a 1 (.vec (a + 2 * k - 1) 0 k 1) (k : Int) mk false G) :=
        L11_1_4 (decide_eq_true (by omega)) (decide_eq_true (by omega)) (by rw [Int.toNat_natCast]; exact hfl) h37 rfl
      exact @this
    rw [decide_eq_true hf] at h37
    have hok := hfew p (List.mem_of_getElem? hp) hf
    obtain ⟨hm', lw'⟩ := houseNext_ok (.inr ⟨hk1, rfl, rfl, rfl, rfl⟩) hp hm.mem (fun _ => hm)
    have s1 := namesStep (a := a + 1 + 2 * k) (j := 1) (r := 1 + 2 * j + R) (G := G) (by rw [hG]; congr 1; omega)
    have s2 := namesStep (j := 1) (r := 2 * j + R) (s1.2.trans (by congr 1; omega))
    have n1 : nms (a + 1 + 2 * k) 1 = [a + 2 * k + 1] := by simp [nms]; omega
    have n2 : nms (a + 1 + 2 * k + 1) 1 = [a + 2 * k + 2] := by simp [nms]; omega
    rw [n1] at s1 s2
    rw [n2] at s2
    have this : CodeOk Try.prog (codeAt [true, true, true, true, false, true, false, false] (Try.f11.body.getD .skip)) (L11_1 (ps.flatMap P6.dv) ps.length a 0 (.vec (a + 2 * k - 1) 0 k 1) (k : Int) mk false G) .normal (L11_1 (ps.flatMap P6.dv) ps.length a 0 (.vec (a + 2 * k + 1) 0 (k + 1) 1) (IntKind.i64.wrap ((k : Int) + 1)) (houseNext mk a k (a + 2 * k - 1) (k * 1) (a + 2 * k) (k * 7) p) false (offUse [a + 2 * k + 2] (offUse [a + 2 * k + 1] G))) :=
      L11_1_2 (v3b := a + 2 * k) (v3n := k) (decide_eq_true (by omega)) (decide_eq_true (by omega)) (by rw [Int.toNat_natCast]; exact hfl) h37 rfl (size38 hok mk) (decide_eq_true ⟨by omega, by omega, rfl⟩)
        (List.all_eq_true.2 fun o ho => by
          have ho : o < k := by simpa using ho
          rw [hm.sizes o (ps[o]'(by omega)) ho (List.getElem?_eq_getElem (by omega))]; rfl) s1.1 (by rw [appMu_low (by omega) (by omega)]; exact hm.l) (decide_eq_true ⟨by omega, by omega, rfl⟩)
        (List.all_eq_true.2 fun o ho => by
          have ho : o < k * 7 := by simpa using ho
          rw [appMu_low (by omega) (by omega)]
          have hq : ps[o / 7]? = some (ps[o / 7]'(by omega)) := List.getElem?_eq_getElem (by omega)
          have := hm.tens (o / 7) _ (o % 7) (((ps[o / 7]'(by omega)).dv ++ [.bool true])[o % 7]'(by rw [dvlen]; omega)) (by omega) hq (List.getElem?_eq_getElem (by rw [dvlen]; omega))
          rw [show o / 7 * 7 + o % 7 = o by omega] at this
          rw [this]; rfl) s2.1 (by rw [appMu_low (by omega) (by omega), appMu_low (by omega) (by omega), hm.l]; rfl)
    rw [hw, s2.2] at this
    rcases loop11 ps hfew h6 m a R j (k + 1) (by omega) (by omega) _ hm' (fun i q hi hq => by
      by_cases hik : i < k
      · exact hfm i q hik hq
      · obtain rfl : i = k := by omega
        rw [hp] at hq; cases hq; exact hf) (lw.trans lw') with ⟨m', q1, q2, q3, q4⟩ | ⟨x, b, nn, m', fr, q1, q2⟩
    · refine .inl ⟨m', .step (s1 := L11_1 (ps.flatMap P6.dv) ps.length a 0 (.vec (a + 2 * (k + 1) - 1) 0 (k + 1) 1) ((k + 1 : Nat) : Int) (houseNext mk a k (a + 2 * k - 1) (k * 1) (a + 2 * k) (k * 7) p) false (nms (a + 1 + 2 * (k + 1)) (2 * j + R))) ?_ q1, q2, q3, q4⟩
      rw [show a + 2 * (k + 1) - 1 = a + 2 * k + 1 by omega, show a + 1 + 2 * (k + 1) = a + 1 + 2 * k + 1 + 1 by omega]
      exact @this
    · refine .inr ⟨x, b, nn, m', fr, .step (s1 := L11_1 (ps.flatMap P6.dv) ps.length a 0 (.vec (a + 2 * (k + 1) - 1) 0 (k + 1) 1) ((k + 1 : Nat) : Int) (houseNext mk a k (a + 2 * k - 1) (k * 1) (a + 2 * k) (k * 7) p) false (nms (a + 1 + 2 * (k + 1)) (2 * j + R))) ?_ q1, q2⟩
      rw [show a + 2 * (k + 1) - 1 = a + 2 * k + 1 by omega, show a + 1 + 2 * (k + 1) = a + 1 + 2 * k + 1 + 1 by omega]
      exact @this
end C
end Go.Proofs.Ytkhjkfbgcpjphaa.Fun
