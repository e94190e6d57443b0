/- tenant.New: a house of plans. -/
import Derived.Test.YtkhjkfbgcpjphaaRD32
namespace Go.Proofs.Ytkhjkfbgcpjphaa.Fun
open Go
set_option linter.unusedVariables false
/-- A house that is built, with k tenants: the house at a, then two names a tenant. -/
structure HouseK (m : Mu) (a k : Nat) (ps : List P6) : Prop where
  mem : m a 0 = some .nilp
  l : m a 1 = some (.vec (a + 2 * k) 0 k 7)
  sizes : ∀ (i : Nat) (p : P6), i < k → ps[i]? = some p → m (a + 2 * k - 1) i = some (.int .i64 p.sz)
  tens : ∀ (i : Nat) (p : P6) (j : Nat) (c : DV), i < k → ps[i]? = some p → (p.dv ++ [.bool true])[j]? = some c → m (a + 2 * k) (i * 7 + j) = some c
/-- A house: its memory, its tenants' row. -/
structure HouseF (m : Mu) (hb mb lrow : Nat) (ps : List P6) (lv : Nat → Bool) : Prop where
  mem : m hb 0 = some (.adr mb 0)
  l : m hb 1 = some (.vec lrow 0 ps.length 7)
  tens : ∀ (i : Nat) (p : P6) (j : Nat) (c : DV), ps[i]? = some p → (p.dv ++ [.bool (lv i)])[j]? = some c → m lrow (i * 7 + j) = some c
theorem dvlen (p : P6) (b : Bool) : (p.dv ++ [DV.bool b]).length = 7 := by simp [P6.dv]
/-- A tenant more. -/
def houseNext (m : Mu) (a k b1 n1 b2 n2 : Nat) (p : P6) : Mu := updMu (appMu (appMu m b1 n1 (a + 2 * k + 1) [.int .i64 p.sz]) b2 n2 (a + 2 * k + 2) (p.dv ++ [.bool true])) a 1 [.vec (a + 2 * k + 2) 0 (k + 1) 7]
theorem houseNext_ok {m : Mu} {a k b1 n1 b2 n2 : Nat} {p : P6} {ps : List P6} (hb : (k = 0 ∧ b1 = a + 1 ∧ n1 = 0 ∧ b2 = a + 2 ∧ n2 = 0) ∨ (1 ≤ k ∧ b1 = a + 2 * k - 1 ∧ n1 = k * 1 ∧ b2 = a + 2 * k ∧ n2 = k * 7)) (hp : ps[k]? = some p) (h0 : m a 0 = some .nilp) (h : 1 ≤ k → HouseK m a k ps) :
    HouseK (houseNext m a k b1 n1 b2 n2 p) a (k + 1) ps ∧ Low a m (houseNext m a k b1 n1 b2 n2 p) := by
  have sz : ∀ o, houseNext m a k b1 n1 b2 n2 p (a + 2 * k + 1) o = if o < n1 then m b1 o else [DV.int .i64 p.sz][o - n1]? := fun o => by
    unfold houseNext
    rw [updMu_get, if_neg (by omega), appMu_low (by omega) (by omega), appMu_at]
  have tn : ∀ o, houseNext m a k b1 n1 b2 n2 p (a + 2 * k + 2) o = if o < n2 then (if 1 ≤ k then m b2 o else none) else (p.dv ++ [DV.bool true])[o - n2]? := fun o => by
    unfold houseNext
    rw [updMu_get, if_neg (by omega), appMu_at]
    by_cases ho : o < n2
    · rw [if_pos ho, if_pos ho]
      rcases hb with ⟨_, _, _, _, h⟩ | ⟨h1, rfl, _, rfl, _⟩
      · omega
      · rw [if_pos h1, appMu_low (by omega) (by omega)]
    · rw [if_neg ho, if_neg ho]
  refine ⟨⟨?_, ?_, fun i q hi hq => ?_, fun i q j c hi hq hc => ?_⟩, fun c hc o => ?_⟩
  · unfold houseNext
    rw [updMu_get, if_neg (by simp), appMu_low (by omega) (by omega), appMu_low (by omega) (by omega)]; exact h0
  · unfold houseNext
    rw [updMu_get, if_pos ⟨rfl, Nat.le_refl _, by simp⟩]; simp; omega
  · rw [show a + 2 * (k + 1) - 1 = a + 2 * k + 1 by omega, sz]
    by_cases hik : i < k
    · rcases hb with ⟨h0, _⟩ | ⟨h1, rfl, rfl, _, _⟩
      · omega
      · rw [if_pos (by omega)]; exact (h h1).sizes i q hik hq
    · obtain rfl : i = k := by omega
      rw [hp] at hq; cases hq
      rw [if_neg (by omega), show i - n1 = 0 by omega]; rfl
  · have hj : j < 7 := by
      have := (List.getElem?_eq_some_iff.1 hc).1
      rwa [dvlen] at this
    rw [show a + 2 * (k + 1) = a + 2 * k + 2 by omega, tn]
    by_cases hik : i < k
    · rcases hb with ⟨h0, _⟩ | ⟨h1, _, _, rfl, rfl⟩
      · omega
      · rw [if_pos (by omega), if_pos h1]; exact (h h1).tens i q j c hik hq hc
    · obtain rfl : i = k := by omega
      rw [hp] at hq; cases hq
      rw [if_neg (by omega), show i * 7 + j - n2 = j by omega]; exact hc
  · unfold houseNext
    rw [updMu_get, if_neg (by omega), appMu_low (by omega) (by omega), appMu_low (by omega) (by omega)]
namespace C
/-- The first loop of New, from its round k on. -/
theorem loop11 (ps : List P6) (hfew : ∀ p ∈ ps, p.fm → p.ok) (h6 : ps.length ≤ 6) (m : Mu) (a R : Nat) : ∀ (j k : Nat), 1 ≤ k → k + j = ps.length → ∀ mk : Mu, HouseK mk a k ps → (∀ (i : Nat) (p : P6), i < k → ps[i]? = some p → p.fm) → Low a m mk →
    (∃ m', LoopOk Try.prog (codeAt [true, true, true, true, false, true, false, false] (Try.f11.body.getD .skip)) (L11_1 (ps.flatMap P6.dv) ps.length a 0 (.vec (a + 2 * k - 1) 0 k 1) (k : Int) mk false (nms (a + 1 + 2 * k) (2 * j + R))) (.exit 0) (L11_1 (ps.flatMap P6.dv) ps.length a 0 (.vec (a + 2 * ps.length - 1) 0 ps.length 1) (ps.length : Int) m' false (nms (a + 1 + 2 * ps.length) R)) ∧ HouseK m' a ps.length ps ∧ (∀ p ∈ ps, p.fm) ∧ Low a m m') ∨
    (∃ x b nn m' fr, LoopOk Try.prog (codeAt [true, true, true, true, false, true, false, false] (Try.f11.body.getD .skip)) (L11_1 (ps.flatMap P6.dv) ps.length a 0 (.vec (a + 2 * k - 1) 0 k 1) (k : Int) mk false (nms (a + 1 + 2 * k) (2 * j + R))) .ret (L11_1 (ps.flatMap P6.dv) ps.length a 1 (.vec b 0 nn 1) x m' false fr) ∧ ∃ p ∈ ps, ¬ p.fm)
  | 0, k, hk1, hk, mk, hm, hfm, lw => by
    obtain rfl : k = ps.length := by omega
    refine .inl ⟨mk, ?_, hm, fun p hp => ?_, lw⟩
    · rw [Nat.mul_zero, Nat.zero_add]
      exact .last (by simp) (L11_1_1 (decide_eq_false (by omega)))
    · obtain ⟨i, hi, rfl⟩ := List.getElem_of_mem hp
      exact hfm i _ hi (List.getElem?_eq_getElem hi)
  | j + 1, k, hk1, hk, mk, hm, hfm, lw => by
    have hw : IntKind.i64.wrap ((k : Int) + 1) = ((k + 1 : Nat) : Int) := by rw [wrap64 (by omega) (by omega)]; omega
    obtain ⟨p, hp⟩ : ∃ p, ps[k]? = some p := ⟨ps[k]'(by omega), List.getElem?_eq_getElem (by omega)⟩
    have hfl := flat6 ps k p hp
    have h37 := formed37d p mk
    obtain ⟨G, hG⟩ : ∃ G, G = nms (a + 1 + 2 * k) (2 * (j + 1) + R) := ⟨_, rfl⟩
    rw [← hG]
    by_cases hf : p.fm
    case neg =>
      rw [decide_eq_false hf] at h37
      refine .inr ⟨(k : Int), a + 2 * k - 1, k, mk, G, .last (by simp) ?_, p, List.mem_of_getElem? hp, hf⟩
      have this : CodeOk Try.prog (codeAt [true, true, true, true, false, true, false, false] (Try.f11.body.getD .skip)) (L11_1 (ps.flatMap P6.dv) ps.length a 0 (.vec (a + 2 * k - 1) 0 k 1) (k : Int) mk false G) .ret (L11_1 (ps.flatMap P6.dv) ps.length a 1 (.vec (a + 2 * k - 1) 0 k 1) (k : Int) mk false G) :=
        L11_1_4 (decide_eq_true (by omega)) (decide_eq_true (by omega)) (by rw [Int.toNat_natCast]; exact hfl) h37 rfl
      exact @this
    rw [decide_eq_true hf] at h37
    have hok := hfew p (List.mem_of_getElem? hp) hf
    obtain ⟨hm', lw'⟩ := houseNext_ok (.inr ⟨hk1, rfl, rfl, rfl, rfl⟩) hp hm.mem (fun _ => hm)
    have s1 := namesStep (a := a + 1 + 2 * k) (j := 1) (r := 1 + 2 * j + R) (G := G) (by rw [hG]; congr 1; omega)
    have s2 := namesStep (j := 1) (r := 2 * j + R) (s1.2.trans (by congr 1; omega))
    have n1 : nms (a + 1 + 2 * k) 1 = [a + 2 * k + 1] := by simp [nms]; omega
    have n2 : nms (a + 1 + 2 * k + 1) 1 = [a + 2 * k + 2] := by simp [nms]; omega
    rw [n1] at s1 s2
    rw [n2] at s2
    have this : CodeOk Try.prog (codeAt [true, true, true, true, false, true, false, false] (Try.f11.body.getD .skip)) (L11_1 (ps.flatMap P6.dv) ps.length a 0 (.vec (a + 2 * k - 1) 0 k 1) (k : Int) mk false G) .normal (L11_1 (ps.flatMap P6.dv) ps.length a 0 (.vec (a + 2 * k + 1) 0 (k + 1) 1) (IntKind.i64.wrap ((k : Int) + 1)) (houseNext mk a k (a + 2 * k - 1) (k * 1) (a + 2 * k) (k * 7) p) false (offUse [a + 2 * k + 2] (offUse [a + 2 * k + 1] G))) :=
      L11_1_2 (v3b := a + 2 * k) (v3n := k) (decide_eq_true (by omega)) (decide_eq_true (by omega)) (by rw [Int.toNat_natCast]; exact hfl) h37 rfl (size38 hok mk) (decide_eq_true ⟨by omega, by omega, rfl⟩)
        (List.all_eq_true.2 fun o ho => by
          have ho : o < k := by simpa using ho
          rw [hm.sizes o (ps[o]'(by omega)) ho (List.getElem?_eq_getElem (by omega))]; rfl) s1.1 (by rw [appMu_low (by omega) (by omega)]; exact hm.l) (decide_eq_true ⟨by omega, by omega, rfl⟩)
        (List.all_eq_true.2 fun o ho => by
          have ho : o < k * 7 := by simpa using ho
          rw [appMu_low (by omega) (by omega)]
          have hq : ps[o / 7]? = some (ps[o / 7]'(by omega)) := List.getElem?_eq_getElem (by omega)
          have := hm.tens (o / 7) _ (o % 7) (((ps[o / 7]'(by omega)).dv ++ [.bool true])[o % 7]'(by rw [dvlen]; omega)) (by omega) hq (List.getElem?_eq_getElem (by rw [dvlen]; omega))
          rw [show o / 7 * 7 + o % 7 = o by omega] at this
          rw [this]; rfl) s2.1 (by rw [appMu_low (by omega) (by omega), appMu_low (by omega) (by omega), hm.l]; rfl)
    rw [hw, s2.2] at this
    rcases loop11 ps hfew h6 m a R j (k + 1) (by omega) (by omega) _ hm' (fun i q hi hq => by
      by_cases hik : i < k
      · exact hfm i q hik hq
      · obtain rfl : i = k := by omega
        rw [hp] at hq; cases hq; exact hf) (lw.trans lw') with ⟨m', q1, q2, q3, q4⟩ | ⟨x, b, nn, m', fr, q1, q2⟩
    · refine .inl ⟨m', .step (s1 := L11_1 (ps.flatMap P6.dv) ps.length a 0 (.vec (a + 2 * (k + 1) - 1) 0 (k + 1) 1) ((k + 1 : Nat) : Int) (houseNext mk a k (a + 2 * k - 1) (k * 1) (a + 2 * k) (k * 7) p) false (nms (a + 1 + 2 * (k + 1)) (2 * j + R))) ?_ q1, q2, q3, q4⟩
      rw [show a + 2 * (k + 1) - 1 = a + 2 * k + 1 by omega, show a + 1 + 2 * (k + 1) = a + 1 + 2 * k + 1 + 1 by omega]
      exact @this
    · refine .inr ⟨x, b, nn, m', fr, .step (s1 := L11_1 (ps.flatMap P6.dv) ps.length a 0 (.vec (a + 2 * (k + 1) - 1) 0 (k + 1) 1) ((k + 1 : Nat) : Int) (houseNext mk a k (a + 2 * k - 1) (k * 1) (a + 2 * k) (k * 7) p) false (nms (a + 1 + 2 * (k + 1)) (2 * j + R))) ?_ q1, q2⟩
      rw [show a + 2 * (k + 1) - 1 = a + 2 * k + 1 by omega, show a + 1 + 2 * (k + 1) = a + 1 + 2 * k + 1 + 1 by omega]
      exact @this
end C
end Go.Proofs.Ytkhjkfbgcpjphaa.Fun

/- tenant.New, whole. -/
namespace Go.Proofs.Ytkhjkfbgcpjphaa.Fun
open Go
set_option linter.unusedVariables false
theorem MemK.low {m m' : Mu} {a k : Nat} {ss : List Int} (h : MemK m a k ss) (hk : ∀ c, a ≤ c → ∀ o, m' c o = m c o) : MemK m' a k ss := by
  obtain ⟨c, hc⟩ := h.c
  exact ⟨by rw [hk _ (by omega)]; exact h.l, ⟨c, by rw [hk _ (by omega)]; exact hc⟩, fun i hi => by rw [hk _ (by omega)]; exact h.at_ i hi, fun i s hi hs => by rw [hk _ (by omega)]; exact h.ws i s hi hs, fun i hi => by rw [hk _ (by omega)]; exact h.ep i hi, fun i s o hi hs ho => by rw [hk _ (by omega)]; exact h.w i s o hi hs ho⟩
/-- A house's regions: of those ahead of k the lists are fresh, the others' words are 0. -/
def Regs (m : Mu) (c : Nat) (ps : List P6) (k : Nat) : Prop := ∀ (i : Nat) (p : P6), ps[i]? = some p → ∃ w, HasReg m c (c + 3 * ps.length) ps.length i ⟨c + 2 + 3 * i, c + 1 + 3 * i, p.sz.toNat, 1, w⟩ ∧ (i < k → FreshE p.1 (ndP p.2.1 p.2.2.1 p.2.2.2.1 p.2.2.2.2.1) w) ∧ (k ≤ i → w = fun _ => 0)
namespace C
/-- The second loop of New: the lists are laid. -/
theorem lay11 (ps : List P6) (hok : ∀ p ∈ ps, p.ok) (h6 : ps.length ≤ 6) (a c : Nat) (fr : List Nat) : ∀ (j k : Nat), k + j = ps.length → ∀ mk : Mu, Regs mk c ps k →
    ∃ m', LoopOk Try.prog (codeAt [true, true, true, true, true, true, true, true, false, true, false, false] (Try.f11.body.getD .skip)) (L11_2 (ps.flatMap P6.dv) ps.length a 0 c (k : Int) mk false fr) (.exit 2) (L11_2 (ps.flatMap P6.dv) ps.length a 0 c (ps.length : Int) m' false fr) ∧ Regs m' c ps ps.length ∧ Low c mk m'
  | 0, k, hk, mk, hR => by
    obtain rfl : k = ps.length := by omega
    exact ⟨mk, .last (by simp) (L11_2_1 (decide_eq_false (by omega))), hR, .refl c mk⟩
  | j + 1, k, hk, mk, hR => by
    have hw : IntKind.i64.wrap ((k : Int) + 1) = ((k + 1 : Nat) : Int) := by rw [wrap64 (by omega) (by omega)]; omega
    obtain ⟨p, hp⟩ : ∃ p, ps[k]? = some p := ⟨ps[k]'(by omega), List.getElem?_eq_getElem (by omega)⟩
    have hfl := flat6 ps k p hp
    have h := hok p (List.mem_of_getElem? hp)
    have hsz : ((p.sz.toNat : Nat) : Int) = p.sz := by
      have hn := h.hn; have hnd := h.nd; have hct := h.ct; have hhz := h.hz
      show (((szP _ _ _ _ _).toNat : Nat) : Int) = szP _ _ _ _ _
      unfold szP; omega
    obtain ⟨w, hw1, _, hw3⟩ := hR k p hp
    have hw3 := hw3 (Nat.le_refl _)
    subst hw3
    obtain ⟨q, m1, w', c41, c40, hR1, far, hf, hq⟩ := freshRun h hw1 hsz
    obtain ⟨op, at_, x, y, f, cs, rfl⟩ : ∃ op at_ x y f cs, q = PgN.step op at_ x y f cs := by
      cases q with
      | over => exact absurd rfl hq
      | step op at_ x y f cs => exact ⟨op, at_, x, y, f, cs, rfl⟩
    have hR' : Regs m1 c ps (k + 1) := by
      intro i p' hp'
      by_cases hik : i = k
      · subst hik
        rw [hp] at hp'; cases hp'
        exact ⟨w', hR1, fun _ => hf, fun h => by omega⟩
      · obtain ⟨w2, q1, q2, q3⟩ := hR i p' hp'
        exact ⟨w2, q1.other hR1 far (by simp only; omega) (by simp only; omega) (by simp only; have := hw1.lt; omega), fun hi => q2 (by omega), fun hi => q3 (by omega)⟩
    obtain ⟨m', q1, q2, q3⟩ := lay11 ps hok h6 a c fr j (k + 1) (by omega) m1 hR'
    have low : Low c mk m1 := fun d hd o => far d (by omega) (by omega) o
    refine ⟨m', .step (s1 := L11_2 (ps.flatMap P6.dv) ps.length a 0 c ((k + 1 : Nat) : Int) m1 false fr) ?_ q1, q2, low.trans q3⟩
    have this : CodeOk Try.prog (codeAt [true, true, true, true, true, true, true, true, false, true, false, false] (Try.f11.body.getD .skip)) (L11_2 (ps.flatMap P6.dv) ps.length a 0 c (k : Int) mk false fr) .normal (L11_2 (ps.flatMap P6.dv) ps.length a 0 c (IntKind.i64.wrap ((k : Int) + 1)) m1 false fr) :=
      L11_2_2 (decide_eq_true (by omega)) (decide_eq_true (by omega)) (by rw [Int.toNat_natCast]; exact hfl) c41 (capOk hw1) c40
    rw [hw] at this
    exact @this
/-- New, of formed plans. -/
theorem new11 (ps : List P6) (hfew : ∀ p ∈ ps, p.fm → p.ok) (h1 : 1 ≤ ps.length) (h6 : ps.length ≤ 6) (m : Mu) (a : Nat) :
    (∃ m', CallOk Try.prog 11 [.slice (ps.flatMap P6.dv) ps.length] m (.tup [.adr a 0, .int .i64 0]) m' false (nms a (1 + (2 * ps.length + (1 + 3 * ps.length + 0)))) ∧ HouseF m' a (a + 2 * ps.length + 1) (a + 2 * ps.length) ps (fun _ => true) ∧ Regs m' (a + 2 * ps.length + 1) ps ps.length ∧ ∀ p ∈ ps, p.ok) ∨
    (∃ m', CallOk Try.prog 11 [.slice (ps.flatMap P6.dv) ps.length] m (.tup [.nilp, .int .i64 1]) m' false (nms a (1 + (2 * ps.length + (1 + 3 * ps.length + 0)))) ∧ ∃ p ∈ ps, ¬ p.fm) := by
  obtain ⟨K, hK⟩ : ∃ K, ps.length = K := ⟨_, rfl⟩
  obtain ⟨F, hF⟩ : ∃ F, F = nms a (1 + (2 * K + (1 + 3 * K + 0))) := ⟨_, rfl⟩
  rw [hK, ← hF]
  have g1 := namesStep hF
  rw [show nms a 1 = [a] from rfl] at g1
  obtain ⟨j, hj⟩ : ∃ j, K = j + 1 := ⟨K - 1, by omega⟩
  let ym := updMu m a 0 [.nilp, .nils]
  have ya : ∀ o, ym a o = if o = 0 then some .nilp else if o = 1 then some .nils else m a o := fun o => by
    show updMu _ _ _ _ _ _ = _
    rw [updMu_get]
    by_cases h : o = 0
    · subst h; simp
    · by_cases h' : o = 1
      · subst h'; simp
      · rw [if_neg (by simp; omega), if_neg h, if_neg h']
  have ylow : Low a m ym := fun c hc o => by
    show updMu _ _ _ _ _ _ = _
    rw [updMu_get, if_neg (by omega)]
  obtain ⟨p, hp⟩ : ∃ p, ps[0]? = some p := ⟨ps[0]'(by omega), List.getElem?_eq_getElem (by omega)⟩
  have hfl := flat6 ps 0 p hp
  have h37 := formed37d p ym
  by_cases hf : p.fm
  case neg =>
    rw [decide_eq_false hf] at h37
    refine .inr ⟨ym, ?_, p, List.mem_of_getElem? hp, hf⟩
    have this : CodeOk Try.prog (codeAt [true, true, true, true, false, true, false, false] (Try.f11.body.getD .skip)) (L11_1 (ps.flatMap P6.dv) K a 0 .nils 0 ym false (offUse [a] F)) .ret (L11_1 (ps.flatMap P6.dv) K a 1 .nils 0 ym false (offUse [a] F)) :=
      L11_1_8 (decide_eq_true (by omega)) (decide_eq_true (by omega)) (by exact hfl) h37 rfl
    have kp : CodeOk Try.prog (codeAt [true, true, true, true, false, true, false] (Try.f11.body.getD .skip)) (L11_1 (ps.flatMap P6.dv) K a 0 .nils 0 ym false (offUse [a] F)) .ret (L11_1 (ps.flatMap P6.dv) K a 1 .nils 0 ym false (offUse [a] F)) := by
      rw [L11_1_loop]
      exact (LoopOk.last (P := Try.prog) (by simp) @this).code
    exact f11_10 (g0 := a) (z1_t3 := 1) (z1_t19 := 0) (z1_m := ym) (z1_d := false) (z1_fr := offUse [a] F) (decide_eq_false (by omega)) g1.1 kp
  rw [decide_eq_true hf] at h37
  have hok := hfew p (List.mem_of_getElem? hp) hf
  obtain ⟨hm1, lw1⟩ := houseNext_ok (m := ym) (a := a) (k := 0) (b1 := a + 1) (n1 := 0) (b2 := a + 2) (n2 := 0) (ps := ps) (.inl ⟨rfl, rfl, rfl, rfl, rfl⟩) hp (by rw [ya]; rfl) (fun h => absurd h (by omega))
  have s1 := namesStep (j := 1) (r := 1 + 2 * j + (1 + 3 * K + 0)) (g1.2.trans (by congr 1; omega))
  have s2 := namesStep (j := 1) (r := 2 * j + (1 + 3 * K + 0)) (s1.2.trans (by congr 1; omega))
  have n1 : nms (a + 1) 1 = [a + 2 * 0 + 1] := by simp [nms]
  have n2 : nms (a + 1 + 1) 1 = [a + 2 * 0 + 2] := by simp [nms]
  rw [n1] at s1 s2
  rw [n2] at s2
  have k1 : CodeOk Try.prog (codeAt [true, true, true, true, false, true, false, false] (Try.f11.body.getD .skip)) (L11_1 (ps.flatMap P6.dv) K a 0 .nils 0 ym false (offUse [a] F)) .normal (L11_1 (ps.flatMap P6.dv) K a 0 (.vec (a + 2 * 0 + 1) 0 1 1) (IntKind.i64.wrap (0 + 1)) (houseNext ym a 0 (a + 1) 0 (a + 2) 0 p) false (offUse [a + 2 * 0 + 2] (offUse [a + 2 * 0 + 1] (offUse [a] F)))) :=
    L11_1_7 (decide_eq_true (by omega)) (decide_eq_true (by omega)) (by exact hfl) h37 rfl (size38 hok ym) s1.1 (by rw [appMu_low (by omega) (by omega), ya]; rfl) s2.1 (by rw [appMu_low (by omega) (by omega), appMu_low (by omega) (by omega), ya]; rfl)
  rw [s2.2] at k1
  have lp := loop11 ps hfew h6 m a (1 + 3 * K + 0) j 1 (Nat.le_refl _) (by omega) _ hm1 (fun i q hi hq => by
    obtain rfl : i = 0 := by omega
    rw [hp] at hq; cases hq; exact hf) (ylow.trans lw1)
  rw [hK] at lp
  rcases lp with ⟨m2, q1, hm2, hfm, lw2⟩ | ⟨x, b, nn, m2, fr, q1, q2⟩
  case inr =>
    refine .inr ⟨m2, ?_, q2⟩
    have kp : CodeOk Try.prog (codeAt [true, true, true, true, false, true, false] (Try.f11.body.getD .skip)) (L11_1 (ps.flatMap P6.dv) K a 0 .nils 0 ym false (offUse [a] F)) .ret (L11_1 (ps.flatMap P6.dv) K a 1 (.vec b 0 nn 1) x m2 false fr) := by
      rw [L11_1_loop]
      exact (LoopOk.step (P := Try.prog) @k1 q1).code
    exact f11_5 (g0 := a) (z1_t3 := 1) (z1_t19 := x) (z1_m := m2) (z1_d := false) (z1_fr := fr) (decide_eq_false (by omega)) g1.1 (z1_t5b := b) (z1_t5n := nn) kp
  have hoks : ∀ p ∈ ps, p.ok := fun p hp => hfew p hp (hfm p hp)
  have szs : ∀ p ∈ ps, 0 ≤ p.sz ∧ p.sz ≤ 2000 := fun p hp => by
    have h := hoks p hp
    have hn := h.hn; have hnd := h.nd; have hct := h.ct; have hhz := h.hz
    show 0 ≤ szP _ _ _ _ _ ∧ szP _ _ _ _ _ ≤ 2000
    unfold szP; omega
  have c39 := new39 (ps.map P6.sz) (fun s hs => by
    obtain ⟨p, hp, rfl⟩ := List.mem_map.1 hs
    exact szs p hp) (by rw [List.length_map]; omega) (by rw [List.length_map]; omega) m2 (a + 2 * K - 1) (a + 2 * K + 1) (by omega) (fun i s hs => by
      rw [List.getElem?_map] at hs
      cases hq : ps[i]? with
      | none => rw [hq] at hs; cases hs
      | some q =>
        rw [hq] at hs; cases hs
        exact hm2.sizes i q (by have := (List.getElem?_eq_some_iff.1 hq).1; omega) hq)
  rw [List.length_map, hK] at c39
  obtain ⟨m3, c39, hk3, lw3⟩ := c39
  have lw3' : ∀ c, c < a + 2 * K + 1 → ∀ o, m3 c o = m2 c o := lw3
  have hk4 : MemK (updMu m3 a 0 [.adr (a + 2 * K + 1) 0]) (a + 2 * K + 1) K (ps.map P6.sz) := hk3.low fun c hc o => by rw [updMu_get, if_neg (by omega)]
  have regs : Regs (updMu m3 a 0 [.adr (a + 2 * K + 1) 0]) (a + 2 * K + 1) ps 0 := fun i p hp => by
    have hi : i < K := by have := (List.getElem?_eq_some_iff.1 hp).1; omega
    refine ⟨fun _ => 0, ?_, fun h => by omega, fun _ => rfl⟩
    rw [hK]
    exact hk4.reg hi (by rw [List.getElem?_map, hp]; rfl)
  obtain ⟨m5, l2, regs5, lw5⟩ := lay11 ps hoks h6 a (a + 2 * K + 1) (nms (a + 1 + 2 * K + (1 + 3 * K)) 0) K 0 (by omega) _ regs
  rw [hK] at l2 regs5
  refine .inl ⟨m5, ?_, ⟨?_, ?_, fun i p j c hp hc => ?_⟩, regs5, hoks⟩
  · have g3 := namesStep (a := a + 1 + 2 * K) (j := 1 + 3 * K) (r := 0) (G := nms (a + 1 + 2 * K) (1 + 3 * K + 0)) rfl
    have kp : CodeOk Try.prog (codeAt [true, true, true, true, false, true, false] (Try.f11.body.getD .skip)) (L11_1 (ps.flatMap P6.dv) K a 0 .nils 0 ym false (offUse [a] F)) (.exit 0) (L11_1 (ps.flatMap P6.dv) K a 0 (.vec (a + 2 * K - 1) 0 K 1) (K : Int) m2 false (nms (a + 1 + 2 * K) (1 + 3 * K + 0))) := by
      rw [L11_1_loop]
      exact (LoopOk.step (P := Try.prog) @k1 q1).code
    rw [show a + 1 + 2 * K = a + 2 * K + 1 by omega] at g3 l2
    refine f11_1 (g0 := a) (z1_t3 := 0) (z1_t19 := (K : Int)) (z1_m := m2) (z1_d := false) (z1_fr := nms (a + 1 + 2 * K) (1 + 3 * K + 0)) (z1_t5b := a + 2 * K - 1) (z1_t5n := K) (r00b := a + 2 * K + 1) (r01 := 0) (m1 := m3) (fs1 := nms (a + 2 * K + 1) (1 + 3 * K)) (z2_t57 := (K : Int)) (z2_m := m5) (z2_d := false) (z2_fr := nms (a + 2 * K + 1 + (1 + 3 * K)) 0) (decide_eq_false (by omega)) g1.1 kp c39 ?_ rfl ?_ ?_
    · rw [show a + 1 + 2 * K = a + 2 * K + 1 by omega]; exact g3.1
    · rw [lw3' a (by omega), hm2.mem]; rfl
    · rw [show a + 1 + 2 * K = a + 2 * K + 1 by omega, g3.2, L11_2_loop]
      exact l2.code
  · rw [lw5 a (by omega), updMu_get, if_pos ⟨rfl, Nat.le_refl _, by simp⟩]; rfl
  · rw [lw5 a (by omega), updMu_get, if_neg (by simp), lw3' a (by omega), hK]; exact hm2.l
  · have hi : i < K := by have := (List.getElem?_eq_some_iff.1 hp).1; omega
    rw [lw5 _ (by omega), updMu_get, if_neg (by omega), lw3' _ (by omega)]
    exact hm2.tens i p j c hi hp hc
/-- New, of no plans. -/
theorem new11n (m : Mu) (a : Nat) : ∃ m', CallOk Try.prog 11 [.slice [] 0] m (.tup [.adr a 0, .int .i64 0]) m' false (nms a (1 + (1 + 0))) ∧ m' a 1 = some .nils := by
  obtain ⟨F, hF⟩ : ∃ F, F = nms a (1 + (1 + 0)) := ⟨_, rfl⟩
  rw [← hF]
  have g1 := namesStep hF
  have g2 := namesStep g1.2
  rw [show nms a 1 = [a] from rfl] at g1 g2
  obtain ⟨m3, c39, lw3⟩ := new39n (updMu m a 0 [.nilp, .nils]) (a + 1)
  refine ⟨updMu m3 a 0 [.adr (a + 1) 0], ?_, ?_⟩
  · refine f11_6 (g0 := a) (z1_t3 := 0) (z1_t19 := 0) (z1_m := updMu m a 0 [.nilp, .nils]) (z1_d := false) (z1_fr := offUse [a] F) (r00b := a + 1) (r01 := 0) (m1 := m3) (fs1 := nms (a + 1) 1) (z2_t57 := 0) (z2_d := false) (decide_eq_false (by simp)) g1.1 ?_ c39 g2.1 rfl ?_ (z2_fr := offUse (nms (a + 1) 1) (offUse [a] F)) ?_
    · rw [L11_1_loop]
      exact (LoopOk.last (P := Try.prog) (by simp) (L11_1_5 rfl)).code
    · rw [lw3 a (by omega), updMu_get, if_pos ⟨rfl, Nat.le_refl _, by simp⟩]; rfl
    · rw [L11_2_loop]
      exact (LoopOk.last (P := Try.prog) (by simp) (L11_2_1 rfl)).code
  · rw [updMu_get, if_neg (by simp), lw3 a (by omega), updMu_get, if_pos ⟨rfl, Nat.zero_le _, by simp⟩]; rfl
end C
end Go.Proofs.Ytkhjkfbgcpjphaa.Fun
