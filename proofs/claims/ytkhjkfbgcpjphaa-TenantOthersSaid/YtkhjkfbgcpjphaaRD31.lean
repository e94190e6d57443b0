/- A memory of several regions; a fresh list, word by word. -/
import Derived.Test.YtkhjkfbgcpjphaaRD30
namespace Go.Proofs.Ytkhjkfbgcpjphaa.Fun
open Go
set_option linter.unusedVariables false
/-- A memory's rows, with k regions: the memory at a, then three names a region. -/
structure MemK (m : Mu) (a k : Nat) (ss : List Int) : Prop where
  l : m a 0 = some (.vec (a + 3 * k) 0 k 1)
  c : ∃ c, m a 1 = some (.int .i64 c)
  at_ : ∀ i, i < k → m (a + 3 * k) i = some (.adr (a + 2 + 3 * i) 0)
  ws : ∀ (i : Nat) (s : Int), i < k → ss[i]? = some s → m (a + 2 + 3 * i) 0 = some (.vec (a + 1 + 3 * i) 0 s.toNat 1)
  ep : ∀ i, i < k → m (a + 2 + 3 * i) 1 = some (.int .u64 1)
  w : ∀ (i : Nat) (s : Int) (o : Nat), i < k → ss[i]? = some s → o < s.toNat → m (a + 1 + 3 * i) o = some (.int .u64 0)
def memNext (m : Mu) (a k b n : Nat) (s : Int) : Mu := updMu (updMu (updMu (appMu m b n (a + 3 * k + 3) [.adr (a + 3 * k + 2) 0]) (a + 3 * k + 2) 0 [.vec (a + 3 * k + 1) 0 s.toNat 1, .int .u64 1]) (a + 3 * k + 1) 0 (freshRow [.int .u64 0] s.toNat)) a 0 [.vec (a + 3 * k + 3) 0 (k + 1) 1]
theorem freshLen (k : Nat) : (freshRow [DV.int .u64 0] k).length = k := by
  induction k with
  | zero => rfl
  | succ k ih => simp [freshRow, ih]
theorem memNext_low {m : Mu} {a k b n : Nat} {s : Int} (hb : b = a + 3 * k + 3 ∨ (b = a + 3 * k ∧ 1 ≤ k)) {c : Nat} (h1 : c ≠ a) (h2 : c ≠ a + 3 * k + 1) (h3 : c ≠ a + 3 * k + 2) (h4 : c ≠ a + 3 * k + 3) (h5 : c ≠ b) (o : Nat) : memNext m a k b n s c o = m c o := by
  unfold memNext
  rw [updMu_get, if_neg (fun q => h1 q.1), updMu_get, if_neg (fun q => h2 q.1), updMu_get, if_neg (fun q => h3 q.1), appMu_low h4 h5]
theorem memNext_ok {m : Mu} {a k b n : Nat} {s : Int} {ss : List Int} (hb : (k = 0 ∧ b = a + 3 ∧ n = 0) ∨ (1 ≤ k ∧ b = a + 3 * k ∧ n = k * 1)) (hs : ss[k]? = some s) (hc : ∃ c, m a 1 = some (.int .i64 c))
    (h : 1 ≤ k → MemK m a k ss) : MemK (memNext m a k b n s) a (k + 1) ss := by
  have far : ∀ c, c ≠ a → c ≠ a + 3 * k + 1 → c ≠ a + 3 * k + 2 → c ≠ a + 3 * k + 3 → c ≠ b → ∀ o, memNext m a k b n s c o = m c o := fun c h1 h2 h3 h4 h5 o => memNext_low (by omega) h1 h2 h3 h4 h5 o
  have lst : ∀ o, memNext m a k b n s (a + 3 * k + 3) o = if o < n then m b o else [DV.adr (a + 3 * k + 2) 0][o - n]? := fun o => by
    unfold memNext
    rw [updMu_get, if_neg (by omega), updMu_get, if_neg (by omega), updMu_get, if_neg (by omega), appMu_at]
  have reg : ∀ o, o < 2 → memNext m a k b n s (a + 3 * k + 2) o = [DV.vec (a + 3 * k + 1) 0 s.toNat 1, .int .u64 1][o]? := fun o ho => by
    unfold memNext
    rw [updMu_get, if_neg (by omega), updMu_get, if_neg (by omega), updMu_get, if_pos ⟨rfl, Nat.zero_le _, by simpa using ho⟩]; rfl
  have wrd : ∀ o, o < s.toNat → memNext m a k b n s (a + 3 * k + 1) o = some (.int .u64 0) := fun o ho => by
    unfold memNext
    have hl := freshLen s.toNat
    rw [updMu_get, if_neg (by omega), updMu_get, if_pos ⟨rfl, Nat.zero_le _, by omega⟩, Nat.sub_zero, freshRow_get, if_pos (by simpa using ho)]
    simp [Nat.mod_one]
  refine ⟨?_, ?_, fun i hi => ?_, fun i x hi hx => ?_, fun i hi => ?_, fun i x o hi hx ho => ?_⟩
  · unfold memNext
    rw [updMu_get, if_pos ⟨rfl, Nat.zero_le _, by simp⟩]; simp; omega
  · obtain ⟨c, hc⟩ := hc
    refine ⟨c, ?_⟩
    unfold memNext
    rw [updMu_get, if_neg (by simp), updMu_get, if_neg (by omega), updMu_get, if_neg (by omega), appMu_low (by omega) (by omega)]
    exact hc
  · rw [show a + 3 * (k + 1) = a + 3 * k + 3 by omega, lst]
    by_cases hik : i < k
    · rcases hb with ⟨h0, _, _⟩ | ⟨h1, rfl, rfl⟩
      · omega
      · rw [if_pos (by omega)]; exact (h h1).at_ i hik
    · obtain rfl : i = k := by omega
      rw [if_neg (by omega), show i - n = 0 by omega]
      simp; omega
  · by_cases hik : i < k
    · rw [far _ (by omega) (by omega) (by omega) (by omega) (by omega)]
      exact (h (by omega)).ws i x hik hx
    · obtain rfl : i = k := by omega
      rw [hs] at hx; cases hx
      rw [show a + 2 + 3 * i = a + 3 * i + 2 by omega, reg 0 (by omega), show a + 1 + 3 * i = a + 3 * i + 1 by omega]; rfl
  · by_cases hik : i < k
    · rw [far _ (by omega) (by omega) (by omega) (by omega) (by omega)]
      exact (h (by omega)).ep i hik
    · obtain rfl : i = k := by omega
      rw [show a + 2 + 3 * i = a + 3 * i + 2 by omega, reg 1 (by omega)]; rfl
  · by_cases hik : i < k
    · rw [far _ (by omega) (by omega) (by omega) (by omega) (by omega)]
      exact (h (by omega)).w i x o hik hx ho
    · obtain rfl : i = k := by omega
      rw [hs] at hx; cases hx
      rw [show a + 1 + 3 * i = a + 3 * i + 1 by omega]
      exact wrd o ho
theorem MemK.reg {m : Mu} {a k : Nat} {ss : List Int} (h : MemK m a k ss) {i : Nat} {s : Int} (hi : i < k) (hs : ss[i]? = some s) : HasReg m a (a + 3 * k) k i ⟨a + 2 + 3 * i, a + 1 + 3 * i, s.toNat, 1, fun _ => 0⟩ :=
  ⟨h.l, h.c, hi, h.at_ i hi, h.ws i s hi hs, h.ep i hi, fun o ho => h.w i s o hi hs ho, by simp only; omega, by simp only; omega, by simp only; omega, by omega, by simp only; omega⟩
/-- A region stays, when another one's words are written. -/
theorem HasReg.other {m m' : Mu} {mb lb len i j : Nat} {R R' : Reg} (h : HasReg m mb lb len i R) (h' : HasReg m' mb lb len j R') (far : Far mb R'.wb m m') (e1 : R.rb ≠ R'.wb) (e2 : R.wb ≠ R'.wb) (e3 : lb ≠ R'.wb) : HasReg m' mb lb len i R := by
  have d5 := h.d5; have d1 := h.d1; have d4 := h.d4
  exact ⟨h'.l, h'.c, h.lt, by rw [far lb e3 (Ne.symm d4)]; exact h.at_, by rw [far _ e1 (Ne.symm d5)]; exact h.ws, by rw [far _ e1 (Ne.symm d5)]; exact h.ep, fun o ho => by rw [far _ e2 d1]; exact h.w o ho, h.d1, h.d2, h.d3, h.d4, h.d5⟩
namespace C
/-- mem.New, of a row of sizes. -/
theorem new39 (ss : List Int) (hs : ∀ s ∈ ss, 0 ≤ s ∧ s ≤ 2000) (h1 : 1 ≤ ss.length) (h6 : ss.length ≤ 6) (m : Mu) (s0 a : Nat) (hsa : s0 < a) (hrow : ∀ (i : Nat) (s : Int), ss[i]? = some s → m s0 i = some (.int .i64 s)) :
    ∃ m', CallOk Try.prog 39 [.vec s0 0 ss.length 1] m (.tup [.adr a 0, .int .i64 0]) m' false (nms a (1 + 3 * ss.length)) ∧ MemK m' a ss.length ss ∧ Low a m m' := by
  obtain ⟨K, hK⟩ : ∃ K, ss.length = K := ⟨_, rfl⟩
  have gets : ∀ k, k < K → ∃ s, ss[k]? = some s ∧ 0 ≤ s ∧ s ≤ 2000 := fun k hk => ⟨ss[k]'(by omega), List.getElem?_eq_getElem (by omega), hs _ (List.getElem_mem _)⟩
  rw [hK]
  -- the sizes are looked at
  have sizes : ∀ (j k : Nat), k + j = K → ∀ left : Int, 16777216 - 2000 * k ≤ left → left ≤ 16777216 → ∀ fr, ∃ left', LoopOk Try.prog (codeAt [true, true, true, false, true, false, false] (Try.f39.body.getD .skip)) (L39_1 s0 0 K 0 left (k : Int) m false fr) (.exit 0) (L39_1 s0 0 K 0 left' (K : Int) m false fr) := by
    intro j
    induction j with
    | zero =>
      intro k hk left h1 h2 fr
      obtain rfl : k = K := by omega
      exact ⟨left, .last (by simp) (L39_1_1 (decide_eq_false (by omega)))⟩
    | succ j ih =>
      intro k hk left h1 h2 fr
      have hw : IntKind.i64.wrap ((k : Int) + 1) = ((k + 1 : Nat) : Int) := by rw [wrap64 (by omega) (by omega)]; omega
      obtain ⟨s, hs1, hs2, hs3⟩ := gets k (by omega)
      obtain ⟨left', hl⟩ := ih (k + 1) (by omega) (left - s) (by omega) (by omega) fr
      refine ⟨left', .step (s1 := L39_1 s0 0 K 0 (left - s) ((k + 1 : Nat) : Int) m false fr) ?_ hl⟩
      have this : CodeOk Try.prog (codeAt [true, true, true, false, true, false, false] (Try.f39.body.getD .skip)) (L39_1 s0 0 K 0 left (k : Int) m false fr) .normal (L39_1 s0 0 K 0 (IntKind.i64.wrap (left - s)) (IntKind.i64.wrap ((k : Int) + 1)) m false fr) :=
        L39_1_2 (v0 := s) (decide_eq_true (by omega)) (decide_eq_true (by omega)) (by rw [Nat.zero_add, Nat.mul_one, Int.toNat_natCast]; exact hrow k s hs1) (decide_eq_false (by omega)) (decide_eq_false (by omega))
      rw [hw, wrap64 (x := left - s) (by omega) (by omega)] at this
      exact @this
  -- a region each
  have regs : ∀ (j k : Nat), 1 ≤ k → k + j = K → ∀ mk : Mu, MemK mk a k ss → Low a m mk → ∃ m', LoopOk Try.prog (codeAt [true, true, true, true, true, false, true, false, false] (Try.f39.body.getD .skip)) (L39_2 s0 0 K 0 a (k : Int) mk false (nms (a + 1 + 3 * k) (3 * j))) (.exit 2) (L39_2 s0 0 K 0 a (K : Int) m' false (nms (a + 1 + 3 * K) 0)) ∧ MemK m' a K ss ∧ Low a m m' := by
    intro j
    induction j with
    | zero =>
      intro k hk1 hk mk hm lw
      obtain rfl : k = K := by omega
      exact ⟨mk, .last (by simp) (L39_2_1 (decide_eq_false (by omega))), hm, lw⟩
    | succ j ih =>
      intro k hk1 hk mk hm lw
      have hw : IntKind.i64.wrap ((k : Int) + 1) = ((k + 1 : Nat) : Int) := by rw [wrap64 (by omega) (by omega)]; omega
      obtain ⟨s, hs1, hs2, hs3⟩ := gets k (by omega)
      have hm' : MemK (memNext mk a k (a + 3 * k) (k * 1) s) a (k + 1) ss := memNext_ok (.inr ⟨hk1, rfl, rfl⟩) hs1 hm.c (fun _ => hm)
      have lw' : Low a m (memNext mk a k (a + 3 * k) (k * 1) s) := fun c hc o => by rw [memNext_low (.inr ⟨rfl, hk1⟩) (by omega) (by omega) (by omega) (by omega) (by omega)]; exact lw c hc o
      obtain ⟨m', q1, q2, q3⟩ := ih (k + 1) (by omega) (by omega) _ hm' lw'
      refine ⟨m', .step (s1 := L39_2 s0 0 K 0 a ((k + 1 : Nat) : Int) (memNext mk a k (a + 3 * k) (k * 1) s) false (nms (a + 1 + 3 * (k + 1)) (3 * j))) ?_ q1, q2, q3⟩
      obtain ⟨G, hG⟩ : ∃ G, G = nms (a + 1 + 3 * k) (3 * (j + 1)) := ⟨_, rfl⟩
      have s1 := namesStep (a := a + 1 + 3 * k) (j := 1) (r := 2 + 3 * j) (G := G) (by rw [hG]; congr 1; omega)
      have s2 := namesStep (j := 1) (r := 1 + 3 * j) (s1.2.trans (by congr 1; omega))
      have s3 := namesStep (j := 1) (r := 3 * j) s2.2
      have n1 : nms (a + 1 + 3 * k) 1 = [a + 3 * k + 1] := by simp [nms]; omega
      have n2 : nms (a + 1 + 3 * k + 1) 1 = [a + 3 * k + 2] := by simp [nms]; omega
      have n3 : nms (a + 1 + 3 * k + 1 + 1) 1 = [a + 3 * k + 3] := by simp [nms]; omega
      rw [n1] at s1 s2 s3
      rw [n2] at s2 s3
      rw [n3] at s3
      have this : CodeOk Try.prog (codeAt [true, true, true, true, true, false, true, false, false] (Try.f39.body.getD .skip)) (L39_2 s0 0 K 0 a (k : Int) mk false G) .normal (L39_2 s0 0 K 0 a (IntKind.i64.wrap ((k : Int) + 1)) (memNext mk a k (a + 3 * k) (k * 1) s) false (offUse [a + 3 * k + 3] (offUse [a + 3 * k + 2] (offUse [a + 3 * k + 1] G)))) :=
        L39_2_2 (v0 := s) (v1b := a + 3 * k) (v1n := k) (decide_eq_true (by omega)) (decide_eq_true (by omega)) (by rw [Nat.zero_add, Nat.mul_one, Int.toNat_natCast, lw s0 hsa]; exact hrow k s hs1) hm.l (decide_eq_true ⟨by omega, rfl, by omega⟩) s1.1 s2.1 (decide_eq_true ⟨by omega, by omega, rfl⟩)
          (List.all_eq_true.2 fun o ho => by rw [hm.at_ o (by simpa using ho)]; rfl) s3.1 (by
            rw [updMu_get, if_neg (by omega), updMu_get, if_neg (by omega), appMu_low (by omega) (by omega), hm.l]; rfl)
      rw [hw, s3.2, hG] at this
      rw [show a + 1 + 3 * (k + 1) = a + 1 + 3 * k + 1 + 1 + 1 by omega]
      exact @this
  let ym := updMu m a 0 [.nils, .int .i64 0]
  have ya : ∀ o, ym a o = if o = 0 then some .nils else if o = 1 then some (.int .i64 0) else m a o := fun o => by
    show updMu _ _ _ _ _ _ = _
    rw [updMu_get]
    by_cases h : o = 0
    · subst h; simp
    · by_cases h' : o = 1
      · subst h'; simp
      · rw [if_neg (by simp; omega), if_neg h, if_neg h']
  have ylow : Low a m ym := fun c hc o => by
    show updMu _ _ _ _ _ _ = _
    rw [updMu_get, if_neg (by omega)]
  obtain ⟨s, hs1, hs2, hs3⟩ := gets 0 (by omega)
  have hm1 : MemK (memNext ym a 0 (a + 3) 0 s) a 1 ss := memNext_ok (.inl ⟨rfl, rfl, rfl⟩) hs1 ⟨0, by rw [ya]; rfl⟩ (fun h => absurd h (by omega))
  have lw1 : Low a m (memNext ym a 0 (a + 3) 0 s) := fun c hc o => by rw [memNext_low (.inl (by omega)) (by omega) (by omega) (by omega) (by omega) (by omega)]; exact ylow c hc o
  obtain ⟨j, hj⟩ : ∃ j, K = j + 1 := ⟨K - 1, by omega⟩
  obtain ⟨m', q1, q2, q3⟩ := regs j 1 (Nat.le_refl _) (by omega) _ hm1 lw1
  obtain ⟨F, hF⟩ : ∃ F, F = nms a (1 + 3 * K) := ⟨_, rfl⟩
  obtain ⟨left', sz⟩ := sizes K 0 (by omega) 16777216 (by omega) (by omega) F
  have s0' := namesStep (a := a) (j := 1) (r := 3 * K) hF
  have s1 := namesStep (j := 1) (r := 2 + 3 * j) (s0'.2.trans (by congr 1; omega))
  have s2 := namesStep (j := 1) (r := 1 + 3 * j) (s1.2.trans (by congr 1; omega))
  have s3 := namesStep (j := 1) (r := 3 * j) s2.2
  have n0 : nms a 1 = [a] := rfl
  have n1 : nms (a + 1) 1 = [a + 3 * 0 + 1] := by simp [nms]
  have n2 : nms (a + 1 + 1) 1 = [a + 3 * 0 + 2] := by simp [nms]
  have n3 : nms (a + 1 + 1 + 1) 1 = [a + 3 * 0 + 3] := by simp [nms]
  rw [n0] at s0' s1 s2 s3
  rw [n1] at s1 s2 s3
  rw [n2] at s2 s3
  rw [n3] at s3
  have k1 : CodeOk Try.prog (codeAt [true, true, true, true, true, false, true, false, false] (Try.f39.body.getD .skip)) (L39_2 s0 0 K 0 a 0 ym false (offUse [a] F)) .normal (L39_2 s0 0 K 0 a (IntKind.i64.wrap (0 + 1)) (memNext ym a 0 (a + 3) 0 s) false (offUse [a + 3 * 0 + 3] (offUse [a + 3 * 0 + 2] (offUse [a + 3 * 0 + 1] (offUse [a] F))))) :=
    L39_2_3 (v0 := s) (decide_eq_true (by omega)) (decide_eq_true (by omega)) (by rw [ylow s0 hsa]; exact hrow 0 s hs1) (by rw [ya]; rfl) (decide_eq_true ⟨by omega, rfl, by omega⟩) s1.1 s2.1 s3.1 (by
      rw [updMu_get, if_neg (by omega), updMu_get, if_neg (by omega), appMu_low (by omega) (by omega), ya]; rfl)
  rw [s3.2] at k1
  have kp : CodeOk Try.prog (codeAt [true, true, true, true, true, false, true, false] (Try.f39.body.getD .skip)) (L39_2 s0 0 K 0 a 0 ym false (offUse [a] F)) (.exit 2) (L39_2 s0 0 K 0 a (K : Int) m' false (nms (a + 1 + 3 * K) 0)) := by
    rw [L39_2_loop]
    exact (LoopOk.step (P := Try.prog) @k1 q1).code
  refine ⟨m', ?_, q2, q3⟩
  rw [← hF]
  exact f39_1 (decide_eq_false (by omega)) (by rw [L39_1_loop]; exact sz.code) s0'.1 kp
/-- mem.New, of no sizes. -/
theorem new39n (m : Mu) (a : Nat) : ∃ m', CallOk Try.prog 39 [.nils] m (.tup [.adr a 0, .int .i64 0]) m' false (nms a 1) ∧ Low a m m' := by
  refine ⟨updMu m a 0 [.nils, .int .i64 0], ?_, fun c hc o => by rw [updMu_get, if_neg (by omega)]⟩
  have e1 : offUse [a] (nms a 1) = nms (a + 1) 0 := off_one a 0
  refine f39_3 (g0 := a) (z1_t3 := 0) (z1_t4 := 16777216) (z1_t15 := 0) (z1_m := m) (z1_d := false) (z1_fr := nms a 1) (z2_t34 := 0) (z2_d := false) (z2_fr := offUse [a] (nms a 1)) ?_ (by rw [show [a] = nms a 1 from rfl]; exact all_self _) ?_
  · rw [L39n0_1_loop]
    exact (LoopOk.last (P := Try.prog) (by simp) (L39n0_1_1 rfl)).code
  · rw [L39n0_2_loop]
    exact (LoopOk.last (P := Try.prog) (by simp) (L39n0_2_1 rfl)).code
end C
end Go.Proofs.Ytkhjkfbgcpjphaa.Fun
