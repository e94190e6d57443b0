/- The list of free nodes, and a drain, of any region. -/
import Derived.Test.YtkhjkfbgcpjphaaRD33
import Derived.Test.YtkhjkfbgcpjphaaFunWaysD
namespace Go.Proofs.Ytkhjkfbgcpjphaa.Fun
open Go Go.Proofs.Ytkhjkfbgcpjphaa.Fun.B
set_option linter.unusedVariables false
section
variable {n t r d b g : Int} (h : PF n t r d b g)
include h
theorem l25i {mb lb len i : Nat} {R : Reg} (a : Nat) (l1 : mb < a) (l2 : lb < a) (l3 : R.rb < a) (l4 : R.wb < a) (hsz : (R.n : Int) = szP n t r d b) : ∀ (f k : Nat), 1 ≤ k → ((k + f : Nat) : Int) = n → ∀ (x : Int) (mk : Mu) (pre : List Int), pre.length = k → HasReg mk mb lb len i R → (∀ (j : Nat) (v : Int), pre[j]? = some v → mk (a + k - 1) j = some (.int .i64 v)) →
    ∃ m' x' fr, LoopOk Try.prog (codeAt [true, true, true, false, false, false] (Try.f25.body.getD .skip)) (L25_1 n t r d b g mb (i : Int) (.vec (a + k - 1) 0 k 1) x mk false (nms (a + k) f)) (.exit 0) (L25_1 n t r d b g mb (i : Int) (.vec (a + (k + (listW n (ndP t r d b) R.w f x).length) - 1) 0 (k + (listW n (ndP t r d b) R.w f x).length) 1) x' m' false fr) ∧
      (∀ (j : Nat) (v : Int), (pre ++ listW n (ndP t r d b) R.w f x)[j]? = some v → m' (a + (k + (listW n (ndP t r d b) R.w f x).length) - 1) j = some (.int .i64 v)) ∧ Low a mk m'
  | 0, k, hk, hkf, x, mk, pre, hpre, hR, hrow => by
    refine ⟨mk, x, nms (a + k) 0, .last (by simp) (L25_1_1 (decide_eq_false (by omega))), ?_, .refl a mk⟩
    simp only [listW, List.length_nil, Nat.add_zero, List.append_nil]
    exact hrow
  | f + 1, k, hk, hkf, x, mk, pre, hpre, hR, hrow => by
    have hn := h.hn; have hnd := h.nd; have hct := h.ct; have hhz := h.hz
    have hun : IntKind.u64.wrap n = n := wrapu_of ⟨by omega, by omega⟩
    by_cases h0 : 0 < x
    rotate_left
    · have e : listW n (ndP t r d b) R.w (f + 1) x = [] := by simp only [listW]; rw [if_neg (by omega)]
      rw [e]
      refine ⟨mk, x, nms (a + k) (f + 1), .last (by simp) (L25_1_2 (decide_eq_true (by omega)) (decide_eq_false h0)), ?_, .refl a mk⟩
      simp only [List.length_nil, Nat.add_zero, List.append_nil]
      exact hrow
    by_cases h1 : x ≤ n
    rotate_left
    · have e : listW n (ndP t r d b) R.w (f + 1) x = [] := by simp only [listW]; rw [if_neg (by omega)]
      rw [e]
      refine ⟨mk, x, nms (a + k) (f + 1), .last (by simp) (L25_1_3 (decide_eq_true (by omega)) (decide_eq_true h0) (by rw [hun]; exact decide_eq_false h1)), ?_, .refl a mk⟩
      simp only [List.length_nil, Nat.add_zero, List.append_nil]
      exact hrow
    have e : listW n (ndP t r d b) R.w (f + 1) x = (x - 1) :: listW n (ndP t r d b) R.w f (R.w (ndP t r d b + (x - 1) * 5 + 1).toNat) := by simp only [listW]; rw [if_pos ⟨h0, h1⟩]
    rw [e]
    have hx : IntKind.i64.wrap (IntKind.i64.wrap x - 1) = x - 1 := by rw [wrap64 (x := x) (by omega) (by omega), wrap64 (by omega) (by omega)]
    let m1 := appMu mk (a + k - 1) (k * 1) (a + k) [.int .i64 (x - 1)]
    have low : Low a mk m1 := fun c hc o => appMu_low (by omega) (by omega) o
    have hR1 := hR.low low l1 l2 l3 l4
    have row1 : ∀ (j : Nat) (v : Int), (pre ++ [x - 1])[j]? = some v → m1 (a + (k + 1) - 1) j = some (.int .i64 v) := fun j v hj => by
      show appMu _ _ _ _ _ _ _ = _
      rw [show a + (k + 1) - 1 = a + k by omega, appMu_at]
      by_cases hjk : j < k
      · rw [if_pos (by omega)]
        rw [List.getElem?_append_left (by omega)] at hj
        exact hrow j v hj
      · rw [if_neg (by omega)]
        rw [List.getElem?_append_right (by omega), hpre] at hj
        have : j = k := by
          have := (List.getElem?_eq_some_iff.1 hj).1
          simp at this; omega
        subst this
        simp at hj
        subst hj
        simp
    obtain ⟨m', x', fr, hl, hr, lw⟩ := l25i a l1 l2 l3 l4 hsz f (k + 1) (by omega) (by omega) (R.w (ndP t r d b + (x - 1) * 5 + 1).toNat) m1 (pre ++ [x - 1]) (by simp [hpre]) hR1 row1
    refine ⟨m', x', fr, .step (s1 := L25_1 n t r d b g mb (i : Int) (.vec (a + (k + 1) - 1) 0 (k + 1) 1) (R.w (ndP t r d b + (x - 1) * 5 + 1).toNat) m1 false (nms (a + (k + 1)) f)) ?_ ?_, ?_, low.trans lw⟩
    · have hp := peek52 hR1 (a := ndP t r d b + (x - 1) * 5 + 1) (by omega) (by unfold szP at hsz; omega)
      have hnx := next61 h (k := x - 1) (by omega) (by omega) m1
      have this : CodeOk Try.prog (codeAt [true, true, true, false, false, false] (Try.f25.body.getD .skip)) (L25_1 n t r d b g mb (i : Int) (.vec (a + k - 1) 0 k 1) x mk false (nms (a + k) (f + 1))) .normal (L25_1 n t r d b g mb (i : Int) (.vec (a + k) 0 (k + 1) 1) (R.w (ndP t r d b + (x - 1) * 5 + 1).toNat) (appMu mk (a + k - 1) (k * 1) (a + k) [.int .i64 (IntKind.i64.wrap (IntKind.i64.wrap x - 1))]) false (offUse [a + k] (nms (a + k) (f + 1)))) :=
        L25_1_4 (r0 := ndP t r d b + (x - 1) * 5 + 1) (decide_eq_true (by omega)) (decide_eq_true h0) (by rw [hun]; exact decide_eq_true h1) (decide_eq_true ⟨by omega, by omega, rfl⟩) (List.all_eq_true.2 fun o ho => by
          have ho : o < k := by simpa using ho
          rw [hrow o (pre[o]'(by omega)) (List.getElem?_eq_getElem (by omega))]; rfl) (by rw [show [a + k] = nms (a + k) 1 from rfl]; exact all_nms (Nat.le_refl _) (by omega)) (by rw [hx]; exact hnx) (by rw [hx]; exact hp)
      rw [hx] at this
      rw [off_one] at this
      rw [show a + (k + 1) - 1 = a + k by omega, show a + (k + 1) = a + k + 1 by omega]
      exact @this
    · rw [List.length_cons, show k + ((listW n (ndP t r d b) R.w f (R.w (ndP t r d b + (x - 1) * 5 + 1).toNat)).length + 1) = k + 1 + (listW n (ndP t r d b) R.w f (R.w (ndP t r d b + (x - 1) * 5 + 1).toNat)).length by omega]
      exact hl
    · intro j v hj
      rw [List.length_cons, show k + ((listW n (ndP t r d b) R.w f (R.w (ndP t r d b + (x - 1) * 5 + 1).toNat)).length + 1) = k + 1 + (listW n (ndP t r d b) R.w f (R.w (ndP t r d b + (x - 1) * 5 + 1).toNat)).length by omega]
      exact hr j v (by simpa using hj)
/-- free.List. -/
theorem list25i {m : Mu} {mb lb len i : Nat} {R : Reg} (hR : HasReg m mb lb len i R) (a : Nat) (l1 : mb < a) (l2 : lb < a) (l3 : R.rb < a) (l4 : R.wb < a) (hsz : (R.n : Int) = szP n t r d b) (hw0 : Wd (R.w 0)) :
    ∃ m' dv, CallOk Try.prog 25 [pl n t r d b g, .adr mb 0, .int .i64 (i : Int)] m dv m' false (nms a n.toNat) ∧ IntsAt m' a (listW n (ndP t r d b) R.w n.toNat (R.w 0 % 2097152)) dv ∧ Low a m m' := by
  have hn := h.hn; have hnd := h.nd; have hct := h.ct; have hhz := h.hz
  have hun : IntKind.u64.wrap n = n := wrapu_of ⟨by omega, by omega⟩
  have hp := peek52 hR (a := 0) (by omega) (by unfold szP at hsz; omega)
  have hnode := node59 (R.w 0) m
  rw [show Int.fdiv (R.w 0) (2 ^ (min (0 : Int).toNat IntKind.u64.bits)) = R.w 0 by have := shr_min (R.w 0) 0 (by omega); simp at this ⊢, and_low hw0 21 (by omega) _ (by decide)] at hnode
  obtain ⟨x, hx⟩ : ∃ x, R.w 0 % 2097152 = x := ⟨_, rfl⟩
  rw [show R.w 0 % 2 ^ 21 = x from hx] at hnode
  rw [hx]
  obtain ⟨f, hf⟩ : ∃ f, n.toNat = f + 1 := ⟨n.toNat - 1, by omega⟩
  rw [hf]
  by_cases h0 : 0 < x
  rotate_left
  · refine ⟨m, .nils, f25_2 (z1_t8 := x) (z1_m := m) (z1_d := false) (z1_fr := nms a (f + 1)) (d58_1 m) (head60 h m) hp hnode ?_, .inl ⟨by simp only [listW]; rw [if_neg (by omega)], rfl⟩, .refl a m⟩
    rw [L25_1_loop]
    exact (LoopOk.last (P := Try.prog) (by simp) (L25_1_6 (decide_eq_true (by omega)) (decide_eq_false h0))).code
  by_cases h1 : x ≤ n
  rotate_left
  · refine ⟨m, .nils, f25_2 (z1_t8 := x) (z1_m := m) (z1_d := false) (z1_fr := nms a (f + 1)) (d58_1 m) (head60 h m) hp hnode ?_, .inl ⟨by simp only [listW]; rw [if_neg (by omega)], rfl⟩, .refl a m⟩
    rw [L25_1_loop]
    exact (LoopOk.last (P := Try.prog) (by simp) (L25_1_7 (decide_eq_true (by omega)) (decide_eq_true h0) (by rw [hun]; exact decide_eq_false h1))).code
  have e : listW n (ndP t r d b) R.w (f + 1) x = (x - 1) :: listW n (ndP t r d b) R.w f (R.w (ndP t r d b + (x - 1) * 5 + 1).toNat) := by simp only [listW]; rw [if_pos ⟨h0, h1⟩]
  rw [e]
  have hx' : IntKind.i64.wrap (IntKind.i64.wrap x - 1) = x - 1 := by rw [wrap64 (x := x) (by omega) (by omega), wrap64 (by omega) (by omega)]
  let m1 := appMu m a 0 a [.int .i64 (x - 1)]
  have low : Low a m m1 := fun c hc o => appMu_low (by omega) (by omega) o
  have hR1 := hR.low low l1 l2 l3 l4
  obtain ⟨m', x', fr, hl, hr, lw⟩ := l25i h a l1 l2 l3 l4 hsz f 1 (Nat.le_refl _) (by omega) (R.w (ndP t r d b + (x - 1) * 5 + 1).toNat) m1 [x - 1] rfl hR1 (fun j v hj => by
    have : j = 0 := by
      have := (List.getElem?_eq_some_iff.1 hj).1
      simp at this; omega
    subst this
    simp at hj
    subst hj
    show appMu _ _ _ _ _ _ _ = _
    rw [show a + 1 - 1 = a from rfl, appMu_at, if_neg (by omega)]; rfl)
  have s1 : CodeOk Try.prog (codeAt [true, true, true, false, false, false] (Try.f25.body.getD .skip)) (L25_1 n t r d b g mb (i : Int) .nils x m false (nms a (f + 1))) .normal (L25_1 n t r d b g mb (i : Int) (.vec a 0 1 1) (R.w (ndP t r d b + (x - 1) * 5 + 1).toNat) m1 false (offUse [a] (nms a (f + 1)))) := by
    have hp1 := peek52 hR1 (a := ndP t r d b + (x - 1) * 5 + 1) (by omega) (by unfold szP at hsz; omega)
    have hnx := next61 h (k := x - 1) (by omega) (by omega) m1
    have this : CodeOk Try.prog (codeAt [true, true, true, false, false, false] (Try.f25.body.getD .skip)) (L25_1 n t r d b g mb (i : Int) .nils x m false (nms a (f + 1))) .normal (L25_1 n t r d b g mb (i : Int) (.vec a 0 1 1) (R.w (ndP t r d b + (x - 1) * 5 + 1).toNat) (appMu m a 0 a [.int .i64 (IntKind.i64.wrap (IntKind.i64.wrap x - 1))]) false (offUse [a] (nms a (f + 1)))) :=
      L25_1_8 (r0 := ndP t r d b + (x - 1) * 5 + 1) (decide_eq_true (by omega)) (decide_eq_true h0) (by rw [hun]; exact decide_eq_true h1) (by rw [show [a] = nms a 1 from rfl]; exact all_nms (Nat.le_refl _) (by omega)) (by rw [hx']; exact hnx) (by rw [hx']; exact hp1)
    rw [hx'] at this
    exact @this
  rw [off_one] at s1
  have lp : CodeOk Try.prog (codeAt [true, true, true, false, false] (Try.f25.body.getD .skip)) (L25_1 n t r d b g mb (i : Int) .nils x m false (nms a (f + 1))) (.exit 0) (L25_1 n t r d b g mb (i : Int) (.vec (a + (1 + (listW n (ndP t r d b) R.w f (R.w (ndP t r d b + (x - 1) * 5 + 1).toNat)).length) - 1) 0 (1 + (listW n (ndP t r d b) R.w f (R.w (ndP t r d b + (x - 1) * 5 + 1).toNat)).length) 1) x' m' false fr) := by
    rw [L25_1_loop]
    exact (LoopOk.step (P := Try.prog) @s1 hl).code
  refine ⟨m', _, f25_1 (d58_1 m) (head60 h m) hp hnode lp, .inr ⟨by simp, a + (1 + (listW n (ndP t r d b) R.w f (R.w (ndP t r d b + (x - 1) * 5 + 1).toNat)).length) - 1, by rw [List.length_cons]; congr 1; omega, by omega, by rw [List.length_cons]; omega, hr⟩, low.trans lw⟩

/-- A drain's call, and its run to the end, of any region. -/
theorem drainG {mb lb len i : Nat} (m : Mu) (rb wb rn : Nat) (e : Int) (w : Nat → Int) (a : Nat) (hR : HasReg m mb lb len i ⟨rb, wb, rn, e, w⟩) (hsz : (rn : Int) = szP n t r d b) (hw : ∀ o, Wd (w o))
    (l1 : mb < a) (l2 : lb < a) (l3 : rb < a) (l4 : wb < a) :
    ∃ at_ caps m1 m2 x, CallOk Try.prog 18 [pl n t r d b g] m (Pg.step 1 at_ 0 0 97 caps).dv m1 false (nms a (nPl t d b)) ∧ HasReg m1 mb lb len i ⟨rb, wb, rn, e, w⟩ ∧ Low a m m1 ∧
      CallOk Try.prog 17 [(Pg.step 1 at_ 0 0 97 caps).dv, .adr mb 0, .agg [.int .i64 i, .int .u64 e], .int .i64 100000] m1 (.tup [.int .i64 (drnW n t r d b g w).2, .int .i64 ((n.toNat * 5 + (0 + n.toNat) + 1 + nPl t d b : Nat) : Int), .bool true]) m2 false (nms (a + nPl t d b) x) ∧
      HasReg m2 mb lb len i ⟨rb, wb, rn, e, (drnW n t r d b g w).1⟩ ∧ Far0 a mb wb m m2 := by
  have hn := h.hn; have hnd := h.nd; have hct := h.ct; have hz := h.hz; have ht := h.ht; have hd := h.hd; have hc := h.cl
  obtain ⟨m1, row, hp, hrow, low, hra⟩ := places47 h m a
  have hR1 := hR.low low l1 l2 l3 l4
  have hlen := plcs_len t r d b
  have hb : nPl t d b ≤ 200 := by
    have : d.toNat * (1 + (cl b).toNat) ≤ 6 * 11 := Nat.mul_le_mul (by omega) (by omega)
    unfold nPl; omega
  obtain ⟨p0, ats, hpl⟩ : ∃ p0 ats, plcs t r d b = p0 :: ats := by
    cases hq : plcs t r d b with
    | nil => rw [hq] at hlen; unfold nPl at hlen; simp at hlen; omega
    | cons p0 ats => exact ⟨p0, ats, rfl⟩
  have z := zeroS (mb := mb) (lb := lb) (len := len) (i := i) (f := 48) (caps := [.ptr (pls n t r d b g)]) (a := a + nPl t d b) (k := n.toNat * 5 + (0 + n.toNat) + 1) (r := (drnW n t r d b g w).2)
    (Q := fun m' a' => HasReg m' mb lb len i ⟨rb, wb, rn, e, (drnW n t r d b g w).1⟩ ∧ Far0 a mb wb m m') (b := row) p0 ats 0 m1 ⟨rb, wb, rn, e, w⟩ hR1 (by simp only; omega) (by omega)
    (fun j p hp => by rw [Nat.zero_add]; exact hrow.at_ j p (by rw [hpl]; exact hp)) (fun p hp => by
      rw [← hpl] at hp
      have := plcs_lt h hp
      unfold szP at hsz; simp only; omega) (fun m2 hR2 far2 => by
      rw [← hpl] at hR2
      refine (nodesEnds h (Q := fun m' a' => HasReg m' mb lb len i ⟨rb, wb, rn, e, (drnW n t r d b g w).1⟩ ∧ Far0 a mb wb m m') (goneW (ndP t r d b) g w) (XW (ndP t r d b) g w) (fun q => (stS g (w (ndP t r d b + q * 5).toNat)).1) (fun q => (stS g (w (ndP t r d b + q * 5).toNat)).2.1) (fun q => (stS g (w (ndP t r d b + q * 5).toNat)).2.2) a n.toNat 0 (by omega) m2 ⟨rb, wb, rn, e, (plcs t r d b).foldl (fun w p => upd w p 0) w⟩ (a + nPl t d b) .nils hR2 hsz l1 l2 l3 l4 (by omega) (.inl ⟨rfl, rfl⟩) (fun row len e => by cases e)
        (fun q _ hq => ?_) (fun m' a' hR' far' ha' => ⟨hR', fun c h1 h2 h3 o => ?_⟩)).pass fun p m1 F hc => pass48 p hc
      · simp only
        rw [foldl_upd_other (plcs t r d b) w (show (ndP t r d b + q * 5).toNat ∉ plcs t r d b from fun hm => by have := plcs_lt h hm; omega)]
        exact ⟨stOkW (hw _), rfl⟩
      · rw [far' c h1 h2 h3, far2 c h2 h3, low c h1])
  rw [← hpl, hlen] at z
  obtain ⟨at_, caps, m2, a', z1, z2, z3, z4⟩ := z
  have hle := z2.le
  have run := runOk (most := 100000) (by omega) z2 (by omega) (a' - (a + nPl t d b)) (by omega)
  exact ⟨at_, caps, m1, m2, a' - (a + nPl t d b), pass18 (l := 0) _ hp z1, hR1, low, run, z3, z4⟩
end
end Go.Proofs.Ytkhjkfbgcpjphaa.Fun

/- What a house does: live tenants, capabilities, a tenant revoked and created. -/
namespace Go.Proofs.Ytkhjkfbgcpjphaa.Fun
open Go Go.Proofs.Ytkhjkfbgcpjphaa.Fun.D
set_option linter.unusedVariables false
/-- A region stays, when its rows do. -/
theorem HasReg.keep {m m' : Mu} {mb lb len i : Nat} {R : Reg} (h : HasReg m mb lb len i R) (k1 : ∀ o, m' mb o = m mb o) (k2 : ∀ o, m' lb o = m lb o) (k3 : ∀ o, m' R.rb o = m R.rb o) (k4 : ∀ o, m' R.wb o = m R.wb o) : HasReg m' mb lb len i R := by
  obtain ⟨c, hc⟩ := h.c
  exact ⟨by rw [k1]; exact h.l, ⟨c, by rw [k1]; exact hc⟩, h.lt, by rw [k2]; exact h.at_, by rw [k3]; exact h.ws, by rw [k3]; exact h.ep, fun o ho => by rw [k4]; exact h.w o ho, h.d1, h.d2, h.d3, h.d4, h.d5⟩
theorem HouseF.keep {m m' : Mu} {hb mb lrow : Nat} {ps : List P6} {lv : Nat → Bool} (h : HouseF m hb mb lrow ps lv) (k1 : ∀ o, m' hb o = m hb o) (k2 : ∀ o, m' lrow o = m lrow o) : HouseF m' hb mb lrow ps lv :=
  ⟨by rw [k1]; exact h.mem, by rw [k1]; exact h.l, fun i p j c hp hc => by rw [k2]; exact h.tens i p j c hp hc⟩
def setLv (lv : Nat → Bool) (k : Nat) (b : Bool) : Nat → Bool := fun i => if i = k then b else lv i
theorem HouseF.set {m : Mu} {hb mb lrow : Nat} {ps : List P6} {lv : Nat → Bool} (h : HouseF m hb mb lrow ps lv) (hne : hb ≠ lrow) (k : Nat) (b : Bool) : HouseF (updMu m lrow (k * 7 + 6) [.bool b]) hb mb lrow ps (setLv lv k b) := by
  refine ⟨by rw [updMu_get, if_neg (fun q => hne q.1)]; exact h.mem, by rw [updMu_get, if_neg (fun q => hne q.1)]; exact h.l, fun i p j c hp hc => ?_⟩
  have hj : j < 7 := by
    have := (List.getElem?_eq_some_iff.1 hc).1
    rwa [dvlen] at this
  rw [updMu_get]
  by_cases hik : i = k
  · subst hik
    by_cases h6 : j = 6
    · subst h6
      rw [if_pos ⟨rfl, Nat.le_refl _, by simp⟩]
      rw [List.getElem?_append_right (by simp [P6.dv])] at hc
      simp [P6.dv, setLv] at hc
      subst hc
      simp
    · rw [if_neg (by simp; omega)]
      refine h.tens i p j c hp ?_
      rw [List.getElem?_append_left (by simp [P6.dv]; omega)] at hc ⊢
      exact hc
  · rw [if_neg (by simp; omega)]
    refine h.tens i p j c hp ?_
    simp only [setLv, if_neg hik] at hc
    exact hc
section
variable {m : Mu} {hb mb lrow : Nat} {ps : List P6} {lv : Nat → Bool} (hh : HouseF m hb mb lrow ps lv)
include hh
theorem tenant62 {i : Nat} (hi : i < ps.length) : CallOk Try.prog 62 [.adr hb 0, .int .i64 (i : Int)] m (.adr lrow (i * 7)) m false [] := by
  have c : CallOk Try.prog 62 [.adr hb 0, .int .i64 (i : Int)] m (.adr lrow (0 + (i : Int).toNat * 7)) m false [] := C.f62_1 (decide_eq_false (by omega)) hh.l (decide_eq_false (by omega)) hh.l (decide_eq_true (by omega))
  rwa [Int.toNat_natCast, Nat.zero_add] at c
theorem lvCell {i : Nat} {p : P6} (hp : ps[i]? = some p) : m lrow (i * 7 + 6) = some (.bool (lv i)) := hh.tens i p 6 _ hp (by rw [List.getElem?_append_right (by simp [P6.dv])]; simp [P6.dv])
theorem live32 {i : Nat} {p : P6} (hp : ps[i]? = some p) : CallOk Try.prog 32 [.adr hb 0, .int .i64 (i : Int)] m (.bool (lv i)) m false [] :=
  f32_1 (tenant62 hh (List.getElem?_eq_some_iff.1 hp).1) (lvCell hh hp)
theorem memory27 : CallOk Try.prog 27 [.adr hb 0] m (.adr mb 0) m false [] := f27_1 hh.mem
theorem cap28 {i : Nat} {p : P6} (hp : ps[i]? = some p) (hl : lv i = true) {lb len : Nat} {R : Reg} (hR : HasReg m mb lb len i R) : CallOk Try.prog 28 [.adr hb 0, .int .i64 (i : Int)] m (.agg [.int .i64 (i : Int), .int .u64 R.e]) m false [] :=
  f28_1 (live32 hh hp) (by rw [hl]; rfl) hh.mem (capOk hR)
theorem cap28n {i : Nat} {p : P6} (hp : ps[i]? = some p) (hl : lv i = false) : CallOk Try.prog 28 [.adr hb 0, .int .i64 (i : Int)] m (.agg [.int .i64 0, .int .u64 0]) m false [] :=
  f28_3 (live32 hh hp) (by rw [hl]; rfl)
theorem create30 {i : Nat} {p : P6} (hp : ps[i]? = some p) (hl : lv i = false) : CallOk Try.prog 30 [.adr hb 0, .int .i64 (i : Int)] m (.int .i64 0) (updMu m lrow (i * 7 + 6) [.bool true]) false [] :=
  f30_1 (tenant62 hh (List.getElem?_eq_some_iff.1 hp).1) (lvCell hh hp) hl (by rw [lvCell hh hp]; rfl)
end
/-- A region's next epoch. -/
theorem bump64 {m : Mu} {mb lb len i : Nat} {R : Reg} (hR : HasReg m mb lb len i R) (d3 : lb ≠ R.rb) : ∃ m', CallOk Try.prog 64 [.adr mb 0, .int .i64 (i : Int)] m (.tup [.agg [.int .i64 (i : Int), .int .u64 (IntKind.u64.wrap (R.e + 1))], .int .i64 0]) m' false [] ∧ HasReg m' mb lb len i { R with e := IntKind.u64.wrap (R.e + 1) } ∧ ∀ c, c ≠ R.rb → ∀ o, m' c o = m c o := by
  have far : ∀ c, c ≠ R.rb → ∀ o, (updMu m R.rb 1 [.int .u64 (IntKind.u64.wrap (R.e + 1))]) c o = m c o := fun c hc o => by rw [updMu_get, if_neg (fun q => hc q.1)]
  obtain ⟨c, hc⟩ := hR.c
  have hR' : HasReg (updMu m R.rb 1 [.int .u64 (IntKind.u64.wrap (R.e + 1))]) mb lb len i { R with e := IntKind.u64.wrap (R.e + 1) } :=
    ⟨by rw [far _ hR.d5]; exact hR.l, ⟨c, by rw [far _ hR.d5]; exact hc⟩, hR.lt, by rw [far _ d3]; exact hR.at_, by simp only; rw [updMu_get, if_neg (by simp)]; exact hR.ws, by simp only; rw [updMu_get, if_pos ⟨rfl, Nat.le_refl _, by simp⟩]; rfl,
      fun o ho => by simp only at ho ⊢; rw [far _ hR.d3]; exact hR.w o ho, hR.d1, hR.d2, hR.d3, hR.d4, hR.d5⟩
  exact ⟨_, f64_1 (regionOk hR) hR.ep (by rw [hR.ep]; rfl) (capOk hR'), hR', far⟩
end Go.Proofs.Ytkhjkfbgcpjphaa.Fun

/- A tenant revoked; capabilities noted; the others looked at. -/
namespace Go.Proofs.Ytkhjkfbgcpjphaa.Fun
open Go Go.Proofs.Ytkhjkfbgcpjphaa.Fun.D
set_option linter.unusedVariables false
/-- Revoke, and what its drain does when it is run. -/
theorem revoke29 {m : Mu} {hb mb lrow lb : Nat} {ps : List P6} {lv : Nat → Bool} (hh : HouseF m hb mb lrow ps lv) (hne : hb ≠ lrow) {k : Nat} {p : P6} (hp : ps[k]? = some p) (hl : lv k = true) (hok : p.ok) (rb wb rn : Nat) (e : Int) (w : Nat → Int)
    (hR : HasReg m mb lb ps.length k ⟨rb, wb, rn, e, w⟩) (hsz : (rn : Int) = p.sz) (hw : ∀ o, Wd (w o)) (a : Nat) (l0 : hb < a) (l1 : mb < a) (l2 : lb < a) (l3 : rb < a) (l4 : wb < a) (l5 : lrow < a)
    (d1 : lrow ≠ mb) (d2 : lrow ≠ lb) (d3 : lrow ≠ rb) (d4 : lrow ≠ wb) (d5 : hb ≠ rb) (d6 : lb ≠ rb) :
    ∃ at_ caps m1 m2 x r K, CallOk Try.prog 29 [.adr hb 0, .int .i64 (k : Int)] m (.tup [(Pg.step 1 at_ 0 0 97 caps).dv, .int .i64 0]) m1 false (nms a (nPl p.2.1 p.2.2.2.1 p.2.2.2.2.1)) ∧
      HasReg m1 mb lb ps.length k ⟨rb, wb, rn, IntKind.u64.wrap (e + 1), w⟩ ∧
      CallOk Try.prog 17 [(Pg.step 1 at_ 0 0 97 caps).dv, .adr mb 0, .agg [.int .i64 (k : Int), .int .u64 (IntKind.u64.wrap (e + 1))], .int .i64 100000] m1 (.tup [.int .i64 r, .int .i64 K, .bool true]) m2 false (nms (a + nPl p.2.1 p.2.2.2.1 p.2.2.2.2.1) x) ∧
      (∃ w', HasReg m2 mb lb ps.length k ⟨rb, wb, rn, IntKind.u64.wrap (e + 1), w'⟩) ∧ (∀ o, m2 hb o = m hb o ∨ hb = mb ∨ hb = wb) ∧ HouseF m2 hb mb lrow ps (setLv lv k false) ∧
      (∀ c, c < a → c ≠ mb → c ≠ rb → c ≠ wb → c ≠ lrow → ∀ o, m2 c o = m c o) ∧ (∃ c, m2 mb 1 = some (.int .i64 c)) ∧ m2 mb 0 = m mb 0 := by
  have hlt := (List.getElem?_eq_some_iff.1 hp).1
  have hh1 := hh.set hne k false
  have hR1 : HasReg (updMu m lrow (k * 7 + 6) [.bool false]) mb lb ps.length k ⟨rb, wb, rn, e, w⟩ := hR.keep (fun o => by rw [updMu_get, if_neg (fun q => d1 q.1.symm)]) (fun o => by rw [updMu_get, if_neg (fun q => d2 q.1.symm)]) (fun o => by rw [updMu_get, if_neg (fun q => d3 q.1.symm)]) (fun o => by rw [updMu_get, if_neg (fun q => d4 q.1.symm)])
  obtain ⟨m0, c64, hR2, far0⟩ := bump64 hR1 d6
  have hh2 : HouseF m0 hb mb lrow ps (setLv lv k false) := hh1.keep (far0 hb d5) (far0 lrow d3)
  obtain ⟨at_, caps, m1, m2, x, c18, hR3, low, c17, hR4, far4⟩ := drainG hok m0 rb wb rn (IntKind.u64.wrap (e + 1)) w a hR2 hsz hw l1 l2 l3 l4
  have cell : ∀ (j : Nat) (c : DV), (p.dv ++ [.bool (setLv lv k false k)])[j]? = some c → m0 lrow (k * 7 + j) = some c := fun j c hc => hh2.tens k p j c hp hc
  have c29 := f29_1 (tenant62 hh hlt) (lvCell hh hp) (by rw [hl]; rfl) (by rw [lvCell hh hp]; rfl) hh1.mem c64 (cell 0 _ rfl) (cell 1 _ rfl) (cell 2 _ rfl) (cell 3 _ rfl) (cell 4 _ rfl) (cell 5 _ rfl) c18 (all_self _)
  have hm0 : ∀ c, c ≠ rb → c ≠ lrow → ∀ o, m0 c o = m c o := fun c h1 h2 o => by rw [far0 c h1 o, updMu_get, if_neg (fun q => h2 q.1)]
  refine ⟨at_, caps, m1, m2, x, _, _, c29, hR3, c17, ⟨_, hR4⟩, fun o => ?_, ?_, fun c h1 h2 h3 h4 h5 o => ?_, hR4.c, ?_⟩
  · by_cases h1 : hb = mb
    · exact .inr (.inl h1)
    · by_cases h2 : hb = wb
      · exact .inr (.inr h2)
      · exact .inl (by rw [far4 hb l0 h2 h1, hm0 hb d5 hne])
  · have hm2l : ∀ o, m2 lrow o = m0 lrow o := far4 lrow l5 d4 d1
    by_cases h2 : hb = wb
    · exact absurd h2 (fun h => by
        have q1 := hR.ws; have q2 := hh.mem
        have := hR.w 0
        simp only at this
        rw [← h, q2] at this
        have hn : 0 < rn := by
          have h' := hok
          have := h'.hn; have := h'.nd; have := h'.ct; have := h'.hz
          have e1 : (rn : Int) = szP p.1 p.2.1 p.2.2.1 p.2.2.2.1 p.2.2.2.2.1 := hsz
          unfold szP at e1; omega
        exact absurd (this hn) (by simp))
    · by_cases h1 : hb = mb
      · exact absurd h1 (fun h => by
          have q1 := hR.l; have q2 := hh.mem
          rw [← h, q2] at q1
          simp at q1)
      · exact hh2.keep (far4 hb l0 h2 h1) hm2l
  · rw [far4 c h1 h4 h2, hm0 c h3 h5]
  · rw [hR4.l, hR.l]
/-- Capabilities noted: a row of two cells each. -/
def CapRow (m : Mu) (row k : Nat) : Prop := ∀ i : Nat, i < k → m row (i * 2) = some (.int .i64 (i : Int)) ∧ m row (i * 2 + 1) = some (.int .u64 1)
theorem caps7 {hb mb lrow lb : Nat} (ps : List P6) (h6 : ps.length ≤ 6) (cs : List DV) (t : Int) (cr : Bool) (a : Nat) (l0 : hb < a) (l1 : mb < a) (l5 : lrow < a) (l2 : lb < a) (rb wb : Nat → Nat) (l3 : ∀ i, i < ps.length → rb i < a ∧ wb i < a) : ∀ (j k : Nat), 1 ≤ k → k + j = ps.length → ∀ m : Mu, HouseF m hb mb lrow ps (fun _ => true) →
    (∀ (i : Nat) (p : P6), ps[i]? = some p → ∃ w, HasReg m mb lb ps.length i ⟨rb i, wb i, p.sz.toNat, 1, w⟩) → CapRow m (a + k - 1) k →
    ∃ m', (∀ R, LoopOk Try.prog (codeAt [true, true, true, true, true, true, true, false, true, false, false] (Try.f7.body.getD .skip)) (L7_1 cs ps.length t cr hb mb (.vec (a + k - 1) 0 k 2) (k : Int) m false (nms (a + k) (j + R))) (.exit 0) (L7_1 cs ps.length t cr hb mb (.vec (a + ps.length - 1) 0 ps.length 2) (ps.length : Int) m' false (nms (a + ps.length) R))) ∧ CapRow m' (a + ps.length - 1) ps.length ∧ Low a m m'
  | 0, k, hk1, hk, m, hh, hr, hc => by
    obtain rfl : k = ps.length := by omega
    refine ⟨m, fun R => ?_, hc, .refl a m⟩
    rw [Nat.zero_add]
    exact .last (by simp) (L7_1_1 (decide_eq_false (by omega)))
  | j + 1, k, hk1, hk, m, hh, hr, hc => by
    obtain ⟨p, hp⟩ : ∃ p, ps[k]? = some p := ⟨ps[k]'(by omega), List.getElem?_eq_getElem (by omega)⟩
    obtain ⟨w, hR⟩ := hr k p hp
    have c28 := cap28 hh hp rfl hR
    have hw : IntKind.i64.wrap ((k : Int) + 1) = ((k + 1 : Nat) : Int) := by rw [wrap64 (by omega) (by omega)]; omega
    let m1 := appMu m (a + k - 1) (k * 2) (a + k) [.int .i64 (k : Int), .int .u64 1]
    have low : Low a m m1 := fun c hc o => appMu_low (by omega) (by omega) o
    have hc1 : CapRow m1 (a + (k + 1) - 1) (k + 1) := fun i hi => by
      have e : ∀ o, m1 (a + (k + 1) - 1) o = if o < k * 2 then m (a + k - 1) o else [DV.int .i64 (k : Int), .int .u64 1][o - k * 2]? := fun o => by
        show appMu _ _ _ _ _ _ _ = _
        rw [show a + (k + 1) - 1 = a + k by omega, appMu_at]
      by_cases hik : i < k
      · rw [e, e, if_pos (by omega), if_pos (by omega)]; exact hc i hik
      · obtain rfl : i = k := by omega
        rw [e, e, if_neg (by omega), if_neg (by omega), Nat.sub_self, show i * 2 + 1 - i * 2 = 1 by omega]
        exact ⟨rfl, rfl⟩
    obtain ⟨m', q1, q2, q3⟩ := caps7 ps h6 cs t cr a l0 l1 l5 l2 rb wb l3 j (k + 1) (by omega) (by omega) m1 (hh.keep (low hb l0) (low lrow l5)) (fun i p hp => by
      obtain ⟨w, hR⟩ := hr i p hp
      have hi := (List.getElem?_eq_some_iff.1 hp).1
      exact ⟨w, hR.low low l1 l2 (l3 i hi).1 (l3 i hi).2⟩) hc1
    refine ⟨m', fun R => .step (s1 := L7_1 cs ps.length t cr hb mb (.vec (a + (k + 1) - 1) 0 (k + 1) 2) ((k + 1 : Nat) : Int) m1 false (nms (a + (k + 1)) (j + R))) ?_ (q1 R), q2, low.trans q3⟩
    have s1 := namesStep (a := a + k) (j := 1) (r := j + R) (G := nms (a + k) (j + 1 + R)) (by congr 1; omega)
    rw [show nms (a + k) 1 = [a + k] from rfl] at s1
    have this : CodeOk Try.prog (codeAt [true, true, true, true, true, true, true, false, true, false, false] (Try.f7.body.getD .skip)) (L7_1 cs ps.length t cr hb mb (.vec (a + k - 1) 0 k 2) (k : Int) m false (nms (a + k) (j + 1 + R))) .normal (L7_1 cs ps.length t cr hb mb (.vec (a + k) 0 (k + 1) 2) (IntKind.i64.wrap ((k : Int) + 1)) m1 false (offUse [a + k] (nms (a + k) (j + 1 + R)))) :=
      L7_1_2 (decide_eq_true (by omega)) c28 (decide_eq_true ⟨by omega, by omega, rfl⟩) (List.all_eq_true.2 fun o ho => by
        have ho : o < k * 2 := by simpa using ho
        have := hc (o / 2) (by omega)
        by_cases h2 : o % 2 = 0
        · rw [show o = o / 2 * 2 by omega, this.1]; rfl
        · rw [show o = o / 2 * 2 + 1 by omega, this.2]; rfl) s1.1
    rw [hw, s1.2] at this
    rw [show a + (k + 1) - 1 = a + k by omega, show a + (k + 1) = a + k + 1 by omega]
    exact @this
end Go.Proofs.Ytkhjkfbgcpjphaa.Fun

/- The others are looked at. -/
namespace Go.Proofs.Ytkhjkfbgcpjphaa.Fun
open Go Go.Proofs.Ytkhjkfbgcpjphaa.Fun.D
set_option linter.unusedVariables false
theorem HasReg.keepM {m m' : Mu} {mb lb len i : Nat} {R : Reg} (h : HasReg m mb lb len i R) (k0 : m' mb 0 = m mb 0) (k1 : ∃ c, m' mb 1 = some (.int .i64 c)) (k2 : ∀ o, m' lb o = m lb o) (k3 : ∀ o, m' R.rb o = m R.rb o) (k4 : ∀ o, m' R.wb o = m R.wb o) : HasReg m' mb lb len i R :=
  ⟨by rw [k0]; exact h.l, k1, h.lt, by rw [k2]; exact h.at_, by rw [k3]; exact h.ws, by rw [k3]; exact h.ep, fun o ho => by rw [k4]; exact h.w o ho, h.d1, h.d2, h.d3, h.d4, h.d5⟩
theorem flat0 : ∀ (l : List P6) (k : Nat) (p : P6), l[k]? = some p → ((l.flatMap P6.dv).drop (k * 6))[0]? = some (.int .i64 p.1)
  | [], k, p, h => by simp at h
  | q :: l, 0, p, h => by simp at h; subst h; simp [P6.dv]
  | q :: l, k + 1, p, h => by
    have := flat0 l k p (by simpa using h)
    rw [List.flatMap_cons, show (k + 1) * 6 = 6 + k * 6 by omega, ← List.drop_drop]
    exact this
theorem others7 {hb mb lrow lb row : Nat} (ps : List P6) (h6 : ps.length ≤ 6) (hok : ∀ p ∈ ps, p.ok) (t : Int) (k : Nat) (htk : Int.tmod (IntKind.i64.wrap t) ((ps.length : Nat) : Int) = (k : Int)) (cr : Bool) (a : Nat) (l0 : hb < a) (l1 : mb < a) (l2 : lb < a) (l5 : lrow < a) (l6 : row < a) (rb wb : Nat → Nat) (l3 : ∀ i, i < ps.length → rb i < a ∧ wb i < a)
    {lv : Nat → Bool} (hlv : ∀ i, i ≠ k → lv i = true) (m0 : Mu) (hh : HouseF m0 hb mb lrow ps lv) (hreg : ∀ (i : Nat) (p : P6), ps[i]? = some p → i ≠ k → ∃ w, HasReg m0 mb lb ps.length i ⟨rb i, wb i, p.sz.toNat, 1, w⟩ ∧ FreshE p.1 (ndP p.2.1 p.2.2.1 p.2.2.2.1 p.2.2.2.2.1) w) (hc : CapRow m0 row ps.length)
    (f : FuncId) (cs : List DV) (q0 q1 q2 q3 e : Int) : ∀ (j i : Nat), i + j = ps.length → ∀ (m : Mu) (x r : Nat), Low a m0 m → a ≤ x → 40 * j ≤ r →
    ∃ m' fr', LoopOk Try.prog (codeAt [true, true, true, true, true, true, true, true, true, true, true, false, true, false, false] (Try.f7.body.getD .skip)) (L7_2 (ps.flatMap P6.dv) ps.length t cr hb mb row ps.length f cs q0 q1 q2 q3 e false (i : Int) m false (nms x r)) (.exit 2) (L7_2 (ps.flatMap P6.dv) ps.length t cr hb mb row ps.length f cs q0 q1 q2 q3 e false (ps.length : Int) m' false fr') ∧ Low a m0 m'
  | 0, i, hi, m, x, r, low, hx, hr => by
    obtain rfl : i = ps.length := by omega
    exact ⟨m, nms x r, .last (by simp) (L7_2_1 (decide_eq_false (by omega))), low⟩
  | j + 1, i, hi, m, x, r, low, hx, hr => by
    have hw : IntKind.i64.wrap ((i : Int) + 1) = ((i + 1 : Nat) : Int) := by rw [wrap64 (by omega) (by omega)]; omega
    by_cases hik : i = k
    · obtain ⟨m', fr', q1', q2'⟩ := others7 ps h6 hok t k htk cr a l0 l1 l2 l5 l6 rb wb l3 hlv m0 hh hreg hc f cs q0 q1 q2 q3 e j (i + 1) (by omega) m x r low hx (by omega)
      refine ⟨m', fr', .step (s1 := L7_2 (ps.flatMap P6.dv) ps.length t cr hb mb row ps.length f cs q0 q1 q2 q3 e false ((i + 1 : Nat) : Int) m false (nms x r)) ?_ q1', q2'⟩
      have this : CodeOk Try.prog (codeAt [true, true, true, true, true, true, true, true, true, true, true, false, true, false, false] (Try.f7.body.getD .skip)) (L7_2 (ps.flatMap P6.dv) ps.length t cr hb mb row ps.length f cs q0 q1 q2 q3 e false (i : Int) m false (nms x r)) .normal (L7_2 (ps.flatMap P6.dv) ps.length t cr hb mb row ps.length f cs q0 q1 q2 q3 e false (IntKind.i64.wrap ((i : Int) + 1)) m false (nms x r)) :=
        L7_2_9 (decide_eq_true (by omega)) (by rw [htk, hik]; simp)
      rw [hw] at this
      exact @this
    · obtain ⟨p, hp⟩ : ∃ p, ps[i]? = some p := ⟨ps[i]'(by omega), List.getElem?_eq_getElem (by omega)⟩
      have h := hok p (List.mem_of_getElem? hp)
      have hn := h.hn; have hnd := h.nd; have hct := h.ct; have hhz := h.hz
      have hsz : ((p.sz.toNat : Nat) : Int) = p.sz := by
        show (((szP _ _ _ _ _).toNat : Nat) : Int) = szP _ _ _ _ _
        unfold szP; omega
      obtain ⟨w, hR0, hf⟩ := hreg i p hp hik
      have hil : i < ps.length := by omega
      have hR := hR0.low low l1 l2 (l3 i hil).1 (l3 i hil).2
      have hhm := hh.keep (low hb l0) (low lrow l5)
      have hcm : ∀ o, m row o = m0 row o := low row l6
      have c28 := cap28 hhm hp (hlv i hik) hR
      have hgood := goodOk hR 1
      have hlive := live32 hhm hp
      rw [hlv i hik] at hlive
      obtain ⟨m1, dv, c25, ints, low1⟩ := list25i h hR x (by omega) (by omega) (by simp only; have := (l3 i hil).1; omega) (by simp only; have := (l3 i hil).2; omega) hsz (hf.all.wd 0)
      rw [freshList h hf] at ints
      obtain ⟨N, hN⟩ : ∃ N, p.1.toNat = N := ⟨_, rfl⟩
      rw [hN] at c25 ints
      rcases ints with ⟨e0, _⟩ | ⟨_, lrw, rfl, _⟩
      · exfalso
        have := congrArg List.length e0
        simp at this; omega
      rw [List.length_map, List.length_range] at c25
      have s1 := namesStep (a := x) (j := N) (r := r - N) (G := nms x r) (by congr 1; omega)
      obtain ⟨m', fr', q1', q2'⟩ := others7 ps h6 hok t k htk cr a l0 l1 l2 l5 l6 rb wb l3 hlv m0 hh hreg hc f cs q0 q1 q2 q3 e j (i + 1) (by omega) m1 (x + N) (r - N) (low.trans fun c hc o => low1 c (by omega) o) (by omega) (by omega)
      refine ⟨m', fr', .step (s1 := L7_2 (ps.flatMap P6.dv) ps.length t cr hb mb row ps.length f cs q0 q1 q2 q3 e false ((i + 1 : Nat) : Int) m1 false (nms (x + N) (r - N))) ?_ q1', q2'⟩
      have this : CodeOk Try.prog (codeAt [true, true, true, true, true, true, true, true, true, true, true, false, true, false, false] (Try.f7.body.getD .skip)) (L7_2 (ps.flatMap P6.dv) ps.length t cr hb mb row ps.length f cs q0 q1 q2 q3 e false (i : Int) m false (nms x r)) .normal (L7_2 (ps.flatMap P6.dv) ps.length t cr hb mb row ps.length f cs q0 q1 q2 q3 e false (IntKind.i64.wrap ((i : Int) + 1)) m1 false (offUse (nms x N) (nms x r))) :=
        L7_2_2 (v1_0 := (i : Int)) (v1_1 := 1) (v2_0 := (i : Int)) (v2_1 := 1) (v7 := p.1) (decide_eq_true (by omega)) (by rw [htk, beq_eq_false_iff_ne]; omega) c28 (decide_eq_true (by omega)) (by rw [Int.toNat_natCast, Nat.zero_add, hcm]; exact (hc i hil).1) (by rw [Int.toNat_natCast, Nat.zero_add, hcm]; exact (hc i hil).2) (by simp)
          (by rw [Int.toNat_natCast, Nat.zero_add, hcm]; exact (hc i hil).1) (by rw [Int.toNat_natCast, Nat.zero_add, hcm]; exact (hc i hil).2) hgood (by simp) hlive rfl (decide_eq_true (by omega)) (by rw [Int.toNat_natCast]; exact flat6 ps i p hp) c25 s1.1 (by rw [Int.toNat_natCast]; exact flat0 ps i p hp) (by
            rw [show ((N : Nat) : Int) = p.1 by omega]; simp)
      rw [hw, s1.2] at this
      exact @this
end Go.Proofs.Ytkhjkfbgcpjphaa.Fun
