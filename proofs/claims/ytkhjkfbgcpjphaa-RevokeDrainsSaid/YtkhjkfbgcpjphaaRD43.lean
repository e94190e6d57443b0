/- The reference's drain, whole. -/
import Derived.Test.YtkhjkfbgcpjphaaRD42
namespace Go.Proofs.Ytkhjkfbgcpjphaa.Fun
open Go Go.Proofs.Ytkhjkfbgcpjphaa.Fun.E
set_option linter.unusedVariables false
section
variable {n t r d b g : Int} (h : PF n t r d b g)
include h
theorem loop23 {m0 : Mu} {sb wb g0 g1 : Nat} {w : Nat → Int} (hw : ∀ o, Wd (w o)) (hd : sb ≠ g0 ∧ sb ≠ g1 ∧ wb ≠ g0 ∧ wb ≠ g1) (hg01 : g0 ≠ g1) (hL : (sorts n t r d b).length < 1000000) : ∀ (j k : Nat), k + j = (sorts n t r d b).length → ∀ m : Mu, DrI n t r d b g m0 sb wb g0 g1 w m k →
    ∃ m', (∀ fL, LoopOk Try.prog (codeAt [true, true, true, true, false, true, false, false] (Try.f23.body.getD .skip)) (L23_1 n t r d b g wb 0 (sorts n t r d b).length sb 0 (sorts n t r d b).length g0 g1 (k : Int) m false fL) (.exit 0) (L23_1 n t r d b g wb 0 (sorts n t r d b).length sb 0 (sorts n t r d b).length g0 g1 (((sorts n t r d b).length : Nat) : Int) m' false fL)) ∧ DrI n t r d b g m0 sb wb g0 g1 w m' (sorts n t r d b).length
  | 0, k, hk, m, H => by
    have e : k = (sorts n t r d b).length := by omega
    rw [e] at H ⊢
    refine ⟨m, fun fL => .last (by simp) ?_, H⟩
    have this : CodeOk Try.prog (codeAt [true, true, true, true, false, true, false, false] (Try.f23.body.getD .skip)) (L23_1 n t r d b g wb 0 (sorts n t r d b).length sb 0 (sorts n t r d b).length g0 g1 (((sorts n t r d b).length : Nat) : Int) m false fL) (.exit 0) (L23_1 n t r d b g wb 0 (sorts n t r d b).length sb 0 (sorts n t r d b).length g0 g1 (((sorts n t r d b).length : Nat) : Int) m false fL) := L23_1_1 (decide_eq_false (by omega))
    exact @this
  | j + 1, k, hk, m, H => by
    obtain ⟨m1, st, H1⟩ := round23 h hw hd hg01 H (by omega) hL
    obtain ⟨m2, lp, H2⟩ := loop23 hw hd hg01 hL j (k + 1) (by omega) m1 H1
    exact ⟨m2, fun fL => .step (P := Try.prog) (st fL) (lp fL), H2⟩
theorem next_only {k i : Nat} (hx : (sorts n t r d b)[i]? = some (7, (k : Int), 0)) : (i : Int) = ndP t r d b + k * 5 + 1 := by
  have hc := sorts_cl h hx
  have key : ∀ y, Cl n t r d b i y → y = (7, (k : Int), 0) → (i : Int) = ndP t r d b + k * 5 + 1 := by
    intro y hc he
    cases hc with
    | head e => simp at he
    | zero _ h1 h4 => subst he; simp at h4
    | kept _ h5 => subst he; simp at h5
    | state q _ e => simp at he
    | next q _ e =>
      simp only [Prod.mk.injEq] at he
      omega
    | field q i' _ _ e => simp at he
  exact key _ hc rfl
theorem chain23 {sb g0 g1 : Nat} (hd : sb ≠ g0) (hg01 : g0 ≠ g1) (hL : (sorts n t r d b).length < 1000000) (gone : Nat → Bool) : ∀ (k : Nat), (k : Int) ≤ n → ∀ (word cnt : Int) (m : Mu) (v : Nat → Int), TriAt m sb (sorts n t r d b) → (∀ o, o < (sorts n t r d b).length → m g0 o = some (.int .u64 (v o))) → (∀ q : Nat, (q : Int) < n → m g1 q = some (.bool (gone q))) →
    ∃ m' W v', (∀ fL, LoopOk Try.prog (codeAt [true, true, true, true, true, true, false, true, false, false] (Try.f23.body.getD .skip)) (L23_2 n t r d b g (sorts n t r d b).length sb 0 (sorts n t r d b).length g0 g1 word cnt ((k : Int) - 1) m false fL) (.exit 2) (L23_2 n t r d b g (sorts n t r d b).length sb 0 (sorts n t r d b).length g0 g1 W (chainU (nxOf (ndP t r d b)) gone k word cnt).2 (-1) m' false fL)) ∧
      (∀ o, o < (sorts n t r d b).length → m' g0 o = some (.int .u64 (v' o))) ∧ upd v' 0 W = ups (chainU (nxOf (ndP t r d b)) gone k word cnt).1 v ∧ ∀ c, c ≠ g0 → ∀ o, m' c o = m c o
  | 0, hk, word, cnt, m, v, hs, ho, hg => by
    refine ⟨m, word, v, fun fL => .last (by simp) ?_, ho, rfl, fun _ _ _ => rfl⟩
    have this : CodeOk Try.prog (codeAt [true, true, true, true, true, true, false, true, false, false] (Try.f23.body.getD .skip)) (L23_2 n t r d b g (sorts n t r d b).length sb 0 (sorts n t r d b).length g0 g1 word cnt (-1) m false fL) (.exit 2) (L23_2 n t r d b g (sorts n t r d b).length sb 0 (sorts n t r d b).length g0 g1 word cnt (-1) m false fL) := L23_2_1 (decide_eq_false (by omega))
    exact @this
  | k + 1, hk, word, cnt, m, v, hs, ho, hg => by
    have hn := h.hn; have hnd := h.nd; have hct := h.ct; have hhz := h.hz
    have hl := sorts_len h
    have e : ((k + 1 : Nat) : Int) - 1 = (k : Int) := by omega
    have ew : IntKind.i64.wrap ((k : Int) - 1) = (k : Int) - 1 := wrap64 (by omega) (by omega)
    have hx := sorts_next h (q := k) (by omega)
    obtain ⟨p, hp⟩ : ∃ p, (ndP t r d b + (k : Int) * 5 + 1).toNat = p := ⟨_, rfl⟩
    rw [hp] at hx
    have hlt := (List.getElem?_eq_some_iff.1 hx).1
    have pc := place57 hs hL hx (fun i hi hh => by have := next_only h hh; omega)
    have lt0 : decide ((k : Int) ≥ 0) = true := decide_eq_true (by omega)
    have kin : decide ((0 : Int) ≤ (k : Int) ∧ (k : Int) < ((n.toNat : Nat) : Int)) = true := decide_eq_true ⟨by omega, by omega⟩
    have ek : 0 + ((k : Nat) : Int).toNat * 1 = k := by simp
    have ep : 0 + ((p : Nat) : Int).toNat * 1 = p := by simp
    have pin : decide ((0 : Int) ≤ (p : Int) ∧ (p : Int) < (((sorts n t r d b).length : Nat) : Int)) = true := decide_eq_true ⟨by omega, by omega⟩
    have pis : (m g0 (0 + ((p : Nat) : Int).toNat * 1)).isSome = true := by rw [ep, ho p hlt]; rfl
    have enx : nxOf (ndP t r d b) k = p := hp
    have hgk := hg k (by omega)
    rw [e]
    have outK : ∀ x : Int, ∀ o, o < (sorts n t r d b).length → updMu m g0 (0 + ((p : Nat) : Int).toNat * 1) [.int .u64 x] g0 o = some (.int .u64 (upd v p x o)) := fun x o hol => by
      rw [upd1]
      unfold upd
      by_cases e : o = p
      · rw [if_pos ⟨rfl, e⟩, if_pos e]
      · rw [if_neg (fun hh => e hh.2), if_neg e]; exact ho o hol
    have hsK : ∀ x : DV, TriAt (updMu m g0 (0 + ((p : Nat) : Int).toNat * 1) [x]) sb (sorts n t r d b) := fun x => hs.keep fun o => by rw [upd1, if_neg (fun hh => hd hh.1)]
    have hgK : ∀ x : DV, ∀ q : Nat, (q : Int) < n → updMu m g0 (0 + ((p : Nat) : Int).toNat * 1) [x] g1 q = some (.bool (gone q)) := fun x q hq => by rw [upd1, if_neg (fun hh => hg01 hh.1.symm)]; exact hg q hq
    by_cases hgo : gone k = true
    · have ec : chainU (nxOf (ndP t r d b)) gone (k + 1) word cnt = ((p, 0) :: (chainU (nxOf (ndP t r d b)) gone k word cnt).1, (chainU (nxOf (ndP t r d b)) gone k word cnt).2) := by simp only [chainU, if_pos hgo, enx]
      rw [ec]
      obtain ⟨m', W, v', lp, hout, hup, hlo⟩ := chain23 hd hg01 hL gone k (by omega) word cnt _ _ (hsK (.int .u64 0)) (outK 0) (hgK _)
      refine ⟨m', W, v', fun fL => ?_, hout, hup, fun c hc o => by rw [hlo c hc, upd1, if_neg (fun hh => hc hh.1)]⟩
      have this : CodeOk Try.prog (codeAt [true, true, true, true, true, true, false, true, false, false] (Try.f23.body.getD .skip)) (L23_2 n t r d b g (sorts n t r d b).length sb 0 (sorts n t r d b).length g0 g1 word cnt (k : Int) m false fL) .normal (L23_2 n t r d b g (sorts n t r d b).length sb 0 (sorts n t r d b).length g0 g1 word cnt (IntKind.i64.wrap ((k : Int) - 1)) (updMu m g0 (0 + ((p : Nat) : Int).toNat * 1) [.int .u64 0]) false fL) :=
        L23_2_3 (v1 := gone k) lt0 pc kin (by rw [ek]; exact hgk) hgo pin pis
      rw [ew] at this
      exact .step (P := Try.prog) @this (lp fL)
    · have hgf : gone k = false := by simpa using hgo
      have ec : chainU (nxOf (ndP t r d b)) gone (k + 1) word cnt = ((p, word) :: (chainU (nxOf (ndP t r d b)) gone k (IntKind.u64.wrap (IntKind.i64.wrap ((k : Int) + 1))) (IntKind.i64.wrap (cnt + 1))).1, (chainU (nxOf (ndP t r d b)) gone k (IntKind.u64.wrap (IntKind.i64.wrap ((k : Int) + 1))) (IntKind.i64.wrap (cnt + 1))).2) := by simp only [chainU, if_neg hgo, enx]
      rw [ec]
      obtain ⟨m', W, v', lp, hout, hup, hlo⟩ := chain23 hd hg01 hL gone k (by omega) (IntKind.u64.wrap (IntKind.i64.wrap ((k : Int) + 1))) (IntKind.i64.wrap (cnt + 1)) _ _ (hsK (.int .u64 word)) (outK word) (hgK _)
      refine ⟨m', W, v', fun fL => ?_, hout, hup, fun c hc o => by rw [hlo c hc, upd1, if_neg (fun hh => hc hh.1)]⟩
      have this : CodeOk Try.prog (codeAt [true, true, true, true, true, true, false, true, false, false] (Try.f23.body.getD .skip)) (L23_2 n t r d b g (sorts n t r d b).length sb 0 (sorts n t r d b).length g0 g1 word cnt (k : Int) m false fL) .normal (L23_2 n t r d b g (sorts n t r d b).length sb 0 (sorts n t r d b).length g0 g1 (IntKind.u64.wrap (IntKind.i64.wrap ((k : Int) + 1))) (IntKind.i64.wrap (cnt + 1)) (IntKind.i64.wrap ((k : Int) - 1)) (updMu m g0 (0 + ((p : Nat) : Int).toNat * 1) [.int .u64 word]) false fL) :=
        L23_2_2 (v1 := gone k) lt0 pc kin (by rw [ek]; exact hgk) hgf pin pis
      rw [ew] at this
      exact .step (P := Try.prog) @this (lp fL)
/-- The reference's drain of a region's words: what a drain leaves. -/
theorem drain23 (m : Mu) (a wb : Nat) (w : Nat → Int) (hw : ∀ o, Wd (w o)) (hwb : wb < a) (hin : ∀ o, o < (sorts n t r d b).length → m wb o = some (.int .u64 (w o))) :
    ∃ m', CallOk Try.prog 23 [pl n t r d b g, .vec wb 0 (sorts n t r d b).length 1] m (.tup [.vec (a + nSo n t r d b) 0 (sorts n t r d b).length 1, .int .i64 (drnW n t r d b g w).2]) m' false (nms a (nSo n t r d b + 2)) ∧
      (∀ o, o < (sorts n t r d b).length → m' (a + nSo n t r d b) o = some (.int .u64 ((drnW n t r d b g w).1 o))) ∧ Low a m m' := by
  have hn := h.hn; have hnd := h.nd; have hct := h.ct; have hhz := h.hz
  have hl := sorts_len h
  unfold szP at hl
  have hL : (sorts n t r d b).length < 1000000 := by omega
  obtain ⟨m1, sb, c53, hs1, lo1, hs2, hs3⟩ := words53 h m a
  obtain ⟨S, hS⟩ : ∃ S, nSo n t r d b = S := ⟨_, rfl⟩
  rw [hS] at c53 hs3 ⊢
  obtain ⟨L, hLe⟩ : ∃ L, (sorts n t r d b).length = L := ⟨_, rfl⟩
  have hin1 : ∀ o, o < L → m1 wb o = some (.int .u64 (w o)) := fun o ho => by rw [lo1 wb hwb]; exact hin o (by omega)
  obtain ⟨mS, hmS⟩ : ∃ mS, mS = makeMu (appMu m1 (a + S) 0 (a + S) (rowOf m1 wb 0 (L * 1))) (a + S + 1) n.toNat 1 [.bool false] := ⟨_, rfl⟩
  have atc : ∀ c, c ≠ a + S → c ≠ a + S + 1 → ∀ o, mS c o = m1 c o := fun c h1 h2 o => by
    rw [hmS]; unfold makeMu appMu
    rw [if_neg h2, if_neg h1, if_neg h1]
  have at0 : ∀ o, o < L → mS (a + S) o = some (.int .u64 (w o)) := fun o ho => by
    rw [hmS]; unfold makeMu
    rw [if_neg (by omega), appMu_at, if_neg (by omega)]
    unfold rowOf
    rw [List.getElem?_map, List.getElem?_range (by omega)]
    simp only [Option.map_some, Nat.sub_zero, Nat.zero_add]
    rw [hin1 o ho]; rfl
  have at1 : ∀ q : Nat, (q : Int) < n → mS (a + S + 1) q = some (.bool false) := fun q hq => by
    rw [hmS]; unfold makeMu
    rw [if_pos rfl, if_pos (by omega), Nat.mod_one]; rfl
  have I0 : DrI n t r d b g mS sb wb (a + S) (a + S + 1) w mS 0 := {
    so := hs1.keep (atc sb (by omega) (by omega))
    wo := fun o ho => by rw [atc wb (by omega) (by omega)]; exact hin1 o (by omega)
    ou := fun o ho => by rw [at0 o (by omega)]; unfold outW; rw [if_neg (by omega)]
    go := fun q hq => by rw [at1 q hq, decide_eq_false (by omega)]; rfl
    lo := fun _ _ _ _ => rfl }
  obtain ⟨m2, lp1, I2⟩ := loop23 h hw ⟨by omega, by omega, by omega, by omega⟩ (by omega) hL (sorts n t r d b).length 0 (by omega) mS I0
  obtain ⟨m3, W, v3, lp2, hout, hup, hlo⟩ := chain23 h (sb := sb) (g0 := a + S) (g1 := a + S + 1) (by omega) (by omega) hL (goneW (ndP t r d b) g w) n.toNat (by omega) 0 0 m2 _ I2.so I2.ou (fun q hq => by
    rw [I2.go q hq, decide_eq_true (by omega), Bool.true_and])
  have e2 : (drnW n t r d b g w).2 = (chainU (nxOf (ndP t r d b)) (goneW (ndP t r d b) g w) n.toNat 0 0).2 := by unfold drnW; rw [drain_ups]
  have upd0 : ∀ c o, updMu m3 (a + S) (0 + (0 : Int).toNat * 1) [.int .u64 W] c o = if c = a + S ∧ o = 0 then some (.int .u64 W) else m3 c o := fun c o => upd1 (m := m3) (c := a + S) (k := 0) c o
  refine ⟨updMu m3 (a + S) (0 + (0 : Int).toNat * 1) [.int .u64 W], ?_, fun o ho => ?_, fun c hc o => ?_⟩
  · obtain ⟨F, hF⟩ : ∃ F, F = nms a (S + (1 + (1 + 0))) := ⟨_, rfl⟩
    obtain ⟨n1, o1⟩ := namesStep hF
    obtain ⟨n2, o2⟩ := namesStep o1
    obtain ⟨n3, o3⟩ := namesStep o2
    rw [show nms a (S + 2) = F from hF.symm, e2]
    have q1 : ∀ fL, CodeOk Try.prog (codeAt [true, true, true, true, false, true, false] (Try.f23.body.getD .skip)) (L23_1 n t r d b g wb 0 (sorts n t r d b).length sb 0 (sorts n t r d b).length (a + S) (a + S + 1) 0 mS false fL) (.exit 0) (L23_1 n t r d b g wb 0 (sorts n t r d b).length sb 0 (sorts n t r d b).length (a + S) (a + S + 1) (((sorts n t r d b).length : Nat) : Int) m2 false fL) := fun fL => by
      rw [L23_1_loop]; exact (lp1 fL).code
    have q2 : ∀ fL, CodeOk Try.prog (codeAt [true, true, true, true, true, true, false, true, false] (Try.f23.body.getD .skip)) (L23_2 n t r d b g (sorts n t r d b).length sb 0 (sorts n t r d b).length (a + S) (a + S + 1) 0 0 (IntKind.i64.wrap (n - 1)) m2 false fL) (.exit 2) (L23_2 n t r d b g (sorts n t r d b).length sb 0 (sorts n t r d b).length (a + S) (a + S + 1) W (chainU (nxOf (ndP t r d b)) (goneW (ndP t r d b) g w) n.toNat 0 0).2 (-1) m3 false fL) := fun fL => by
      rw [L23_2_loop, wrap64 (by omega) (by omega), show n - 1 = ((n.toNat : Nat) : Int) - 1 by omega]; exact (lp2 fL).code
    rw [hmS, ← hLe] at q1
    exact f23_1 (F := F) c53 n1 (decide_eq_true ⟨by omega, by omega⟩) (List.all_eq_true.2 fun o ho => by
      rw [List.mem_range] at ho
      rw [Nat.zero_add, hin1 o (by omega)]; rfl) n2 (decide_eq_true ⟨by omega, rfl, by omega⟩) n3 (q1 _) (q2 _) (decide_eq_true ⟨by omega, by omega⟩) (by
      rw [show 0 + (0 : Int).toNat * 1 = 0 from rfl, hout 0 (by omega)]; rfl)
  · rw [upd0, ← ref_drain h w o ho, ← hup]
    unfold upd
    by_cases e : o = 0
    · rw [if_pos ⟨rfl, e⟩, if_pos e]
    · rw [if_neg (fun hh => e hh.2), if_neg e]; exact hout o ho
  · rw [upd0, if_neg (fun hh => by omega), hlo c (by omega), I2.lo c (by omega) (by omega), atc c (by omega) (by omega), lo1 c hc]
omit h in
/-- What is put. -/
theorem putsAll5 {mb lb : Nat} (rb wb rn : Nat) (e : Int) (l : List (Int × Int)) (hl : ∀ p ∈ l, Wd p.2) (h60 : l.length ≤ 60) : ∀ (j k : Nat), k + j = l.length → ∀ (m : Mu) (w : Nat → Int), HasReg m mb lb 1 0 ⟨rb, wb, rn, e, w⟩ → (∀ o, Wd (w o)) →
    ∃ m' w', (∀ fr, LoopOk Try.prog (codeAt [true, true, true, true, false, true, false, false] (Try.f5.body.getD .skip)) (L5_1 n t r d b g (l.flatMap pr) l.length mb (k : Int) m false fr) (.exit 0) (L5_1 n t r d b g (l.flatMap pr) l.length mb (l.length : Int) m' false fr)) ∧ HasReg m' mb lb 1 0 ⟨rb, wb, rn, e, w'⟩ ∧ ∀ o, Wd (w' o)
  | 0, k, hk, m, w, hR, hw => by
    obtain rfl : k = l.length := by omega
    exact ⟨m, w, fun fr => .last (by simp) (L5_1_1 (decide_eq_false (by omega))), hR, hw⟩
  | j + 1, k, hk, m, w, hR, hw => by
    have hwr : IntKind.i64.wrap ((k : Int) + 1) = ((k + 1 : Nat) : Int) := by rw [wrap64 (by omega) (by omega)]; omega
    obtain ⟨p, hp⟩ : ∃ p, l[k]? = some p := ⟨l[k], List.getElem?_eq_getElem (by omega)⟩
    obtain ⟨p1, p2⟩ := flat2 l k p hp
    have hpw : Wd p.2 := hl p (List.mem_of_getElem? hp)
    obtain ⟨m1, w1, v1, v2, hc, hR1, hw1⟩ : ∃ m1 w1 v1 v2, CallOk Try.prog 21 [.adr mb 0, .agg [.int .i64 0, .int .u64 e], .agg [.int .i64 1, .int .i64 p.1, .int .u64 p.2, .int .u64 0]] m (.tup [.int .u64 v1, .bool v2]) m1 false [] ∧ HasReg m1 mb lb 1 0 ⟨rb, wb, rn, e, w1⟩ ∧ ∀ o, Wd (w1 o) := by
      by_cases hin : 0 ≤ p.1 ∧ p.1 < rn
      · obtain ⟨m1, c1, c2, _⟩ := doStore hR hin.1 hin.2 p.2 0
        refine ⟨m1, _, _, _, c1, c2, fun o => ?_⟩
        simp only [upd]
        split
        · exact hpw
        · exact hw o
      · exact ⟨m, w, 0, false, putMiss hR hin p.2, hR, hw⟩
    obtain ⟨m', w', q1, q2, q3⟩ := putsAll5 rb wb rn e l hl h60 j (k + 1) (by omega) m1 w1 hR1 hw1
    refine ⟨m', w', fun fr => .step (s1 := L5_1 n t r d b g (l.flatMap pr) l.length mb ((k + 1 : Nat) : Int) m1 false fr) ?_ (q1 fr), q2, q3⟩
    have this : CodeOk Try.prog (codeAt [true, true, true, true, false, true, false, false] (Try.f5.body.getD .skip)) (L5_1 n t r d b g (l.flatMap pr) l.length mb (k : Int) m false fr) .normal (L5_1 n t r d b g (l.flatMap pr) l.length mb (IntKind.i64.wrap ((k : Int) + 1)) m1 false fr) :=
      L5_1_2 (decide_eq_true (by omega)) (capOk hR) (decide_eq_true (by omega)) (by rw [Int.toNat_natCast]; exact p1) (by rw [Int.toNat_natCast]; exact p2) hc
    rw [hwr] at this
    exact @this
end
end Go.Proofs.Ytkhjkfbgcpjphaa.Fun
