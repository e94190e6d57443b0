/- revoke.nodes, whole. -/
import Derived.Test.YtkhjkfbgcpjphaaGreatRD7
namespace Go.Proofs.YtkhjkfbgcpjphaaGreat.Fun
open Go
set_option linter.unusedVariables false
/-- What a drain's stores keep. -/
structure DC (n t r d b : Int) (X : Nat → Int) (D : (Nat → Int) → Prop) : Prop where
  h0 : ∀ x w, WdP x → D w → D (upd w 0 x)
  hx : ∀ q : Nat, (q : Int) < n → ∀ x w, WdP x → D w → D (upd w (ndP t r d b + q * 5 + 1).toNat x)
  hf : ∀ q : Nat, (q : Int) < n → ∀ c : Int, (c = 2 ∨ c = 3 ∨ c = 4) → ∀ w, D w → D (upd w (ndP t r d b + q * 5 + c).toNat 0)
  hs : ∀ q : Nat, (q : Int) < n → ∀ w, D w → D (upd w (ndP t r d b + q * 5).toNat (X q))
/-- The words behind a node's turn: its fields 0, its state's word anew. -/
def nodeW (nd : Int) (X : Nat → Int) (w : Nat → Int) (q : Nat) : Nat → Int :=
  upd ([(nd + q * 5 + 2).toNat, (nd + q * 5 + 3).toNat, (nd + q * 5 + 4).toNat].foldl (fun w p => upd w p 0) w) (nd + q * 5).toNat (X q)
theorem nodeW_other {nd : Int} (hnd : 0 ≤ nd) {X : Nat → Int} {w : Nat → Int} {q q' : Nat} (hq : q < q') : nodeW nd X w q (nd + q' * 5).toNat = w (nd + q' * 5).toNat := by
  simp only [nodeW, List.foldl, upd]
  rw [if_neg (by omega), if_neg (by omega), if_neg (by omega), if_neg (by omega)]
abbrev nxOf (nd : Int) : Nat → Nat := fun q => (nd + q * 5 + 1).toNat
section
variable {n t r d b g : Int} (h : PF n t r d b g)
include h
theorem nodesEnds {D : (Nat → Int) → Prop} {m0 : Mu} {mb lb len i : Nat} {Q : Mu → Nat → Prop} (gone : Nat → Bool) (X S0 S1 S2 : Nat → Int) (hC : DC n t r d b X D) (a0 : Nat) : ∀ (j k : Nat), ((k + j : Nat) : Int) = n → ∀ (m : Mu) (R : Reg) (a : Nat) (dv : DV), HasReg m mb lb len i R → KF D a0 mb R.wb m0 R.w m → (R.n : Int) = szP n t r d b →
    mb < a0 → lb < a0 → R.rb < a0 → R.wb < a0 → a0 ≤ a → GoneRow m a mb R.wb gone k dv → (∀ row len, dv = .vec row 0 len 1 → a0 ≤ row) →
    (∀ q : Nat, k ≤ q → (q : Int) < n → StOk g (R.w (ndP t r d b + q * 5).toNat) (X q) (S0 q) (S1 q) (S2 q) ∧ gone q = ((S1 q : Int) == 3)) →
    (∀ m' a', HasReg m' mb lb len i { R with w := (chainW (nxOf (ndP t r d b)) gone n.toNat 0 0 ((List.range' k j).foldl (nodeW (ndP t r d b) X) R.w)).1 } → Far0 a0 mb R.wb m m' → a ≤ a' → Q m' a') →
    Ends (KD D a0 m0 mb lb len i R) mb i R.e 34 [pl n t r d b g, .int .i64 (k : Int), dv] m a (j * 5 + (k + j) + 1) (chainW (nxOf (ndP t r d b)) gone n.toNat 0 0 ((List.range' k j).foldl (nodeW (ndP t r d b) X) R.w)).2 Q
  | 0, k, hk, m, R, a, dv, hR, hD, hsz, l1, l2, l3, l4, ha, hgr, hrow, hst, fin => by
    have hn := h.hn
    rcases hgr with ⟨rfl, _⟩ | ⟨hk0, row, rfl, hr1, hr2, hr3, hcells⟩
    · omega
    have hkn : n.toNat = k := by omega
    rw [hkn] at fin ⊢
    have hz : ((k : Int) == n) = true := by rw [beq_iff_eq]; omega
    obtain ⟨p, m', a', q1, q2, q3⟩ := chainEnds h (a := a) (Q := Q) (row := row) (rl := k) hC.h0 hC.hx gone k 0 0 m R ⟨by omega, by omega⟩ (by omega) (Nat.le_refl _) hR hD hsz hr2 hr3 hcells (fun m' hR' far => fin m' a hR' (fun c _ h1 h2 o => far c h1 h2 o) (Nat.le_refl _))
    have hw : IntKind.i64.wrap ((k : Int) - 1) = (k : Int) - 1 := wrap64 (by omega) (by omega)
    rw [← hw] at q1
    refine ⟨p, m, 0, m', a', ?_, by rw [show 0 * 5 + (k + 0) + 1 = k + 1 by omega]; exact q2, q3⟩
    cases p
    · exact f34_2_o hz q1
    · exact f34_2_s hz q1
  | j + 1, k, hk, m, R, a, dv, hR, hD, hsz, l1, l2, l3, l4, ha, hgr, hrow, hst, fin => by
    have hn := h.hn; have hnd := h.nd; have hct := h.ct; have hhz := h.hz
    have hdv : dv = .nils ∨ ∃ row len, dv = .vec row 0 len 1 := by
      rcases hgr with ⟨_, rfl⟩ | ⟨_, row, rfl, _⟩
      · exact .inl rfl
      · exact .inr ⟨row, k, rfl⟩
    have hkn : (k : Int) < n := by omega
    obtain ⟨m1, hw76, low1, hrow1⟩ := words76 h (k := (k : Int)) (by omega) hkn m a
    have hR1 := hR.low low1 (by omega) (by omega) (by omega) (by omega)
    -- the program of zero, from the memory behind Words
    have z : Ends (KD D a0 m0 mb lb len i R) mb i R.e 31 [.vec (a + 2) 0 3 1, .func 66 [.ptr (pls n t r d b g), .ptr [.int .i64 (k : Int)], .ptr [dv]]] m1 (a + 3) ((j * 5 + (k + 1 + j) + 1 + 1 + 1) + 3) (chainW (nxOf (ndP t r d b)) gone n.toNat 0 0 ((List.range' k (j + 1)).foldl (nodeW (ndP t r d b) X) R.w)).2 Q := by
      refine zeroEnds (b := a + 2) [(ndP t r d b + k * 5 + 2).toNat, (ndP t r d b + k * 5 + 3).toNat, (ndP t r d b + k * 5 + 4).toNat] 0 m1 R hR1 (hD.keep (fun c hc o => low1 c (by omega) o)) (by omega) (by omega) (fun p hp w hw => ?_) (fun q p hp => ?_) (fun p hp => ?_) (fun m2 hR2 hD2 far2 => ?_)
      · simp only [List.mem_cons, List.not_mem_nil, or_false] at hp
        rcases hp with rfl | rfl | rfl
        · exact hC.hf k hkn 2 (.inl rfl) w hw
        · exact hC.hf k hkn 3 (.inr (.inl rfl)) w hw
        · exact hC.hf k hkn 4 (.inr (.inr rfl)) w hw
      · rw [Nat.zero_add]
        have : q < 3 := by
          rcases q with _ | _ | _ | q
          · omega
          · omega
          · omega
          · simp at hp
        rw [hrow1 q this]
        have hq : q = 0 ∨ q = 1 ∨ q = 2 := by omega
        rcases hq with rfl | rfl | rfl <;> simp at hp <;> subst hp <;> (congr 2; omega)
      · simp only [List.mem_cons, List.not_mem_nil, or_false] at hp
        unfold szP at hsz
        rcases hp with rfl | rfl | rfl <;> omega
      have hst0 := hst k (Nat.le_refl _) hkn
      have hstw : ([(ndP t r d b + k * 5 + 2).toNat, (ndP t r d b + k * 5 + 3).toNat, (ndP t r d b + k * 5 + 4).toNat].foldl (fun w p => upd w p 0) R.w) (ndP t r d b + k * 5).toNat = R.w (ndP t r d b + k * 5).toNat := by
        simp only [List.foldl, upd]
        rw [if_neg (by omega), if_neg (by omega), if_neg (by omega)]
      refine Ends.loadAt (R := ⟨R.rb, R.wb, R.n, R.e, [(ndP t r d b + k * 5 + 2).toNat, (ndP t r d b + k * 5 + 3).toNat, (ndP t r d b + k * 5 + 4).toNat].foldl (fun w p => upd w p 0) R.w⟩) (load77 h (by omega) hkn dv hdv m2) hR2 hD2 (by omega) (by unfold szP at hsz; simp only; omega) (fun m3 hR3 far3 => ?_)
      simp only [hstw]
      refine Ends.storeAt (R := ⟨R.rb, R.wb, R.n, R.e, [(ndP t r d b + k * 5 + 2).toNat, (ndP t r d b + k * 5 + 3).toNat, (ndP t r d b + k * 5 + 4).toNat].foldl (fun w p => upd w p 0) R.w⟩) (hst0.1 h k (by omega) hkn dv hdv m3) hR3 (hD2.up (fun x => x) far3) (by omega) (by unfold szP at hsz; simp only; omega) (fun m4 hR4 far4 => ?_)
      have same : ∀ c, c < a → c ≠ R.wb → c ≠ mb → ∀ o, m4 c o = m c o := fun c h1 h2 h3 o => by
        rw [far4 c h2 h3, far3 c h2 h3, far2 c h2 h3, low1 c h1]
      have hgr4 : GoneRow m4 (a + 3) mb R.wb gone k dv := by
        rcases hgr with hn | ⟨q0, row, q1, q2, q3, q4, q5⟩
        · exact .inl hn
        · exact .inr ⟨q0, row, q1, by omega, q3, q4, fun j hj => by rw [same row q2 q3 q4]; exact q5 j hj⟩
      obtain ⟨m5, hgr5, low5, imp⟩ := pass84 (n := n) (t := t) (r := r) (d := d) (b := b) (g := g) (s0 := S0 k) (s1 := S1 k) (s2 := S2 k) (by omega) hst0.2 (show mb < a + 3 by omega) (show R.wb < a + 3 by omega) hgr4
      have ne : ∀ c, c < a0 → ∀ len, dv ≠ .vec c 0 len 1 := fun c hc len he => by have := hrow c len he; omega
      have hR5 : HasReg m5 mb lb len i ⟨R.rb, R.wb, R.n, R.e, nodeW (ndP t r d b) X R.w k⟩ := by
        have hl : Low a0 m4 m5 := fun c hc o => low5 c (by omega) (ne c hc) o
        exact hR4.low hl l1 l2 l3 l4
      have ih := nodesEnds gone X S0 S1 S2 hC a0 j (k + 1) (by omega) m5 ⟨R.rb, R.wb, R.n, R.e, nodeW (ndP t r d b) X R.w k⟩ (a + 3 + 1) _ hR5 (((hD2.up (fun x => x) far3).up (hC.hs k hkn _) far4).keep (fun c hc o => low5 c (by omega) (ne c hc) o)) hsz l1 l2 l3 l4 (by omega) hgr5 (fun row len he => by cases he; omega)
        (fun q hq1 hq2 => by
          have := hst q (by omega) hq2
          rw [← nodeW_other (X := X) (w := R.w) (show 0 ≤ ndP t r d b by omega) (show k < q by omega)] at this
          exact this)
        (fun m' a' hR' far' ha' => fin m' a' hR' (fun c h1 h2 h3 o => by
          rw [far' c h1 h2 h3, low5 c (by omega) (ne c h1), same c (by omega) h2 h3]) (by omega))
      refine (ih.pass2 (a := a + 3) (j0 := 1) (fun p m6 l hc => imp p m6 l hc)) |> fun q => ?_
      exact q
    refine (z.pass2 (j0 := 3) (fun p m2 l hc => pass49 (by omega) dv hdv p hw76 hc)).mono (fun _ _ h => h) |> fun q => ?_
    rw [show (j + 1) * 5 + (k + (j + 1)) + 1 = (j * 5 + (k + 1 + j) + 1 + 1 + 1) + 3 by omega]
    exact q
end
end Go.Proofs.YtkhjkfbgcpjphaaGreat.Fun
