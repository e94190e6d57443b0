/- Run, of a program that is a tree, on a region. -/
import Derived.Test.YtehihnapbpcfbaaGreatRegL
namespace Go.Proofs.YtehihnapbpcfbaaGreat.Fun
open Go
set_option linter.unusedVariables false
/-- The names from one on. -/
abbrev nms (a k : Nat) : List Nat := List.range' a k
theorem all_nms {a k b l : Nat} (h1 : b ≤ a) (h2 : a + k ≤ b + l) : ((nms a k).all fun n => (nms b l).contains n) = true := by
  rw [List.all_eq_true]
  intro n hn
  simp only [List.mem_range'_1] at hn
  simp only [List.contains_iff_mem, List.mem_range'_1]
  omega
theorem filter_nms (a k : Nat) : ∀ l, (nms a (k + l)).filter (fun n => !(nms a k).contains n) = nms (a + k) l := by
  intro l
  rw [show nms a (k + l) = nms a k ++ nms (a + k) l from (List.range'_append_1 ..).symm, List.filter_append]
  rw [List.filter_eq_nil_iff.2 (fun n hn => by simp [hn]), List.nil_append]
  rw [List.filter_eq_self.2 (fun n hn => by simp only [List.mem_range'_1] at hn; simp only [Bool.not_eq_true', List.contains_eq_mem, decide_eq_false_iff_not, List.mem_range'_1]; omega)]
theorem off_nms (a k l : Nat) : offUse (nms a k) (nms a (k + l)) = nms (a + k) l := by
  rw [← filter_nms a k l]
  unfold offUse
  cases hk : nms a k with
  | nil => simp only []; exact (List.filter_eq_self.2 (fun _ _ => by simp)).symm
  | cons x xs => rfl
theorem wrap64 {x : Int} (h1 : -9223372036854775808 ≤ x) (h2 : x ≤ 9223372036854775807) : IntKind.i64.wrap x = x := by
  unfold IntKind.wrap
  simp only [IntKind.signed, IntKind.bits]
  simp
  omega
/-- A program's run on words: what is left of it, in how many steps, and the words. -/
def LP.run {R : Type} (rn : Nat) : Nat → LP R → (Nat → Int) → LP R × Nat × (Nat → Int)
  | 0, t, w => (t, 0, w)
  | k + 1, .acc op a x y nx, w => match accW rn w op a x y with
    | none => (.acc op a x y nx, 0, w)
    | some (v, w') => ((LP.run rn k (nx v) w').1, (LP.run rn k (nx v) w').2.1 + 1, (LP.run rn k (nx v) w').2.2)
  | k + 1, .done r, w => (.done r, 0, w)
  | k + 1, .cut, w => (.cut, 0, w)
def LP.isCut {R : Type} : LP R → Bool
  | .cut => true
  | _ => false
def LP.out {R : Type} (z : R) : LP R → R
  | .done r => r
  | _ => z
def LP.isOver {R : Type} : LP R → Bool
  | .done _ => true
  | _ => false
/-- So many accesses are counted. -/
def cnts : Nat → Int → Int
  | 0, c => c
  | k + 1, c => cnts k (IntKind.i64.wrap (c + 1))
/-- What is known of an instance of Run, and of its Step. -/
structure RunW {R : Type} (K : Kn R) (z : R) (run step : FuncId) (L : Nat → Int → Int → Int → Int → List DV → Mu → Bool → List Nat → St) (loop body : Code) : Prop where
  isloop : loop = .loop body
  no_o : ∀ {b i e most t r m fr}, decide (t < most) = false → CodeOk Tryz.prog body (L b i e most t (cellsOf (pO K r)) m false fr) (.exit 0) (L b i e most t (cellsOf (pO K r)) m false fr)
  no_t : ∀ {b i e most t r m fr}, decide (t < most) = true → CodeOk Tryz.prog body (L b i e most t (cellsOf (pO K r)) m false fr) (.exit 0) (L b i e most t (cellsOf (pO K r)) m false fr)
  no_s : ∀ {b i e most t o u v w g c m fr}, decide (t < most) = false → CodeOk Tryz.prog body (L b i e most t (cellsOf (pS K o u v w g c)) m false fr) (.exit 0) (L b i e most t (cellsOf (pS K o u v w g c)) m false fr)
  go_o : ∀ {b i e most t o u v w g c m m1 fr fs r}, decide (t < most) = true → CallOk Tryz.prog step [pS K o u v w g c, .adr b 0, .agg [I i, U e]] m (.tup [pO K r, .bool true]) m1 false fs → (fs.all fun n => fr.contains n) = true →
    CodeOk Tryz.prog body (L b i e most t (cellsOf (pS K o u v w g c)) m false fr) .normal (L b i e most (IntKind.i64.wrap (t + 1)) (cellsOf (pO K r)) m1 false (offUse fs fr))
  go_s : ∀ {b i e most t o u v w g c m m1 fr fs o' u' v' w' g' c'}, decide (t < most) = true → CallOk Tryz.prog step [pS K o u v w g c, .adr b 0, .agg [I i, U e]] m (.tup [pS K o' u' v' w' g' c', .bool true]) m1 false fs → (fs.all fun n => fr.contains n) = true →
    CodeOk Tryz.prog body (L b i e most t (cellsOf (pS K o u v w g c)) m false fr) .normal (L b i e most (IntKind.i64.wrap (t + 1)) (cellsOf (pS K o' u' v' w' g' c')) m1 false (offUse fs fr))
  stop : ∀ {b i e most t o u v w g c m m1 fr fs}, decide (t < most) = true → CallOk Tryz.prog step [pS K o u v w g c, .adr b 0, .agg [I i, U e]] m (.tup [pS K o u v w g c, .bool false]) m1 false fs → (fs.all fun n => fr.contains n) = true →
    CodeOk Tryz.prog body (L b i e most t (cellsOf (pS K o u v w g c)) m false fr) (.exit 0) (L b i e most t (cellsOf (pS K o u v w g c)) m1 false (offUse fs fr))
  st_o : ∀ {b i e o u v w g c m m1 m2 x fs F r}, CallOk Tryz.prog n_mem_Memory_Do [.adr b 0, .agg [I i, U e], .agg [I o, I u, U v, U w]] m (.tup [U x, .bool true]) m1 false [] → CallOk Tryz.prog g (U x :: c) m1 (pO K r) m2 false fs → (fs.all fun n => F.contains n) = true →
    CallOk Tryz.prog step [pS K o u v w g c, .adr b 0, .agg [I i, U e]] m (.tup [pO K r, .bool true]) m2 false F
  st_s : ∀ {b i e o u v w g c m m1 m2 x fs F o' u' v' w' g' c'}, CallOk Tryz.prog n_mem_Memory_Do [.adr b 0, .agg [I i, U e], .agg [I o, I u, U v, U w]] m (.tup [U x, .bool true]) m1 false [] → CallOk Tryz.prog g (U x :: c) m1 (pS K o' u' v' w' g' c') m2 false fs → (fs.all fun n => F.contains n) = true →
    CallOk Tryz.prog step [pS K o u v w g c, .adr b 0, .agg [I i, U e]] m (.tup [pS K o' u' v' w' g' c', .bool true]) m2 false F
  st_n : ∀ {b i e o u v w g c m m1 x F}, CallOk Tryz.prog n_mem_Memory_Do [.adr b 0, .agg [I i, U e], .agg [I o, I u, U v, U w]] m (.tup [U x, .bool false]) m1 false [] → CallOk Tryz.prog step [pS K o u v w g c, .adr b 0, .agg [I i, U e]] m (.tup [pS K o u v w g c, .bool false]) m1 false F
  r_oo : ∀ {b i e most t r r' m m' d F fr}, CodeOk Tryz.prog loop (L b i e most 0 (cellsOf (pO K r)) m false F) (.exit 0) (L b i e most t (cellsOf (pO K r')) m' d fr) → CallOk Tryz.prog run [pO K r, .adr b 0, .agg [I i, U e], I most] m (.tup [K.arg r', I t, .bool true]) m' d F
  r_os : ∀ {b i e most t r m m' d F fr o u v w g c}, CodeOk Tryz.prog loop (L b i e most 0 (cellsOf (pO K r)) m false F) (.exit 0) (L b i e most t (cellsOf (pS K o u v w g c)) m' d fr) → CallOk Tryz.prog run [pO K r, .adr b 0, .agg [I i, U e], I most] m (.tup [K.arg z, I t, .bool false]) m' d F
  r_so : ∀ {b i e most t r' m m' d F fr o u v w g c}, CodeOk Tryz.prog loop (L b i e most 0 (cellsOf (pS K o u v w g c)) m false F) (.exit 0) (L b i e most t (cellsOf (pO K r')) m' d fr) → CallOk Tryz.prog run [pS K o u v w g c, .adr b 0, .agg [I i, U e], I most] m (.tup [K.arg r', I t, .bool true]) m' d F
  r_ss : ∀ {b i e most t m m' d F fr o u v w g c o' u' v' w' g' c'}, CodeOk Tryz.prog loop (L b i e most 0 (cellsOf (pS K o u v w g c)) m false F) (.exit 0) (L b i e most t (cellsOf (pS K o' u' v' w' g' c')) m' d fr) → CallOk Tryz.prog run [pS K o u v w g c, .adr b 0, .agg [I i, U e], I most] m (.tup [K.arg z, I t, .bool false]) m' d F
theorem HasReg.keep {m m' : Mu} {mb lb len i : Nat} {c : Int} {R : Reg} (h : HasReg m mb lb len i c R) (k : ∀ b, b = mb ∨ b = lb ∨ b = R.rb ∨ b = R.wb → ∀ o, m' b o = m b o) : HasReg m' mb lb len i c R :=
  ⟨by rw [k _ (.inl rfl)]; exact h.l, by rw [k _ (.inl rfl)]; exact h.c, h.lt, by rw [k _ (.inr (.inl rfl))]; exact h.at_, by rw [k _ (.inr (.inr (.inl rfl)))]; exact h.ws, by rw [k _ (.inr (.inr (.inl rfl)))]; exact h.ep,
    fun o ho => by rw [k _ (.inr (.inr (.inr rfl)))]; exact h.w o ho, h.d1, h.d2, h.d3, h.d4, h.d5⟩
/-- A region's names are old, and not a program's own. -/
def Apart (own : Ows) (n mb lb rb wb : Nat) : Prop := ∀ b, b = mb ∨ b = lb ∨ b = rb ∨ b = wb → b < n ∧ ∀ x ∈ own, x.1 ≠ b
theorem Apart.next {own own' : Ows} {n n' mb lb rb wb : Nat} (h : Apart own n mb lb rb wb) (hn : n ≤ n') (hf : own.from_ n own' n') : Apart own' n' mb lb rb wb := fun b hb => by
  obtain ⟨h1, h2⟩ := h b hb
  refine ⟨by omega, fun x hx e => ?_⟩
  rcases hf x hx with ⟨y, hy, e'⟩ | h'
  · exact h2 y hy (e'.trans e)
  · omega
section
variable {R : Type} {K : Kn R} {z : R} {run step : FuncId} {L : Nat → Int → Int → Int → Int → List DV → Mu → Bool → List Nat → St} {loop body : Code} (W : RunW K z run step L loop body)
include W
theorem RunW.loopOk (rn : Nat) : ∀ (k : Nat) (t : LP R) (pv : DV) (own : Ows) (n : Nat), Den K t pv own → (∀ x ∈ own, x.1 < n) → ∀ (c : Nat) (most : Int), most ≤ 1000000000000 → most = ((c + k : Nat) : Int) → ∀ w : Nat → Int, (LP.run rn k t w).1.isCut = false →
    ∃ pv' own' n', n ≤ n' ∧ own.from_ n own' n' ∧ (∀ x ∈ own', x.1 < n') ∧ Den K (LP.run rn k t w).1 pv' own' ∧ ∀ (m : Mu) (mb lb len i : Nat) (cn : Int) (rb wb : Nat) (e : Int), own.at m → HasReg m mb lb len i cn ⟨rb, wb, rn, e, w⟩ → Apart own n mb lb rb wb → ∀ l, n' ≤ n + l →
      ∃ m', LoopOk Tryz.prog body (L mb i e most c (cellsOf pv) m false (nms n l)) (.exit 0) (L mb i e most ((c + (LP.run rn k t w).2.1 : Nat) : Int) (cellsOf pv') m' false (nms n' (n + l - n'))) ∧ own'.at m' ∧
        HasReg m' mb lb len i (cnts (LP.run rn k t w).2.1 cn) ⟨rb, wb, rn, e, (LP.run rn k t w).2.2⟩ ∧ ∀ b, b < n → (∀ x ∈ own, x.1 ≠ b) → b ≠ mb → b ≠ wb → ∀ o, m' b o = m b o := by
  intro k
  induction k with
  | zero =>
    intro t pv own n hd hn c most hm hc w hcut
    refine ⟨pv, own, n, Nat.le_refl _, .refl, hn, hd, fun m mb lb len i cn rb wb e ho hR ha l hl => ⟨m, ?_, ho, hR, fun _ _ _ _ _ _ => rfl⟩⟩
    have hlt : decide ((c : Int) < most) = false := decide_eq_false (by omega)
    rw [show n + l - n = l by omega]
    cases t with
    | cut => cases hcut
    | done r => cases (show pv = pO K r from hd); exact .last (by simp) (W.no_o hlt)
    | acc op a x y nx => obtain ⟨g, cs, rfl, _⟩ := hd; exact .last (by simp) (W.no_s hlt)
  | succ k ih =>
    intro t pv own n hd hn c most hm hc w hcut
    have hlt : decide ((c : Int) < most) = true := decide_eq_true (by omega)
    cases t with
    | cut => cases hcut
    | done r =>
      cases (show pv = pO K r from hd)
      refine ⟨_, own, n, Nat.le_refl _, .refl, hn, hd, fun m mb lb len i cn rb wb e ho hR ha l hl => ⟨m, ?_, ho, hR, fun _ _ _ _ _ _ => rfl⟩⟩
      rw [show n + l - n = l by omega]
      exact .last (by simp) (W.no_t hlt)
    | acc op a x y nx =>
      obtain ⟨g, cs, rfl, hnext⟩ := hd
      cases ha : accW rn w op a x y with
      | none =>
        simp only [LP.run, ha] at hcut ⊢
        refine ⟨pS K op a x y g cs, own, n, Nat.le_refl _, .refl, hn, ⟨g, cs, rfl, hnext⟩, fun m mb lb len i cn rb wb e ho hR hap l hl => ⟨m, ?_, ho, hR, fun _ _ _ _ _ _ => rfl⟩⟩
        have hs : CodeOk Tryz.prog body (L mb i e most c (cellsOf (pS K op a x y g cs)) m false (nms n l)) (.exit 0) (L mb i e most c (cellsOf (pS K op a x y g cs)) m false (nms n l)) := W.stop (fs := []) hlt (W.st_n (F := []) (doNone hR ha)) rfl
        rw [show n + l - n = l by omega]
        exact .last (by simp) hs
      | some vw =>
        obtain ⟨v, w1⟩ := vw
        simp only [LP.run, ha] at hcut ⊢
        obtain ⟨qv, own1, n1, h1, h2, h3, h4, h5⟩ := hnext v n hn
        obtain ⟨pv', own', n', i1, i2, i3, i4, i5⟩ := ih (nx v) qv own1 n1 h5 h3 (c + 1) most hm (by omega) w1 hcut
        refine ⟨pv', own', n', by omega, h2.trans i2 h1 i1, i3, i4, fun m mb lb len i cn rb wb e ho hR hap l hl => ?_⟩
        obtain ⟨m1, c41, hR1, far1⟩ := doSome hR ha
        have ho1 : own.at m1 := fun x hx => (ho x hx).far fun o => far1 x.1 (fun q => (hap wb (by simp)).2 x hx q) (fun q => (hap mb (by simp)).2 x hx q) o
        obtain ⟨m2, g1, g2, g3⟩ := h4 m1 ho1
        have hR2 := hR1.keep (m' := m2) fun b hb o => g3 b (hap b hb).1 (hap b hb).2 o
        obtain ⟨l', rfl⟩ : ∃ l', l = (n1 - n) + l' := ⟨l - (n1 - n), by omega⟩
        obtain ⟨m', lp, o', hR', far'⟩ := i5 m2 mb lb len i _ rb wb e g2 hR2 (hap.next h1 h2) l' (by omega)
        refine ⟨m', ?_, o', ?_, fun b hb hob hb1 hb2 o => ?_⟩
        · have ew : IntKind.i64.wrap ((c : Int) + 1) = ((c + 1 : Nat) : Int) := by rw [wrap64 (by omega) (by omega)]; omega
          have hal := all_nms (a := n) (k := n1 - n) (b := n) (l := n1 - n + l') (Nat.le_refl _) (by omega)
          have hof := off_nms n (n1 - n) l'
          rw [show n + (n1 - n) = n1 by omega] at hof
          rw [show n1 + l' - n' = n + (n1 - n + l') - n' by omega, show c + 1 + (LP.run rn k (nx v) w1).2.1 = c + ((LP.run rn k (nx v) w1).2.1 + 1) by omega] at lp
          refine .step (s1 := L mb i e most ((c + 1 : Nat) : Int) (cellsOf qv) m2 false (nms n1 l')) ?_ lp
          rw [← ew, ← hof]
          have self : ((nms n (n1 - n)).all fun a => (nms n (n1 - n)).contains a) = true := all_nms (Nat.le_refl _) (Nat.le_refl _)
          rcases h5.looks with ⟨r, rfl⟩ | ⟨op2, a2, x2, y2, g', c', rfl⟩
          · have hs : CodeOk Tryz.prog body (L mb i e most c (cellsOf (pS K op a x y g cs)) m false (nms n (n1 - n + l'))) .normal (L mb i e most (IntKind.i64.wrap ((c : Int) + 1)) (cellsOf (pO K r)) m2 false (offUse (nms n (n1 - n)) (nms n (n1 - n + l')))) := W.go_o hlt (W.st_o c41 g1.1 self) hal
            exact @hs
          · have hs : CodeOk Tryz.prog body (L mb i e most c (cellsOf (pS K op a x y g cs)) m false (nms n (n1 - n + l'))) .normal (L mb i e most (IntKind.i64.wrap ((c : Int) + 1)) (cellsOf (pS K op2 a2 x2 y2 g' c')) m2 false (offUse (nms n (n1 - n)) (nms n (n1 - n + l')))) := W.go_s hlt (W.st_s c41 g1.1 self) hal
            exact @hs
        · exact hR'
        · rw [far' b (by omega) (fun x hx q => by
            rcases h2 x hx with ⟨y, hy, e'⟩ | h'
            · exact hob y hy (e'.trans q)
            · omega) hb1 hb2 o, g3 b hb hob o, far1 b hb2 hb1 o]
/-- Run of a program that is a tree. -/
theorem RunW.runOk (rn : Nat) {t : LP R} {pv : DV} {own : Ows} {n : Nat} (hd : Den K t pv own) (hn : ∀ x ∈ own, x.1 < n) (k : Nat) (hk : k ≤ 1000000000) (w : Nat → Int) (hcut : (LP.run rn k t w).1.isCut = false) :
    ∃ n', n ≤ n' ∧ ∀ (m : Mu) (mb lb len i : Nat) (cn : Int) (rb wb : Nat) (e : Int), own.at m → HasReg m mb lb len i cn ⟨rb, wb, rn, e, w⟩ → Apart own n mb lb rb wb → ∀ l, n' ≤ n + l →
      ∃ m', CallOk Tryz.prog run [pv, .adr mb 0, .agg [I i, U e], I k] m (.tup [K.arg ((LP.run rn k t w).1.out z), I ((LP.run rn k t w).2.1 : Nat), .bool (LP.run rn k t w).1.isOver]) m' false (nms n l) ∧
        HasReg m' mb lb len i (cnts (LP.run rn k t w).2.1 cn) ⟨rb, wb, rn, e, (LP.run rn k t w).2.2⟩ ∧ ∀ b, b < n → (∀ x ∈ own, x.1 ≠ b) → b ≠ mb → b ≠ wb → ∀ o, m' b o = m b o := by
  obtain ⟨pv', own', n', i1, i2, i3, i4, i5⟩ := W.loopOk rn k t pv own n hd hn 0 (k : Int) (by omega) (by simp) w hcut
  refine ⟨n', i1, fun m mb lb len i cn rb wb e ho hR hap l hl => ?_⟩
  obtain ⟨m', lp, o', hR', far⟩ := i5 m mb lb len i cn rb wb e ho hR hap l hl
  refine ⟨m', ?_, hR', far⟩
  have code : CodeOk Tryz.prog loop (L mb i e k 0 (cellsOf pv) m false (nms n l)) (.exit 0) (L mb i e k (((LP.run rn k t w).2.1 : Nat) : Int) (cellsOf pv') m' false (nms n' (n + l - n'))) := by
    rw [W.isloop]
    rw [Nat.zero_add] at lp
    exact lp.code
  generalize LP.run rn k t w = q at hcut i4 code ⊢
  obtain ⟨t', s, w'⟩ := q
  simp only at hcut i4 code ⊢
  cases t' with
  | cut => cases hcut
  | done r' =>
    cases (show pv' = pO K r' from i4)
    rcases hd.looks with ⟨r, rfl⟩ | ⟨op, a, x, y, g, c, rfl⟩
    · exact W.r_oo code
    · exact W.r_so code
  | acc op2 a2 x2 y2 nx =>
    obtain ⟨g2, c2, rfl, _⟩ := i4
    rcases hd.looks with ⟨r, rfl⟩ | ⟨op, a, x, y, g, c, rfl⟩
    · exact W.r_os code
    · exact W.r_ss code
end
end Go.Proofs.YtehihnapbpcfbaaGreat.Fun
