/- TenantOthers: when a tenant is revoked, drained, and created, the others' capabilities stay good, their words as they were. -/
import Derived.Test.YtkhjkfbgcpjphaaRD35
import Derived.Test.YtkhjkfbgcpjphaaTE2
import Derived.Test.YtkhjkfbgcpjphaaFunLaw
namespace Go.Proofs.YtkhjkfbgcpjphaaW.PrintWords
end Go.Proofs.YtkhjkfbgcpjphaaW.PrintWords
namespace Go.Proofs.Ytkhjkfbgcpjphaa.Pure
open Go Go.RowKit Go.Proofs.Ytkhjkfbgcpjphaa.Fun Go.Proofs.Ytkhjkfbgcpjphaa.Fun.C Go.Proofs.Ytkhjkfbgcpjphaa.Fun.D
set_option linter.unusedVariables false
theorem ok (ps : List P6) (t : Int) (ht : 0 ≤ t ∧ t ≤ 255) (cr : Bool) : ∃ m F, CallOk Try.prog 7 [.slice (ps.flatMap P6.dv) ps.length, .int .u8 t, .bool cr] noMu (.bool true) m false F := by
  have aw := Fun.Auto.k9 noMu
  obtain ⟨v, hv, hvp⟩ := few10 ps noMu
  cases v with
  | false => exact ⟨_, [], f7_42 aw rfl hv rfl aw⟩
  | true =>
    obtain ⟨h6, hfew⟩ := hvp rfl
    by_cases h1 : 1 ≤ ps.length
    case neg => exact ⟨_, [], f7_41 aw rfl hv rfl (by rw [show ps.length = 0 by omega]; rfl) aw⟩
    have hz : ((((ps.length : Nat) : Int) : Int) == 0) = false := by rw [beq_eq_false_iff_ne]; omega
    by_cases h4 : ps.length ≤ 4
    case neg => exact ⟨_, [], f7_40 aw rfl hv rfl hz (decide_eq_true (by omega)) aw⟩
    have h4' : (decide ((((ps.length : Nat) : Int) : Int) > 4)) = false := decide_eq_false (by omega)
    obtain ⟨K, hK⟩ : ∃ K, ps.length = K := ⟨_, rfl⟩
    rcases new11 ps hfew h1 h6 noMu 0 with ⟨m1, c11, hh, regs, hok⟩ | ⟨m1, c11, _⟩
    case inr => exact ⟨m1, nms 0 (1 + (2 * ps.length + (1 + 3 * ps.length + 0))), f7_39 aw rfl hv rfl hz h4' c11 (all_self _) rfl⟩
    rw [hK] at c11 hh
    simp only [Nat.zero_add] at hh regs
    rw [hK] at regs
    obtain ⟨A, hA⟩ : ∃ A, 1 + (2 * K + (1 + 3 * K + 0)) = A := ⟨_, rfl⟩
    rw [hA] at c11
    -- which tenant
    have htw : IntKind.i64.wrap t = t := wrap64 (by omega) (by omega)
    obtain ⟨k, htk, hk⟩ : ∃ k : Nat, Int.tmod (IntKind.i64.wrap t) ((ps.length : Nat) : Int) = (k : Int) ∧ k < K := by
      refine ⟨(Int.tmod t K).toNat, ?_, ?_⟩
      · rw [htw, hK, Int.toNat_of_nonneg (Int.tmod_nonneg _ ht.1)]
      · have := Int.tmod_lt_of_pos t (b := (K : Int)) (by omega)
        have := Int.tmod_nonneg (K : Int) ht.1
        omega
    obtain ⟨pk, hpk⟩ : ∃ p, ps[k]? = some p := ⟨ps[k]'(by omega), List.getElem?_eq_getElem (by omega)⟩
    have hpok := hok pk (List.mem_of_getElem? hpk)
    have hszk : ((pk.sz.toNat : Nat) : Int) = pk.sz := by
      have hn := hpok.hn; have hnd := hpok.nd; have hct := hpok.ct; have hhz := hpok.hz
      show (((szP _ _ _ _ _).toNat : Nat) : Int) = szP _ _ _ _ _
      unfold szP; omega
    have reg : ∀ (m : Mu), Regs m (2 * K + 1) ps K → ∀ (i : Nat) (p : P6), ps[i]? = some p → ∃ w, HasReg m (2 * K + 1) (2 * K + 1 + 3 * K) ps.length i ⟨2 * K + 1 + 2 + 3 * i, 2 * K + 1 + 1 + 3 * i, p.sz.toNat, 1, w⟩ ∧ FreshE p.1 (ndP p.2.1 p.2.2.1 p.2.2.2.1 p.2.2.2.2.1) w := fun m hr i p hp => by
      obtain ⟨w, q1, q2, _⟩ := hr i p hp
      rw [hK] at q1 ⊢
      exact ⟨w, q1, q2 (by have := (List.getElem?_eq_some_iff.1 hp).1; omega)⟩
    have regs1 := reg m1 regs
    -- the capabilities
    obtain ⟨p0, hp0⟩ : ∃ p, ps[0]? = some p := ⟨ps[0]'(by omega), List.getElem?_eq_getElem (by omega)⟩
    obtain ⟨w00, hR00, _⟩ := regs1 0 p0 hp0
    obtain ⟨j, hj⟩ : ∃ j, K = j + 1 := ⟨K - 1, by omega⟩
    let mc := appMu m1 A 0 A [.int .i64 ((0 : Nat) : Int), .int .u64 1]
    have lowc : Low A m1 mc := fun c hc o => appMu_low (by omega) (by omega) o
    obtain ⟨P, hP⟩ : ∃ P, nPl pk.2.1 pk.2.2.2.1 pk.2.2.2.2.1 = P := ⟨_, rfl⟩
    obtain ⟨mcs, lpc, hcrow, lowcs⟩ := caps7 (hb := 0) (mb := 2 * K + 1) (lrow := 2 * K) (lb := 2 * K + 1 + 3 * K) ps h6 (ps.flatMap P6.dv) t cr A (by omega) (by omega) (by omega) (by omega) (fun i => 2 * K + 1 + 2 + 3 * i) (fun i => 2 * K + 1 + 1 + 3 * i) (fun i hi => by first | omega | (simp only; omega)) j 1 (Nat.le_refl _) (by omega) mc (hh.keep (lowc 0 (by omega)) (lowc (2 * K) (by omega))) (fun i p hp => by
        obtain ⟨w, hR, _⟩ := regs1 i p hp
        have hi := (List.getElem?_eq_some_iff.1 hp).1
        exact ⟨w, hR.low lowc (by omega) (by omega) (by simp only; omega) (by simp only; omega)⟩) (fun i hi => by
        obtain rfl : i = 0 := by omega
        have e : ∀ o, mc (A + 1 - 1) o = [DV.int .i64 ((0 : Nat) : Int), .int .u64 1][o]? := fun o => by
          show appMu _ _ _ _ _ _ _ = _
          rw [show A + 1 - 1 = A from rfl, appMu_at, if_neg (by omega)]; rfl
        rw [e, e]; exact ⟨rfl, rfl⟩)
    have first : ∀ G : List Nat, ([A].all fun n => G.contains n) = true → CodeOk Try.prog (codeAt [true, true, true, true, true, true, true, false, true, false, false] (Try.f7.body.getD .skip)) (L7_1 (ps.flatMap P6.dv) ps.length t cr 0 (2 * K + 1) .nils 0 m1 false G) .normal (L7_1 (ps.flatMap P6.dv) ps.length t cr 0 (2 * K + 1) (.vec A 0 1 2) (IntKind.i64.wrap (0 + 1)) mc false (offUse [A] G)) := fun G hG =>
      L7_1_4 (decide_eq_true (by omega)) (cap28 hh hp0 rfl hR00) hG
    have lp : ∀ R, CodeOk Try.prog (codeAt [true, true, true, true, true, true, true, false, true, false] (Try.f7.body.getD .skip)) (L7_1 (ps.flatMap P6.dv) ps.length t cr 0 (2 * K + 1) .nils 0 m1 false (nms A (K + R))) (.exit 0) (L7_1 (ps.flatMap P6.dv) ps.length t cr 0 (2 * K + 1) (.vec (A + ps.length - 1) 0 ps.length 2) (ps.length : Int) mcs false (nms (A + ps.length) R)) := fun R => by
      have s1 := namesStep (a := A) (j := 1) (r := j + R) (G := nms A (K + R)) (by congr 1; omega)
      rw [show nms A 1 = [A] from rfl] at s1
      have k1 : CodeOk Try.prog (codeAt [true, true, true, true, true, true, true, false, true, false, false] (Try.f7.body.getD .skip)) (L7_1 (ps.flatMap P6.dv) ps.length t cr 0 (2 * K + 1) .nils 0 m1 false (nms A (K + R))) .normal (L7_1 (ps.flatMap P6.dv) ps.length t cr 0 (2 * K + 1) (.vec A 0 1 2) (IntKind.i64.wrap (0 + 1)) mc false (offUse [A] (nms A (K + R)))) := first _ s1.1
      rw [s1.2] at k1
      have q : LoopOk Try.prog (codeAt [true, true, true, true, true, true, true, false, true, false, false] (Try.f7.body.getD .skip)) (L7_1 (ps.flatMap P6.dv) ps.length t cr 0 (2 * K + 1) .nils 0 m1 false (nms A (K + R))) (.exit 0) (L7_1 (ps.flatMap P6.dv) ps.length t cr 0 (2 * K + 1) (.vec (A + ps.length - 1) 0 ps.length 2) (ps.length : Int) mcs false (nms (A + ps.length) R)) := LoopOk.step @k1 (lpc R)
      rw [L7_1_loop]
      intro w0 S0 D0 ρ0 F0 Q ι ρ S w a
      exact q.code
    rw [hK] at hcrow
    have low1 : Low A m1 mcs := lowc.trans lowcs
    have hhc := hh.keep (low1 0 (by omega)) (low1 (2 * K) (by omega))
    have regsc : ∀ (i : Nat) (p : P6), ps[i]? = some p → ∃ w, HasReg mcs (2 * K + 1) (2 * K + 1 + 3 * K) ps.length i ⟨2 * K + 1 + 2 + 3 * i, 2 * K + 1 + 1 + 3 * i, p.sz.toNat, 1, w⟩ ∧ FreshE p.1 (ndP p.2.1 p.2.2.1 p.2.2.2.1 p.2.2.2.2.1) w := fun i p hp => by
      obtain ⟨w, hR, hf⟩ := regs1 i p hp
      have hi := (List.getElem?_eq_some_iff.1 hp).1
      exact ⟨w, hR.low low1 (by omega) (by omega) (by simp only; omega) (by simp only; omega), hf⟩
    obtain ⟨wk, hRk, hfk⟩ := regsc k pk hpk
    obtain ⟨at_, cp, m3, m4, x, r17, k17, c29, hR3, c17, ⟨wk', hR4⟩, _, hh4, keep4, c4, l4⟩ := revoke29 hhc (by omega) hpk rfl hpok _ _ _ _ _ hRk hszk hfk.all.wd (A + K) (by omega) (by omega) (by omega) (by omega) (by omega) (by omega) (by omega) (by omega) (by omega) (by omega) (by omega) (by omega)
    rw [hP] at c29 c17
    have e2 : IntKind.u64.wrap (1 + 1) = 2 := by decide
    rw [e2] at hR3 c17 hR4
    have regs4 : ∀ (i : Nat) (p : P6), ps[i]? = some p → i ≠ k → ∃ w, HasReg m4 (2 * K + 1) (2 * K + 1 + 3 * K) ps.length i ⟨2 * K + 1 + 2 + 3 * i, 2 * K + 1 + 1 + 3 * i, p.sz.toNat, 1, w⟩ ∧ FreshE p.1 (ndP p.2.1 p.2.2.1 p.2.2.2.1 p.2.2.2.2.1) w := fun i p hp hik => by
      obtain ⟨w, hR, hf⟩ := regsc i p hp
      have hi := (List.getElem?_eq_some_iff.1 hp).1
      exact ⟨w, hR.keepM l4 c4 (keep4 _ (by omega) (by omega) (by omega) (by omega) (by omega)) (keep4 _ (by simp only; omega) (by simp only; omega) (by simp only; omega) (by simp only; omega) (by simp only; omega)) (keep4 _ (by simp only; omega) (by simp only; omega) (by simp only; omega) (by simp only; omega) (by simp only; omega)), hf⟩
    have hc4 : CapRow m4 (A + K - 1) K := fun i hi => by
      rw [keep4 (A + K - 1) (by omega) (by omega) (by omega) (by omega) (by omega), keep4 (A + K - 1) (by omega) (by omega) (by omega) (by omega) (by omega)]
      exact hcrow i hi
    -- created anew, or not
    obtain ⟨m5, lv, hh5, hlv, hlk, hR5, regs5, hc5, c30⟩ : ∃ m5 lv, HouseF m5 0 (2 * K + 1) (2 * K) ps lv ∧ (∀ i, i ≠ k → lv i = true) ∧ lv k = cr ∧ HasReg m5 (2 * K + 1) (2 * K + 1 + 3 * K) ps.length k ⟨2 * K + 1 + 2 + 3 * k, 2 * K + 1 + 1 + 3 * k, pk.sz.toNat, 2, wk'⟩ ∧
        (∀ (i : Nat) (p : P6), ps[i]? = some p → i ≠ k → ∃ w, HasReg m5 (2 * K + 1) (2 * K + 1 + 3 * K) ps.length i ⟨2 * K + 1 + 2 + 3 * i, 2 * K + 1 + 1 + 3 * i, p.sz.toNat, 1, w⟩ ∧ FreshE p.1 (ndP p.2.1 p.2.2.1 p.2.2.2.1 p.2.2.2.2.1) w) ∧ CapRow m5 (A + K - 1) K ∧
        ((cr = false ∧ m5 = m4) ∨ (cr = true ∧ CallOk Try.prog 30 [.adr 0 0, .int .i64 (k : Int)] m4 (.int .i64 0) m5 false [])) := by
      cases cr with
      | false => exact ⟨m4, _, hh4, fun i hi => by simp only [setLv, if_neg hi], by simp only [setLv, if_true], hR4, regs4, hc4, .inl ⟨rfl, rfl⟩⟩
      | true =>
        have far : ∀ c, c ≠ 2 * K → ∀ o, (updMu m4 (2 * K) (k * 7 + 6) [.bool true]) c o = m4 c o := fun c hc o => by rw [updMu_get, if_neg (fun q => hc q.1)]
        refine ⟨updMu m4 (2 * K) (k * 7 + 6) [.bool true], _, hh4.set (by omega) k true, fun i hi => by simp only [setLv, if_neg hi], by simp only [setLv, if_true], hR4.keep (far _ (by omega)) (far _ (by omega)) (far _ (by simp only; omega)) (far _ (by simp only; omega)), fun i p hp hik => ?_, fun i hi => by rw [far _ (by omega), far _ (by omega)]; exact hc4 i hi, .inr ⟨rfl, create30 hh4 hpk (by simp only [setLv, if_true])⟩⟩
        obtain ⟨w, hR, hf⟩ := regs4 i p hp hik
        exact ⟨w, hR.keep (far _ (by omega)) (far _ (by omega)) (far _ (by simp only; omega)) (far _ (by simp only; omega)), hf⟩
    -- the names
    subst hK
    obtain ⟨F, hF⟩ : ∃ F, F = nms 0 (A + (ps.length + (P + (x + 40 * ps.length)))) := ⟨_, rfl⟩
    have g1 := namesStep hF
    rw [Nat.zero_add] at g1
    have lpF : CodeOk Try.prog (codeAt [true, true, true, true, true, true, true, false, true, false] (Try.f7.body.getD .skip)) (L7_1 (ps.flatMap P6.dv) ps.length t cr 0 (2 * ps.length + 1) .nils 0 m1 false (offUse (nms 0 A) F)) (.exit 0) (L7_1 (ps.flatMap P6.dv) ps.length t cr 0 (2 * ps.length + 1) (.vec (A + ps.length - 1) 0 ps.length 2) (ps.length : Int) mcs false (nms (A + ps.length) (P + (x + 40 * ps.length)))) := by
      rw [g1.2]
      intro w0 S0 D0 ρ0 F0 Q ι ρ S w a
      exact lp (P + (x + 40 * ps.length))
    have g2 := namesStep (a := A + ps.length) (j := P) (r := x + 40 * ps.length) (G := nms (A + ps.length) (P + (x + 40 * ps.length))) rfl
    have g3 := namesStep (j := x) (r := 40 * ps.length) g2.2
    have hcK : CapRow m5 (A + ps.length - 1) ps.length := hc5
    obtain ⟨m6, fr6, lq, low6⟩ := others7 (hb := 0) (mb := 2 * ps.length + 1) (lrow := 2 * ps.length) (lb := 2 * ps.length + 1 + 3 * ps.length) (row := A + ps.length - 1) ps h6 hok t k htk cr (A + ps.length + P + x) (by omega) (by omega) (by omega) (by omega) (by omega) (fun i => 2 * ps.length + 1 + 2 + 3 * i) (fun i => 2 * ps.length + 1 + 1 + 3 * i) (fun i hi => by first | omega | (simp only; omega)) hlv m5 hh5 regs5 hcK 97 cp 1 at_ 0 0 0 ps.length 0 (by omega) m5 (A + ps.length + P + x) (40 * ps.length) (.refl _ _) (Nat.le_refl _) (by omega)
    have lqc : CodeOk Try.prog (codeAt [true, true, true, true, true, true, true, true, true, true, true, false, true, false] (Try.f7.body.getD .skip)) (L7_2 (ps.flatMap P6.dv) ps.length t cr 0 (2 * ps.length + 1) (A + ps.length - 1) ps.length 97 cp 1 at_ 0 0 0 false 0 m5 false (offUse (nms (A + ps.length + P) x) (offUse (nms (A + ps.length) P) (nms (A + ps.length) (P + (x + 40 * ps.length)))))) (.exit 2) (L7_2 (ps.flatMap P6.dv) ps.length t cr 0 (2 * ps.length + 1) (A + ps.length - 1) ps.length 97 cp 1 at_ 0 0 0 false (ps.length : Int) m6 false fr6) := by
      rw [g3.2, L7_2_loop]
      intro w0 S0 D0 ρ0 F0 Q ι ρ S w a
      exact lq.code
    have hh6 := hh5.keep (low6 0 (by omega)) (low6 (2 * ps.length) (by omega))
    have hR6 := hR5.low low6 (by omega) (by omega) (by simp only; omega) (by simp only; omega)
    have hc6 : ∀ o, m6 (A + ps.length - 1) o = m5 (A + ps.length - 1) o := low6 _ (by omega)
    have c32 := live32 hh6 hpk
    rw [hlk] at c32
    have g31 := goodOk hR6 1
    have k0 := (hc5 k hk).1; have k1 := (hc5 k hk).2
    have zero : ∃ e : Int, (e = 1 ∨ e = 2) ∧ CallOk Try.prog 31 [.adr (2 * ps.length + 1) 0, .agg [.int .i64 0, .int .u64 0]] m6 (.bool (e == 0)) m6 false [] := by
      by_cases hk0 : k = 0
      · subst hk0
        exact ⟨2, .inr rfl, goodOk hR6 0⟩
      · obtain ⟨w, hR, _⟩ := regs5 0 p0 hp0 (fun h => hk0 h.symm)
        exact ⟨1, .inl rfl, goodOk (hR.low low6 (by omega) (by omega) (by simp only; omega) (by simp only; omega)) 0⟩
    refine ⟨m6, F, ?_⟩
    rcases c30 with ⟨rfl, rfl⟩ | ⟨rfl, c30⟩
    · obtain ⟨e, he, gz⟩ := zero
      have ez : (e == 0) = false := by rcases he with rfl | rfl <;> rfl
      rw [ez] at gz
      have := f7_4 (a1 := t) (z1_t11b := A + ps.length - 1) (z1_t11n := ps.length) (v10_0 := (k : Int)) (v10_1 := 1) (r41 := 0) aw rfl hv rfl hz h4' c11 g1.1 rfl (decide_eq_true (by omega)) (memory27 hh) lpF (by rw [htk]; exact c29) g2.1 (by rw [htk]; exact capOk hR3) c17 g3.1 rfl lqc rfl (by rw [htk]; exact c32) rfl (by rw [htk]; exact cap28n hh6 hpk hlk) gz rfl
        (by rw [htk]; exact decide_eq_true (by omega)) (by rw [htk, Int.toNat_natCast, Nat.zero_add, hc6]; exact k0) (by rw [htk, Int.toNat_natCast, Nat.zero_add, hc6]; exact k1) g31
      exact this
    · have gk := goodOk hR6 2
      have := f7_9 (a1 := t) (z1_t11b := A + ps.length - 1) (z1_t11n := ps.length) (v11_0 := (k : Int)) (v11_1 := 1) (r41 := 0) aw rfl hv rfl hz h4' c11 g1.1 rfl (decide_eq_true (by omega)) (memory27 hh) lpF (by rw [htk]; exact c29) g2.1 (by rw [htk]; exact capOk hR3) c17 g3.1 rfl (by rw [htk]; exact c30) lqc rfl (by rw [htk]; exact c32) rfl (by rw [htk]; exact cap28 hh6 hpk hlk hR6) gk rfl
        (by rw [htk]; exact decide_eq_true (by omega)) (by rw [htk, Int.toNat_natCast, Nat.zero_add, hc6]; exact k0) (by rw [htk, Int.toNat_natCast, Nat.zero_add, hc6]; exact k1) g31
      exact this
theorem TenantOthers (w : World) (A : Option Addr) (cap : Nat) (l : List P6) (t : Int) (cr : Bool) (hA : Abs (fun _ => none) (fun b => b < w.heap.size) w (.slice (l.flatMap P6.dv) l.length) (.slice A l.length cap)) (hm : l.length ≤ maxLen)
    (hQ : ∀ a ∈ l, (Lit.int .i64 a.1).wf = true ∧ (Lit.int .i64 a.2.1).wf = true ∧ (Lit.int .i64 a.2.2.1).wf = true ∧ (Lit.int .i64 a.2.2.2.1).wf = true ∧ (Lit.int .i64 a.2.2.2.2.1).wf = true ∧ (Lit.int .i64 a.2.2.2.2.2).wf = true) (ht : (Lit.int .u8 t).wf = true) :
    Calls Try.prog 7 #[.slice A l.length cap, .int .u8 t, .bool cr] w fun e w' => e = .returned (.bool true) ∧ Below w.heap.size w w' := by
  obtain ⟨m, F, hm⟩ := ok l t (by simp [Lit.wf, IntKind.min, IntKind.max, IntKind.signed, IntKind.bits] at ht; omega) cr
  exact calls_of_ok hm (vs := [.slice A l.length cap, .int .u8 t, .bool cr]) (.cons hA (.cons (by simp only [Abs]) (.cons (by simp only [Abs]) .nil)))
end Go.Proofs.Ytkhjkfbgcpjphaa.Pure
