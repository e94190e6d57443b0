/- DecodeApart, plainly: two formed operations have the same bytes just if they are one. -/
import Derived.Test.YtbmecfpdemoooaaDDecodeApart
import Derived.Laws.Strings
namespace Go.Proofs.Ytbmecfpdemoooaa.Pure
open Go Go.RowKit Go.Proofs.Ytbmecfpdemoooaa.PDecodeApart Go.Proofs.YtbmecfpdemoooaaW.PrintWords Go.Proofs.Ytbmecfpdemoooaa.DDecodeApart Go.Proofs.Ytbmecfpdemoooaa.FB
set_option linter.unusedVariables false
theorem nums_inj : ∀ (l m : List Int), (∀ x ∈ l, 0 ≤ x ∧ x < 256) → (∀ x ∈ m, 0 ≤ x ∧ x < 256) → (l.map fun n => UInt8.ofNat n.toNat) = (m.map fun n => UInt8.ofNat n.toNat) → l = m
  | [], [], _, _, _ => rfl
  | [], _ :: _, _, _, h => by simp at h
  | _ :: _, [], _, _, h => by simp at h
  | x :: l, y :: m, hl, hm, h => by
    simp only [List.map_cons, List.cons.injEq] at h
    have hx := hl x (by simp)
    have hy := hm y (by simp)
    have e : x = y := by
      have := congrArg UInt8.toNat h.1
      simp at this
      omega
    rw [e, nums_inj l m (fun z hz => hl z (by simp [hz])) (fun z hz => hm z (by simp [hz])) h.2]
theorem eight_range (x : Int) : ∀ y ∈ Giv3.eightB x, 0 ≤ y ∧ y < 256 := by
  intro y hy
  simp [Giv3.eightB] at hy
  omega
theorem eight_inj {x y : Int} (hx : 0 ≤ x ∧ x < 18446744073709551616) (hy : 0 ≤ y ∧ y < 18446744073709551616) (h : Giv3.eightB x = Giv3.eightB y) : x = y := by
  simp only [Giv3.eightB, List.cons.injEq, and_true] at h
  omega
theorem eight_len (x : Int) : (Giv3.eightB x).length = 8 := rfl
theorem put_range (l : List Int) (x : Int) (is : Bool) (h : ∀ y ∈ l, 0 ≤ y ∧ y < 256) : ∀ y ∈ Giv3.put8 l x is, 0 ≤ y ∧ y < 256 := by
  intro y hy
  unfold Giv3.put8 at hy
  split at hy
  · rcases List.mem_append.1 hy with h1 | h1
    · exact h y h1
    · exact eight_range x y h1
  · exact h y hy
theorem byt_range (c d f h a b : Int) (xh xd xf xa xb : Bool) : ∀ y ∈ Giv3.byt c d f h a b xh xd xf xa xb, 0 ≤ y ∧ y < 256 := by
  unfold Giv3.byt
  refine put_range _ _ _ (put_range _ _ _ ?_)
  unfold Giv3.mid
  intro y hy
  rcases List.mem_append.1 hy with h1 | h1
  · rcases List.mem_append.1 h1 with h2 | h2
    · exact put_range _ _ _ (by simp; omega) y h2
    · split at h2
      · simp at h2; omega
      · simp at h2
  · split at h1
    · simp at h1; omega
    · simp at h1
theorem byt_head (c d f h a b : Int) (xh xd xf xa xb : Bool) : ∃ t, Giv3.byt c d f h a b xh xd xf xa xb = (c % 256) :: t := by
  unfold Giv3.byt Giv3.mid Giv3.put8
  cases xh <;> cases xd <;> cases xf <;> cases xa <;> cases xb <;> exact ⟨_, rfl⟩
theorem byt_inj (c d f h a b d' f' h' a' b' : Int) (hF : Giv.OpF c d f h a b) (hG : Giv.OpF c d' f' h' a' b')
    (r : (0 ≤ h ∧ h < 18446744073709551616) ∧ (0 ≤ a ∧ a < 18446744073709551616) ∧ (0 ≤ b ∧ b < 18446744073709551616)) (r' : (0 ≤ h' ∧ h' < 18446744073709551616) ∧ (0 ≤ a' ∧ a' < 18446744073709551616) ∧ (0 ≤ b' ∧ b' < 18446744073709551616))
    (e : Giv3.byt c d f h a b (Giv.askh c) (Giv.askd c) (Giv.askf c) (Giv.aska c) (Giv.askb c) = Giv3.byt c d' f' h' a' b' (Giv.askh c) (Giv.askd c) (Giv.askf c) (Giv.aska c) (Giv.askb c)) :
    d = d' ∧ f = f' ∧ h = h' ∧ a = a' ∧ b = b' := by
  obtain ⟨⟨h1, h2, d0, d1, f0, f1⟩, gh, gd, gf, ga, gb⟩ := hF
  obtain ⟨⟨_, _, d0', d1', f0', f1'⟩, gh', gd', gf', ga', gb'⟩ := hG
  obtain ⟨rh, ra, rb⟩ := r
  obtain ⟨rh', ra', rb'⟩ := r'
  unfold Giv3.byt Giv3.mid Giv3.put8 at e
  generalize Giv.askh c = xh at *
  generalize Giv.askd c = xd at *
  generalize Giv.askf c = xf at *
  generalize Giv.aska c = xa at *
  generalize Giv.askb c = xb at *
  have key : ∀ {l m : List Int} {x y : Int}, l.length = m.length → l ++ Giv3.eightB x = m ++ Giv3.eightB y → l = m ∧ Giv3.eightB x = Giv3.eightB y := fun hl he => List.append_inj he hl
  have lb : b = b' ∧ ((((if xa = true then ((if xh = true then [c % 256] ++ Giv3.eightB h else [c % 256]) ++ if xd = true then [d % 256] else []) ++ (if xf = true then [f % 256] else []) ++ Giv3.eightB a else ((if xh = true then [c % 256] ++ Giv3.eightB h else [c % 256]) ++ if xd = true then [d % 256] else []) ++ if xf = true then [f % 256] else []))) =
      (((if xa = true then ((if xh = true then [c % 256] ++ Giv3.eightB h' else [c % 256]) ++ if xd = true then [d' % 256] else []) ++ (if xf = true then [f' % 256] else []) ++ Giv3.eightB a' else ((if xh = true then [c % 256] ++ Giv3.eightB h' else [c % 256]) ++ if xd = true then [d' % 256] else []) ++ if xf = true then [f' % 256] else [])))) := by
    cases xb
    · simp at gb gb'
      exact ⟨by rw [gb, gb'], by simpa using e⟩
    · simp only [if_true] at e
      obtain ⟨e1, e2⟩ := key (by cases xa <;> cases xh <;> cases xd <;> cases xf <;> simp [eight_len]) e
      exact ⟨eight_inj rb rb' e2, e1⟩
  obtain ⟨eb, e⟩ := lb
  have la : a = a' ∧ (((if xh = true then [c % 256] ++ Giv3.eightB h else [c % 256]) ++ if xd = true then [d % 256] else []) ++ if xf = true then [f % 256] else []) = (((if xh = true then [c % 256] ++ Giv3.eightB h' else [c % 256]) ++ if xd = true then [d' % 256] else []) ++ if xf = true then [f' % 256] else []) := by
    cases xa
    · simp at ga ga'
      exact ⟨by rw [ga, ga'], by simpa using e⟩
    · simp only [if_true] at e
      obtain ⟨e1, e2⟩ := key (by cases xh <;> cases xd <;> cases xf <;> simp [eight_len]) e
      exact ⟨eight_inj ra ra' e2, e1⟩
  obtain ⟨ea, e⟩ := la
  have lf : f = f' ∧ ((if xh = true then [c % 256] ++ Giv3.eightB h else [c % 256]) ++ if xd = true then [d % 256] else []) = ((if xh = true then [c % 256] ++ Giv3.eightB h' else [c % 256]) ++ if xd = true then [d' % 256] else []) := by
    cases xf
    · simp at gf gf'
      exact ⟨by rw [gf, gf'], by simpa using e⟩
    · simp only [if_true] at e
      obtain ⟨e1, e2⟩ := List.append_inj e (by cases xh <;> cases xd <;> simp [eight_len])
      simp at e2
      exact ⟨by omega, e1⟩
  obtain ⟨ef, e⟩ := lf
  have ld : d = d' ∧ (if xh = true then [c % 256] ++ Giv3.eightB h else [c % 256]) = (if xh = true then [c % 256] ++ Giv3.eightB h' else [c % 256]) := by
    cases xd
    · simp at gd gd'
      exact ⟨by rw [gd, gd'], by simpa using e⟩
    · simp only [if_true] at e
      obtain ⟨e1, e2⟩ := List.append_inj e (by cases xh <;> simp [eight_len])
      simp at e2
      exact ⟨by omega, e1⟩
  obtain ⟨ed, e⟩ := ld
  refine ⟨ed, ef, ?_, ea, eb⟩
  cases xh
  · simp at gh gh'
    rw [gh, gh']
  · simp only [if_true] at e
    exact eight_inj rh rh' (List.append_inj e rfl).2
theorem DecodeApart (c d f h a b c' d' f' h' a' b' : Int) (w0 : (Lit.int .i64 c).wf = true) (w1 : (Lit.int .i64 d).wf = true) (w2 : (Lit.int .i64 f).wf = true) (w3 : (Lit.int .u64 h).wf = true) (w4 : (Lit.int .u64 a).wf = true) (w5 : (Lit.int .u64 b).wf = true)
    (w0' : (Lit.int .i64 c').wf = true) (w1' : (Lit.int .i64 d').wf = true) (w2' : (Lit.int .i64 f').wf = true) (w3' : (Lit.int .u64 h').wf = true) (w4' : (Lit.int .u64 a').wf = true) (w5' : (Lit.int .u64 b').wf = true) :
    ∃ k, cubiclelaw18_DecodeApart.f k c d f h a b c' d' f' h' a' b' = some true := by
  apply Ev.rounds (g := fun k => cubiclelaw18_DecodeApart.f k c d f h a b c' d' f' h' a' b')
  unfold cubiclelaw18_DecodeApart.f
  rw [awake_eq]
  have yes : Ev (fun k => cubiclelaw18_DecodeApart.j0 k true c d f h a b c' d' f' h' a' b') true := by
    refine Ev.step (f := fun _ => some true) (fun k => ?_) (Ev.now _)
    simp only [cubiclelaw18_DecodeApart.j0]
    rw [if_pos True.intro, awake_eq, Option.bind_some]
  refine Ev.congr (fun k => by rw [Option.bind_some, if_pos rfl]) ?_
  refine Ev.bind (rformed_eq c d f h a b) ?_
  by_cases hF : Giv.OpF c d f h a b
  · rw [decide_eq_true hF]
    refine Ev.congr (fun k => if_pos rfl) ?_
    refine Ev.bind (rformed_eq c' d' f' h' a' b') ?_
    by_cases hG : Giv.OpF c' d' f' h' a' b'
    · rw [decide_eq_true hG]
      refine Ev.step (f := fun _ => some true) (fun k => ?_) (Ev.now _)
      simp only [cubiclelaw18_DecodeApart.j0]
      have e1 : decode_Bytes.f c d f h a b = some (strOfNums (Giv3.byt c d f h a b (Giv.askh c) (Giv.askd c) (Giv.askf c) (Giv.aska c) (Giv.askb c))) := by unfold decode_Bytes.f; rw [if_pos hF]
      have e2 : decode_Bytes.f c' d' f' h' a' b' = some (strOfNums (Giv3.byt c' d' f' h' a' b' (Giv.askh c') (Giv.askd c') (Giv.askf c') (Giv.aska c') (Giv.askb c'))) := by unfold decode_Bytes.f; rw [if_pos hG]
      obtain ⟨t, ht⟩ := byt_head c d f h a b (Giv.askh c) (Giv.askd c) (Giv.askf c) (Giv.aska c) (Giv.askb c)
      obtain ⟨t', ht'⟩ := byt_head c' d' f' h' a' b' (Giv.askh c') (Giv.askd c') (Giv.askf c') (Giv.aska c') (Giv.askb c')
      have hc := hF.1
      have hc' := hG.1
      have eq : ((strOfNums (Giv3.byt c d f h a b (Giv.askh c) (Giv.askd c) (Giv.askf c) (Giv.aska c) (Giv.askb c))).toList == (strOfNums (Giv3.byt c' d' f' h' a' b' (Giv.askh c') (Giv.askd c') (Giv.askf c') (Giv.aska c') (Giv.askb c'))).toList) =
          (c == c' && (d == d' && (f == f' && (h == h' && (a == a' && (b == b')))))) := by
        rw [Bool.eq_iff_iff]
        simp only [beq_iff_eq, Bool.and_eq_true, ByteArray.toList_eq]
        constructor
        · intro e
          have el := nums_inj _ _ (byt_range _ _ _ _ _ _ _ _ _ _ _) (byt_range _ _ _ _ _ _ _ _ _ _ _) e
          have ec : c = c' := by
            rw [ht, ht'] at el
            simp at el
            omega
          subst ec
          obtain ⟨q1, q2, q3, q4, q5⟩ := byt_inj c d f h a b d' f' h' a' b' hF hG ⟨wf_u64 w3, wf_u64 w4, wf_u64 w5⟩ ⟨wf_u64 w3', wf_u64 w4', wf_u64 w5'⟩ el
          exact ⟨rfl, q1, q2, q3, q4, q5⟩
        · rintro ⟨rfl, rfl, rfl, rfl, rfl, rfl⟩
          rfl
      have hsz : ((strOfNums (Giv3.byt c d f h a b (Giv.askh c) (Giv.askd c) (Giv.askf c) (Giv.aska c) (Giv.askb c))).size : Int) > 0 := by rw [size_nums, ht]; simp
      have h0 : wrap64 (bt (strOfNums (Giv3.byt c d f h a b (Giv.askh c) (Giv.askd c) (Giv.askf c) (Giv.aska c) (Giv.askb c))) 0) = c := by
        rw [ht]
        have : bt (strOfNums (c % 256 :: t)) 0 = c := by
          unfold bt
          rw [dif_pos (by rw [size_nums]; simp)]
          simp [strOfNums]
          have : c % 256 = c := by omega
          rw [this]
          show ((UInt8.ofNat c.toNat).toNat : Int) = c
          simp
          omega
        rw [this]
        exact wrap_in (by omega)
      rw [if_neg (by simp), e1, Option.bind_some, e2, Option.bind_some, if_pos hsz, eq, if_pos (beq_self_eq_true _), if_pos (by omega), h0, beq_self_eq_true]
    · rw [decide_eq_false hG]
      exact yes
  · rw [decide_eq_false hF]
    exact Ev.congr (fun k => if_neg (by simp)) yes
end Go.Proofs.Ytbmecfpdemoooaa.Pure
