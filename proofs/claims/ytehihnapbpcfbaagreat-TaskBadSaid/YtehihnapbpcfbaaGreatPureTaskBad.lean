/- TaskBad: bytes that are none's, and operations that aren't formed, come to ErrBadOp at once, and no others do. -/
import Derived.Test.YtehihnapbpcfbaaGreatDecW
import Derived.Test.YtehihnapbpcfbaaGreatDenT
import Derived.Test.YtehihnapbpcfbaaGreatFunLaw
namespace Go.Proofs.YtehihnapbpcfbaaGreat.Pure
open Go Go.Proofs.YtehihnapbpcfbaaGreat.Fun Go.RowKit
set_option linter.unusedVariables false
/-- What a program is at once. -/
def ov : LP Re → Re × Bool
  | .done r => (r, true)
  | _ => (⟨0, 0⟩, false)
/-- It isn't over with ErrBadOp. -/
def NB : LP Re → Prop
  | .done r => r.qE ≠ 2
  | .acc _ _ _ _ _ => True
  | .cut => False
theorem NB.ite {b : Bool} {t u : LP Re} (ht : b = true → NB t) (hu : b = false → NB u) : NB (cond b t u) := by
  cases b
  · exact hu rfl
  · exact ht rfl
theorem over_of {t : LP Re} (hc : t ≠ .cut) {f : FuncId} {args : List DV} (h : DenC kR t f args []) (m : Mu) (n : Nat) :
    ∃ cs m1 n1, Cm f args m n (.agg cs) m1 n1 ∧ Cm n_prog_Prog_api_Res_Over [.agg cs] m1 n1 (.tup [.agg (ov t).1.cs, .bool (ov t).2]) m1 n1 := by
  obtain ⟨qv, own', n', h1, h2, h3, h4, h5⟩ := h n (fun x hx => by cases hx)
  obtain ⟨m', c, _, _⟩ := h4 m (fun x hx => by cases hx)
  cases t with
  | cut => exact absurd rfl hc
  | done r => cases (show qv = pO kR r from h5); exact ⟨_, m', n', c, w_prog_Prog_api_Res_Over_1⟩
  | acc op a x y k => obtain ⟨g, cs, rfl, _⟩ := h5; exact ⟨_, m', n', c, w_prog_Prog_api_Res_Over_2⟩
abbrev seat : Se := ⟨⟨2, 1, 4, 1, 2, 1⟩, 0, 0⟩
def beginL (b : ByteArray) (n : Nat) : LP Re := cond ((ofB b).2 != 0) (.done ⟨2, 0⟩) (doL seat (ofB b).1 n)
theorem den_begin (b : ByteArray) (n : Nat) : DenC kR (beginL b n) n_task_Begin [.agg seat.cs, .str b] [] :=
  .ite (fun e => .done fun _ => w_task_Begin_2 e) fun e => (den_do seat _ n).pass fun _ => w_task_Begin_1 e
theorem opG_code {o : Ope} (h : opG o = true) : 1 ≤ o.qCode ∧ o.qCode ≤ 12 := by
  unfold opG at h
  by_cases h1 : o.qCode ≥ 1
  · by_cases h2 : o.qCode ≤ 12
    · exact ⟨h1, h2⟩
    · rw [decide_eq_true h1, decide_eq_false h2] at h; cases h
  · rw [decide_eq_false h1] at h; cases h
theorem noBad {o : Ope} (h : opG o = true) (n : Nat) : NB (doL seat o (n + 1)) := by
  have hc := opG_code h
  unfold doL
  rw [h]
  have use : ∀ d k p, NB (use1 seat d k p) := fun d k p => NB.ite (fun _ => (by decide : (6 : Int) ≠ 2)) fun _ => trivial
  have look : ∀ w f go, NB (lookL seat w f go) := fun w f go => NB.ite (fun _ => (by decide : (1 : Int) ≠ 2)) fun _ => NB.ite (fun _ => (by decide : (1 : Int) ≠ 2)) fun _ => NB.ite (fun _ => (by decide : (1 : Int) ≠ 2)) fun _ => NB.ite (fun _ => (by decide : (3 : Int) ≠ 2)) fun _ => trivial
  have claim : ∀ k d, NB (claimL seat k (n + 1) d) := fun k d => NB.ite (fun _ => (by decide : (8 : Int) ≠ 2)) fun _ => trivial
  refine NB.ite (fun e => by cases e) fun _ => ?_
  refine NB.ite (fun e1 => NB.ite (fun _ => (by decide : (1 : Int) ≠ 2)) fun _ => trivial) fun e1 => ?_
  refine NB.ite (fun e2 => NB.ite (fun _ => (by decide : (1 : Int) ≠ 2)) fun _ => NB.ite (fun _ => (by decide : (3 : Int) ≠ 2)) fun _ => trivial) fun e2 => ?_
  refine NB.ite (fun e3 => look _ _ _) fun e3 => NB.ite (fun e4 => look _ _ _) fun e4 => NB.ite (fun e5 => look _ _ _) fun e5 => NB.ite (fun e6 => claim _ _) fun e6 => NB.ite (fun e9 => claim _ _) fun e9 => ?_
  refine NB.ite (fun _ => use _ _ _) fun e7 => NB.ite (fun _ => use _ _ _) fun e8 => NB.ite (fun _ => use _ _ _) fun e10 => NB.ite (fun _ => use _ _ _) fun e11 => NB.ite (fun _ => use _ _ _) fun e12 => ?_
  simp only [beq_eq_false_iff_ne, ne_eq] at e1 e2 e3 e4 e5 e6 e7 e8 e9 e10 e11 e12
  omega
theorem NB.cut {t : LP Re} (h : NB t) : t ≠ .cut := fun e => by rw [e] at h; exact h
theorem NB.ov {t : LP Re} (h : NB t) : (((ov t).1.qE : Int) == 2) = false := by
  cases t with
  | done r => exact beq_eq_false_iff_ne.2 h
  | acc _ _ _ _ _ => rfl
  | cut => exact h.elim
theorem ok (b : ByteArray) (o : Ope) : ∃ m F, CallOk Tryz.prog n_cubiclelaw19_TaskBad [.str b, .agg o.cs] noMu (.bool true) m false F := by
  cases hl : decide ((((lenS b : Nat) : Int) : Int) > 60) with
  | true => exact ⟨_, _, (w_cubiclelaw19_TaskBad_21 (n := 0) hl).1⟩
  | false =>
    have hD : doL seat o 5 ≠ .cut := by
      cases h : opG o with
      | true => exact (noBad h 4).cut
      | false => unfold doL; rw [h]; exact fun e => by cases e
    have hB : beginL b 5 ≠ .cut := by
      unfold beginL
      rcases ofB_form b with e | ⟨o', e, h⟩
      · rw [e]; exact fun e => by cases e
      · rw [e]; exact (noBad h 4).cut
    obtain ⟨c1, m1, n1, q1, q2⟩ := over_of hB (den_begin b 5) noMu 0
    obtain ⟨c2, m2, n2, q3, q4⟩ := over_of hD (den_do seat o 5) m1 n1
    have hbad : ∀ {o : Ope}, opG o = false → doL seat o 5 = .done ⟨2, 0⟩ := fun h => by unfold doL; rw [h]; rfl
    rcases ofB_form b with e | ⟨o', e, h'⟩
    · have eb : ov (beginL b 5) = (⟨2, 0⟩, true) := by unfold beginL; rw [e]; rfl
      cases h : opR o with
      | true =>
        have nb := (noBad ((opGR o).trans h) 4).ov
        exact ⟨_, _, (w_cubiclelaw19_TaskBad_17 (r1 := ov (beginL b 5)) (r3 := ov (doL seat o 5)) hl q1 q2 q3 q4 (by rw [e]; rfl) (by rw [eb]; rfl) (by rw [eb]; rfl) (by rw [e]; rfl) h (by rw [nb]; rfl)).1⟩
      | false =>
        have ed : ov (doL seat o 5) = (⟨2, 0⟩, true) := by rw [hbad ((opGR o).trans h)]; rfl
        have q := (w_cubiclelaw19_TaskBad_15 (r1 := ov (beginL b 5)) (r3 := ov (doL seat o 5)) hl q1 q2 q3 q4 (by rw [e]; rfl) (by rw [eb]; rfl) (by rw [eb]; rfl) (by rw [e]; rfl) h (by rw [h]; rfl) (by rw [ed])).1
        rw [ed] at q
        exact ⟨_, _, q⟩
    · have nb1 : NB (beginL b 5) := by unfold beginL; rw [e]; exact noBad h' 4
      cases ho : (ov (beginL b 5)).2 with
      | false =>
        cases h : opR o with
        | true =>
          have nb := (noBad ((opGR o).trans h) 4).ov
          exact ⟨_, _, (w_cubiclelaw19_TaskBad_8 (r1 := ov (beginL b 5)) (r3 := ov (doL seat o 5)) hl q1 q2 q3 q4 (by rw [e]; rfl) (by rw [e]; rfl) ho h (by rw [nb]; rfl)).1⟩
        | false =>
          have ed : ov (doL seat o 5) = (⟨2, 0⟩, true) := by rw [hbad ((opGR o).trans h)]; rfl
          have q := (w_cubiclelaw19_TaskBad_6 (r1 := ov (beginL b 5)) (r3 := ov (doL seat o 5)) hl q1 q2 q3 q4 (by rw [e]; rfl) (by rw [e]; rfl) ho h (by rw [h]; rfl) (by rw [ed])).1
          rw [ed] at q
          exact ⟨_, _, q⟩
      | true =>
        cases h : opR o with
        | true =>
          have nb := (noBad ((opGR o).trans h) 4).ov
          exact ⟨_, _, (w_cubiclelaw19_TaskBad_12 (r1 := ov (beginL b 5)) (r3 := ov (doL seat o 5)) hl q1 q2 q3 q4 (by rw [e]; rfl) (by rw [e]; rfl) ho (by rw [nb1.ov]; rfl) h (by rw [nb]; rfl)).1⟩
        | false =>
          have ed : ov (doL seat o 5) = (⟨2, 0⟩, true) := by rw [hbad ((opGR o).trans h)]; rfl
          have q := (w_cubiclelaw19_TaskBad_10 (r1 := ov (beginL b 5)) (r3 := ov (doL seat o 5)) hl q1 q2 q3 q4 (by rw [e]; rfl) (by rw [e]; rfl) ho (by rw [nb1.ov]; rfl) h (by rw [h]; rfl) (by rw [ed])).1
          rw [ed] at q
          exact ⟨_, _, q⟩
theorem TaskBad (b : ByteArray) (c d f h x y : Int) (hc : (Lit.int .i64 c).wf = true) (hd : (Lit.int .i64 d).wf = true) (hf : (Lit.int .i64 f).wf = true) (hh : (Lit.int .u64 h).wf = true) (hx : (Lit.int .u64 x).wf = true) (hy : (Lit.int .u64 y).wf = true) (w : World) :
    Calls Tryz.prog 6 #[.string b, .agg #[.int .i64 c, .int .i64 d, .int .i64 f, .int .u64 h, .int .u64 x, .int .u64 y]] w fun e w' => e = .returned (.bool true) ∧ Below w.heap.size w w' := by
  obtain ⟨m, F, hm⟩ := ok b ⟨c, d, f, h, x, y⟩
  refine calls_of_ok hm (vs := [.string b, .agg #[.int .i64 c, .int .i64 d, .int .i64 f, .int .u64 h, .int .u64 x, .int .u64 y]]) (.cons (by simp only [Abs]) (.cons ?_ .nil))
  simp only [Abs]
  exact ⟨[.int .i64 c, .int .i64 d, .int .i64 f, .int .u64 h, .int .u64 x, .int .u64 y], rfl, by simp [AbsL, Abs]⟩
end Go.Proofs.YtehihnapbpcfbaaGreat.Pure
