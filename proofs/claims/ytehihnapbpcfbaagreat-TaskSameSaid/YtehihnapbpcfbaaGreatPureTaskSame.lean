/- TaskSame: an operation, and its bytes, are one program: on two memories they take as many steps, and come to the same. -/
import Derived.Test.YtehihnapbpcfbaaGreatDecW
import Derived.Test.YtehihnapbpcfbaaGreatDecK
import Derived.Test.YtehihnapbpcfbaaGreatDenT
import Derived.Test.YtehihnapbpcfbaaGreatLaidS
import Derived.Test.YtehihnapbpcfbaaGreatFunLaw
namespace Go.Proofs.YtehihnapbpcfbaaGreat.Pure
open Go Go.Proofs.YtehihnapbpcfbaaGreat.Fun Go.RowKit
set_option linter.unusedVariables false
def beginS (s : Se) (b : ByteArray) (n : Nat) : LP Re := cond ((ofB b).2 != 0) (.done ⟨2, 0⟩) (doL s (ofB b).1 n)
theorem den_beginS (s : Se) (b : ByteArray) (n : Nat) : DenC kR (beginS s b n) n_task_Begin [.agg s.cs, .str b] [] :=
  .ite (fun e => .done fun _ => w_task_Begin_2 e) fun e => (den_do s _ n).pass fun _ => w_task_Begin_1 e
structure Wo (o : Ope) : Prop where
  h : 0 ≤ o.qH ∧ o.qH < 18446744073709551616
  a : 0 ≤ o.qA ∧ o.qA < 18446744073709551616
  b : 0 ≤ o.qB ∧ o.qB < 18446744073709551616
theorem same_tree (s : Se) {o : Ope} (q : Wo o) (n : Nat) : beginS s (bytesR o) n = doL s o n := by
  unfold beginS
  cases h : opR o with
  | true => rw [back o h q.h q.a q.b]; rfl
  | false =>
    rw [back_no o h]
    have : opG o = false := (opGR o).trans h
    unfold doL
    rw [this]; rfl
abbrev O6 := Int × Int × Int × Int × Int × Int
abbrev O6.ope (a : O6) : Ope := ⟨a.1, a.2.1, a.2.2.1, a.2.2.2.1, a.2.2.2.2.1, a.2.2.2.2.2⟩
abbrev O6.dv (a : O6) : List DV := [.int .i64 a.1, .int .i64 a.2.1, .int .i64 a.2.2.1, .int .u64 a.2.2.2.1, .int .u64 a.2.2.2.2.1, .int .u64 a.2.2.2.2.2]
theorem flat6 : ∀ (l : List O6) (k : Nat) (p : O6), l[k]? = some p → (if 0 + 6 ≤ ((l.flatMap O6.dv).drop (k * 6)).length then some (DV.agg ((((l.flatMap O6.dv).drop (k * 6)).drop 0).take 6)) else none) = some (.agg p.dv)
  | [], k, p, h => by simp at h
  | q :: l, 0, p, h => by
    simp at h; subst h
    rw [List.flatMap_cons, Nat.zero_mul, List.drop_zero, List.drop_zero, if_pos (by simp [O6.dv])]
    rfl
  | q :: l, k + 1, p, h => by
    have := flat6 l k p (by simpa using h)
    rw [List.flatMap_cons, show (k + 1) * 6 = 6 + k * 6 by omega, ← List.drop_drop]
    exact this
noncomputable abbrev body5 : Code := codeAt [true, true, true, true, true, false, true, false, false] (Tryz.f5.body.getD .skip)
section
variable {p : Pl} (l : List O6) {b c : Nat} (hb : b + 4 ≤ c)
abbrev st5 (p : Pl) (l : List O6) (b c : Nat) (t : Bool) (i : Int) (m : Mu) (d : Bool) (fr : List Nat) : St := L_cubiclelaw19_TaskSame_1 p.qNodes p.qThreads p.qRetire p.qDomains p.qBuckets p.qGen (l.flatMap O6.dv) l.length b c t i m d fr
include hb
/-- A round: one operation on both memories. -/
theorem round {i : Nat} {o : O6} (ho : l[i]? = some o) (hi : i < 1000) (q : Wo o.ope) {n : Nat} (hn : c + 4 ≤ n) (w : Nat → Int) : ∃ n' w', n ≤ n' ∧ ∀ (t : Bool) (m : Mu) (k1 k2 : Int) (L : Nat), n' ≤ n + L → HasReg m b (b + 3) 1 0 k1 (reg1 p b w) → HasReg m c (c + 3) 1 0 k2 (reg1 p c w) →
    ∃ m' k1' k2', CodeOk Tryz.prog body5 (st5 p l b c t i m false (nms n L)) .normal (st5 p l b c t ((i + 1 : Nat) : Int) m' false (nms n' (n + L - n'))) ∧ HasReg m' b (b + 3) 1 0 k1' (reg1 p b w') ∧ HasReg m' c (c + 3) 1 0 k2' (reg1 p c w') := by
  obtain ⟨s, hs⟩ : ∃ s : Se, s = ⟨p, 0, 0⟩ := ⟨_, rfl⟩
  obtain ⟨rn, hrn⟩ : ∃ rn, rn = (szQ p).toNat := ⟨_, rfl⟩
  obtain ⟨pv, own, n1, a1, a2, a3, a4, a5⟩ := den_do s o.ope 100003 n (fun x hx => by cases hx)
  have hcut : (LP.run rn 100000 (doL s o.ope 100003) w).1.isCut = false := NC.run rn (nc_do s o.ope (by omega))
  obtain ⟨n2, b1, b2⟩ := runR.runOk rn a5 a3 100000 (by omega) w hcut
  have hden := den_beginS s (bytesR o.ope) 100003
  rw [same_tree s q] at hden
  obtain ⟨pv', own', n3, c1, c2, c3, c4, c5⟩ := hden n2 (fun x hx => by cases hx)
  obtain ⟨n4, d1, d2⟩ := runR.runOk rn c5 c3 100000 (by omega) w hcut
  generalize LP.run rn 100000 (doL s o.ope 100003) w = res at b2 d2
  obtain ⟨t', st, w'⟩ := res
  simp only at b2 d2
  refine ⟨n4, w', by omega, fun t m k1 k2 L hL r1 r2 => ?_⟩
  have hown : ∀ x ∈ own, n ≤ x.1 := fun x hx => by
    rcases a2 x hx with ⟨y, hy, _⟩ | h'
    · cases hy
    · exact h'.1
  have hown' : ∀ x ∈ own', n2 ≤ x.1 := fun x hx => by
    rcases c2 x hx with ⟨y, hy, _⟩ | h'
    · cases hy
    · exact h'.1
  obtain ⟨m1, e1, o1, kp1⟩ := a4 m (fun x hx => by cases hx)
  have r11 : HasReg m1 b (b + 3) 1 0 k1 (reg1 p b w) := r1.low4 fun x _ h2 y => kp1 x (by omega) (fun x hx => by cases hx) y
  have r12 : HasReg m1 c (c + 3) 1 0 k2 (reg1 p c w) := r2.low4 fun x _ h2 y => kp1 x (by omega) (fun x hx => by cases hx) y
  have ap1 : Apart own n1 b (b + 3) (b + 2) (b + 1) := fun x hx => ⟨by rcases hx with rfl | rfl | rfl | rfl <;> omega, fun y hy e => by have := hown y hy; rcases hx with rfl | rfl | rfl | rfl <;> omega⟩
  have ap2 : Apart own' n3 c (c + 3) (c + 2) (c + 1) := fun x hx => ⟨by rcases hx with rfl | rfl | rfl | rfl <;> omega, fun y hy e => by have := hown' y hy; rcases hx with rfl | rfl | rfl | rfl <;> omega⟩
  subst hrn
  obtain ⟨m2, e2, r21, far2⟩ := b2 m1 b (b + 3) 1 0 k1 (b + 2) (b + 1) 1 o1 r11 ap1 (n2 - n1) (by omega)
  have r22 : HasReg m2 c (c + 3) 1 0 k2 (reg1 p c w) := r12.low4 fun x h1 h2 y => far2 x (by omega) (fun z hz e => by have := hown z hz; omega) (by omega) (by omega) y
  obtain ⟨m3, e3, o3, kp3⟩ := c4 m2 (fun x hx => by cases hx)
  have r31 : HasReg m3 b (b + 3) 1 0 _ (reg1 p b w') := HasReg.low4 r21 fun x _ h2 y => kp3 x (by omega) (fun x hx => by cases hx) y
  have r32 : HasReg m3 c (c + 3) 1 0 k2 (reg1 p c w) := r22.low4 fun x _ h2 y => kp3 x (by omega) (fun x hx => by cases hx) y
  obtain ⟨m4, e4, r42, far4⟩ := d2 m3 c (c + 3) 1 0 k2 (c + 2) (c + 1) 1 o3 r32 ap2 (n4 - n3) (by omega)
  have r41 : HasReg m4 b (b + 3) 1 0 _ (reg1 p b w') := r31.low4 fun x h1 h2 y => far4 x (by omega) (fun z hz e => by have := hown' z hz; omega) (by omega) (by omega) y
  refine ⟨m4, _, _, ?_, r41, r42⟩
  have f1 : offUse (nms n (n1 - n)) (nms n L) = nms n1 (n + L - n1) := off_to (by omega) (by omega)
  have f2 : offUse (nms n1 (n2 - n1)) (nms n1 (n + L - n1)) = nms n2 (n + L - n2) := by rw [off_to (by omega) (by omega)]; congr 1; omega
  have f3 : offUse (nms n2 (n3 - n2)) (nms n2 (n + L - n2)) = nms n3 (n + L - n3) := by rw [off_to (by omega) (by omega)]; congr 1; omega
  have f4 : offUse (nms n3 (n4 - n3)) (nms n3 (n + L - n3)) = nms n4 (n + L - n4) := by rw [off_to (by omega) (by omega)]; congr 1; omega
  have g1 : ((nms n (n1 - n)).all fun x => (nms n L).contains x) = true := all_nms (Nat.le_refl _) (by omega)
  have g2 : ((nms n1 (n2 - n1)).all fun x => (offUse (nms n (n1 - n)) (nms n L)).contains x) = true := by rw [f1]; exact all_nms (Nat.le_refl _) (by omega)
  have g3 : ((nms n2 (n3 - n2)).all fun x => (offUse (nms n1 (n2 - n1)) (offUse (nms n (n1 - n)) (nms n L))).contains x) = true := by rw [f1, f2]; exact all_nms (Nat.le_refl _) (by omega)
  have g4 : ((nms n3 (n4 - n3)).all fun x => (offUse (nms n2 (n3 - n2)) (offUse (nms n1 (n2 - n1)) (offUse (nms n (n1 - n)) (nms n L)))).contains x) = true := by rw [f1, f2, f3]; exact all_nms (Nat.le_refl _) (by omega)
  have hlt : i < l.length := (List.getElem?_eq_some_iff.1 ho).1
  have hfl := flat6 l i o ho
  have ew : ((i + 1 : Nat) : Int) = IntKind.i64.wrap ((i : Int) + 1) := by rw [wrap64 (by omega) (by omega)]; omega
  have z1 : decide ((i : Int) < ((l.length : Nat) : Int)) = true := decide_eq_true (by omega)
  have z2 : decide ((0 : Int) ≤ (i : Int) ∧ (i : Int) < (l.length : Nat)) = true := decide_eq_true (by omega)
  have zb := bytesR_ok o.ope m2
  rw [ew, ← f4, ← f3, ← f2, ← f1]
  subst hs
  have c1' := capOk r11
  have c2' := capOk r32
  have x1 : ∀ r : Re, (!(((r.qE : Int) == r.qE) && (((r.qV : Int) == r.qV) && true))) = false := fun r => by simp
  have x2 : (((st : Nat) : Int) != ((st : Nat) : Int)) = false := by simp
  rcases a5.looks with ⟨r, rfl⟩ | ⟨op, x, y, z, g, cc, rfl⟩ <;> rcases c5.looks with ⟨r', rfl⟩ | ⟨op', x', y', z', g', cc', rfl⟩
  · have q : CodeOk Tryz.prog body5 (st5 p l b c t i m false (nms n L)) .normal (st5 p l b c t (IntKind.i64.wrap ((i : Int) + 1)) m4 false (offUse (nms n3 (n4 - n3)) (offUse (nms n2 (n3 - n2)) (offUse (nms n1 (n2 - n1)) (offUse (nms n (n1 - n)) (nms n L)))))) := L_cubiclelaw19_TaskSame_1_2_oo z1 z2 hfl e1.1 g1 c1' e2 g2 hfl zb e3.1 g3 c2' e4 g4 (x1 _) x2
    exact @q
  · have q : CodeOk Tryz.prog body5 (st5 p l b c t i m false (nms n L)) .normal (st5 p l b c t (IntKind.i64.wrap ((i : Int) + 1)) m4 false (offUse (nms n3 (n4 - n3)) (offUse (nms n2 (n3 - n2)) (offUse (nms n1 (n2 - n1)) (offUse (nms n (n1 - n)) (nms n L)))))) := L_cubiclelaw19_TaskSame_1_2_os z1 z2 hfl e1.1 g1 c1' e2 g2 hfl zb e3.1 g3 c2' e4 g4 (x1 _) x2
    exact @q
  · have q : CodeOk Tryz.prog body5 (st5 p l b c t i m false (nms n L)) .normal (st5 p l b c t (IntKind.i64.wrap ((i : Int) + 1)) m4 false (offUse (nms n3 (n4 - n3)) (offUse (nms n2 (n3 - n2)) (offUse (nms n1 (n2 - n1)) (offUse (nms n (n1 - n)) (nms n L)))))) := L_cubiclelaw19_TaskSame_1_2_so z1 z2 hfl e1.1 g1 c1' e2 g2 hfl zb e3.1 g3 c2' e4 g4 (x1 _) x2
    exact @q
  · have q : CodeOk Tryz.prog body5 (st5 p l b c t i m false (nms n L)) .normal (st5 p l b c t (IntKind.i64.wrap ((i : Int) + 1)) m4 false (offUse (nms n3 (n4 - n3)) (offUse (nms n2 (n3 - n2)) (offUse (nms n1 (n2 - n1)) (offUse (nms n (n1 - n)) (nms n L)))))) := L_cubiclelaw19_TaskSame_1_2_ss z1 z2 hfl e1.1 g1 c1' e2 g2 hfl zb e3.1 g3 c2' e4 g4 (x1 _) x2
    exact @q
/-- The rounds from one on. -/
theorem rounds (hall : ∀ o ∈ l, Wo o.ope) (hlen : l.length ≤ 30) : ∀ (j i : Nat), i + j = l.length → ∀ {n : Nat}, c + 4 ≤ n → ∀ w : Nat → Int, ∃ n', n ≤ n' ∧ ∀ (t : Bool) (m : Mu) (k1 k2 : Int) (L : Nat), n' ≤ n + L → HasReg m b (b + 3) 1 0 k1 (reg1 p b w) → HasReg m c (c + 3) 1 0 k2 (reg1 p c w) →
    ∃ m' t' i' fr', LoopOk Tryz.prog body5 (st5 p l b c t i m false (nms n L)) (.exit 0) (st5 p l b c t' i' m' false fr')
  | 0, i, hij, n, hn, w => ⟨n, Nat.le_refl _, fun t m k1 k2 L hL r1 r2 => ⟨m, t, i, _, .last (by simp) (L_cubiclelaw19_TaskSame_1_1 (decide_eq_false (by omega)))⟩⟩
  | j + 1, i, hij, n, hn, w => by
    obtain ⟨o, ho⟩ : ∃ o, l[i]? = some o := ⟨l[i], List.getElem?_eq_getElem (by omega)⟩
    obtain ⟨n1, w1, h1, h2⟩ := round l hb ho (by omega) (hall o (List.mem_of_getElem? ho)) hn w
    obtain ⟨n2, h3, h4⟩ := rounds hall hlen j (i + 1) (by omega) (n := n1) (by omega) w1
    refine ⟨n2, by omega, fun t m k1 k2 L hL r1 r2 => ?_⟩
    obtain ⟨m1, k1', k2', q1, q2, q3⟩ := h2 t m k1 k2 L (by omega) r1 r2
    obtain ⟨m2, t', i', fr', q4⟩ := h4 t m1 k1' k2' (n + L - n1) (by omega) q2 q3
    exact ⟨m2, t', i', fr', .step @q1 q4⟩
end
theorem ok (p : Pl) (l : List O6) (hall : ∀ o ∈ l, Wo o.ope) : ∃ m F, CallOk Tryz.prog n_cubiclelaw19_TaskSame [.agg p.cs, .slice (l.flatMap O6.dv) l.length] noMu (.bool true) m false F := by
  have aw := awake_ok noMu
  cases h1 : fewR p with
  | false => exact ⟨_, [], f_cubiclelaw19_TaskSame_7 aw rfl (fewR_ok p noMu) (by rw [h1]; rfl) aw⟩
  | true =>
    cases h2 : formR p with
    | false => exact ⟨_, [], f_cubiclelaw19_TaskSame_6 aw rfl (fewR_ok p noMu) (by rw [h1]; rfl) (formR_ok p noMu) (by rw [h2]; rfl) aw⟩
    | true =>
      by_cases hl : (l.length : Int) > 30
      · exact ⟨_, [], f_cubiclelaw19_TaskSame_5 aw rfl (fewR_ok p noMu) (by rw [h1]; rfl) (formR_ok p noMu) (by rw [h2]; rfl) (decide_eq_true hl) aw⟩
      · have h := PFew.of h1 h2
        obtain ⟨L1, l1, q1⟩ := laidOk h 0
        obtain ⟨L2, l2, q2⟩ := laidOk h L1
        obtain ⟨n', hn', q3⟩ := rounds (p := p) l (b := 0) (c := L1) (by omega) hall (by omega) l.length 0 (by omega) (n := L1 + L2) (by omega) (freshWords p)
        obtain ⟨m1, k1, c1, r1, low1⟩ := q1 noMu
        obtain ⟨m2, k2, c2, r2, low2⟩ := q2 m1
        have r1' : HasReg m2 0 (0 + 3) 1 0 k1 (reg1 p 0 (freshWords p)) := r1.low4 fun x _ hx y => low2 x (by omega) y
        obtain ⟨m3, t', i', fr', lp⟩ := q3 false m2 k1 k2 (n' - (L1 + L2)) (by omega) r1' r2
        obtain ⟨F, hF⟩ : ∃ F, F = nms 0 n' := ⟨_, rfl⟩
        have f1 : offUse (nms 0 L1) F = nms L1 (n' - L1) := by
          rw [hF]
          have := off_to (n := 0) (n1 := L1) (l := n') (by omega) (by omega)
          rw [Nat.sub_zero, Nat.zero_add] at this; exact this
        have f2 : offUse (nms L1 L2) (offUse (nms 0 L1) F) = nms (L1 + L2) (n' - (L1 + L2)) := by
          rw [f1]
          have := off_to (n := L1) (n1 := L1 + L2) (l := n' - L1) (by omega) (by omega)
          rw [show L1 + L2 - L1 = L2 by omega, show L1 + (n' - L1) - (L1 + L2) = n' - (L1 + L2) by omega] at this; exact this
        have g1 : ((nms 0 L1).all fun x => F.contains x) = true := by rw [hF]; exact all_nms (Nat.le_refl _) (by omega)
        have g2 : ((nms L1 L2).all fun x => (offUse (nms 0 L1) F).contains x) = true := by rw [f1]; exact all_nms (Nat.le_refl _) (by omega)
        have code : CodeOk Tryz.prog (codeAt [true, true, true, true, true, false, true, false] (Tryz.f5.body.getD .skip)) (st5 p l 0 L1 false 0 m2 false (offUse (nms L1 L2) (offUse (nms 0 L1) F))) (.exit 0) (st5 p l 0 L1 t' i' m3 false fr') := by
          rw [L_cubiclelaw19_TaskSame_1_loop, f2]
          exact lp.code
        exact ⟨_, F, f_cubiclelaw19_TaskSame_1 aw rfl (fewR_ok p noMu) (by rw [h1]; rfl) (formR_ok p noMu) (by rw [h2]; rfl) (decide_eq_false hl) c1 g1 c2 g2 code⟩
theorem TaskSame (w : World) (n t r d b g : Int) (A : Option Addr) (cap : Nat) (l : List O6) (hn : (Lit.int .i64 n).wf = true) (ht : (Lit.int .i64 t).wf = true) (hr : (Lit.int .i64 r).wf = true) (hd : (Lit.int .i64 d).wf = true) (hb : (Lit.int .i64 b).wf = true) (hg : (Lit.int .i64 g).wf = true)
    (hA : Abs (fun _ => none) (fun b => b < w.heap.size) w (.slice (l.flatMap O6.dv) l.length) (.slice A l.length cap)) (hm : l.length ≤ maxLen)
    (hQ : ∀ a ∈ l, (Lit.int .i64 a.1).wf = true ∧ (Lit.int .i64 a.2.1).wf = true ∧ (Lit.int .i64 a.2.2.1).wf = true ∧ (Lit.int .u64 a.2.2.2.1).wf = true ∧ (Lit.int .u64 a.2.2.2.2.1).wf = true ∧ (Lit.int .u64 a.2.2.2.2.2).wf = true) :
    Calls Tryz.prog 5 #[.agg #[.int .i64 n, .int .i64 t, .int .i64 r, .int .i64 d, .int .i64 b, .int .i64 g], .slice A l.length cap] w fun e w' => e = .returned (.bool true) ∧ Below w.heap.size w w' := by
  obtain ⟨m, F, hm⟩ := ok ⟨n, t, r, d, b, g⟩ l (fun o ho => by
    obtain ⟨_, _, _, h1, h2, h3⟩ := hQ o ho
    simp [Lit.wf, IntKind.min, IntKind.max, IntKind.signed, IntKind.bits] at h1 h2 h3
    exact ⟨by simp only; omega, by simp only; omega, by simp only; omega⟩)
  refine calls_of_ok hm (vs := [.agg #[.int .i64 n, .int .i64 t, .int .i64 r, .int .i64 d, .int .i64 b, .int .i64 g], .slice A l.length cap]) (.cons ?_ (.cons hA .nil))
  simp only [Abs]
  exact ⟨[.int .i64 n, .int .i64 t, .int .i64 r, .int .i64 d, .int .i64 b, .int .i64 g], rfl, by simp [AbsL, Abs]⟩
end Go.Proofs.YtehihnapbpcfbaaGreat.Pure
