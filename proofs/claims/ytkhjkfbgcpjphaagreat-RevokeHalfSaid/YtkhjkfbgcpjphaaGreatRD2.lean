/- Programs: their values, and those that run to their end. -/
import Derived.Test.YtkhjkfbgcpjphaaGreatRD1
namespace Go.Proofs.YtkhjkfbgcpjphaaGreat.Fun
open Go
set_option linter.unusedVariables false
inductive Pg where
  | over (r : Int)
  | step (op at_ a b : Int) (g : FuncId) (caps : List DV)
def Pg.dv : Pg → DV
  | .over r => .agg [.bool true, .int .i64 r, .int .i64 0, .int .i64 0, .int .u64 0, .int .u64 0, .nilf]
  | .step op at_ a b g caps => .agg [.bool false, .int .i64 0, .int .i64 op, .int .i64 at_, .int .u64 a, .int .u64 b, .func g caps]
def Pg.row : Pg → List DV
  | .over r => [.bool true, .int .i64 r, .int .i64 0, .int .i64 0, .int .u64 0, .int .u64 0, .nilf]
  | .step op at_ a b g caps => [.bool false, .int .i64 0, .int .i64 op, .int .i64 at_, .int .u64 a, .int .u64 b, .func g caps]
/-- The names from one on. -/
abbrev nms (a k : Nat) : List Nat := List.range' a k
theorem all_nms {a k b l : Nat} (h1 : b ≤ a) (h2 : a + k ≤ b + l) : ((nms a k).all fun n => (nms b l).contains n) = true := by
  rw [List.all_eq_true]
  intro n hn
  simp only [List.mem_range'_1] at hn
  simp only [List.contains_iff_mem, List.mem_range'_1]
  omega
theorem all_nil (F : List Nat) : (([] : List Nat).all fun n => F.contains n) = true := rfl
theorem filter_nms (a k : Nat) : ∀ l, (nms a (k + l)).filter (fun n => !(nms a k).contains n) = nms (a + k) l := by
  intro l
  rw [show nms a (k + l) = nms a k ++ nms (a + k) l from (List.range'_append_1 ..).symm, List.filter_append]
  rw [List.filter_eq_nil_iff.2 (fun n hn => by simp [hn]), List.nil_append]
  rw [List.filter_eq_self.2 (fun n hn => by simp only [List.mem_range'_1] at hn; simp only [Bool.not_eq_true', List.contains_eq_mem, decide_eq_false_iff_not, List.mem_range'_1]; omega)]
theorem off_nms (a k l : Nat) : offUse (nms a k) (nms a (k + l)) = nms (a + k) l := by
  rw [← filter_nms a k l]
  unfold offUse
  cases hk : nms a k with
  | nil => simp only []; exact (List.filter_eq_self.2 (fun _ _ => by simp)).symm
  | cons x xs => rfl
theorem CallOk.more {P : Program} {f : FuncId} {ds : List DV} {m m' : Mu} {d : DV} {dirty : Bool} {F F' : List Nat} (h : CallOk P f ds m d m' dirty F) (hF : ∀ n ∈ F, n ∈ F') : CallOk P f ds m d m' dirty F' :=
  ⟨h.enters, fun ρ S w vs hn hfr sane hmu hab => (h.runs ρ S w vs hn (fun n hn' => hfr n (hF n hn')) sane hmu hab).mono fun e w' ⟨v, S', ρ', h1, h2, h3, h4, h5, h6, h7, h8⟩ =>
    ⟨v, S', ρ', h1, h2, h3, h4, fun n b hb => (h5 n b hb).imp id (hF n), h6, h7, h8⟩⟩
/-- A program that runs to its end: from the memory m, with the names from a on, in k steps, to r, the memory m', names from a' on. -/
inductive Runs (K : Mu → Prop) (mb : Nat) (i e : Int) : Pg → Mu → Nat → Nat → Int → Mu → Nat → Prop
  | over {r : Int} {m : Mu} {a : Nat} (h0 : K m) : Runs K mb i e (.over r) m a 0 r m a
  | step {op at_ x y w : Int} {g : FuncId} {caps : List DV} {m m1 m2 m' : Mu} {q : Pg} {a j k a' : Nat} {r : Int} (h0 : K m)
      (h1 : CallOk Tryz.prog 41 [.adr mb 0, .agg [.int .i64 i, .int .u64 e], .agg [.int .i64 op, .int .i64 at_, .int .u64 x, .int .u64 y]] m (.tup [.int .u64 w, .bool true]) m1 false [])
      (h2 : CallOk Tryz.prog g (.int .u64 w :: caps) m1 q.dv m2 false (nms a j)) (h3 : Runs K mb i e q m2 (a + j) k r m' a') : Runs K mb i e (.step op at_ x y g caps) m a (k + 1) r m' a'
theorem Runs.le {K : Mu → Prop} {mb : Nat} {i e : Int} {p : Pg} {m : Mu} {a k : Nat} {r : Int} {m' : Mu} {a' : Nat} (h : Runs K mb i e p m a k r m' a') : a ≤ a' := by
  induction h with
  | over => exact Nat.le_refl _
  | step _ _ _ _ ih => omega
theorem step45 {mb : Nat} {i e op at_ x y w : Int} {g : FuncId} {caps : List DV} {m m1 m2 : Mu} (q : Pg) {F : List Nat}
    (h1 : CallOk Tryz.prog 41 [.adr mb 0, .agg [.int .i64 i, .int .u64 e], .agg [.int .i64 op, .int .i64 at_, .int .u64 x, .int .u64 y]] m (.tup [.int .u64 w, .bool true]) m1 false [])
    (h2 : CallOk Tryz.prog g (.int .u64 w :: caps) m1 q.dv m2 false F) :
    CallOk Tryz.prog 30 [(Pg.step op at_ x y g caps).dv, .adr mb 0, .agg [.int .i64 i, .int .u64 e]] m (.tup [q.dv, .bool true]) m2 false F := by
  have all : ((F).all fun n => (F).contains n) = true := List.all_eq_true.2 fun n hn => by simpa using hn
  cases q with
  | over r => exact f30_2_o h1 rfl h2 all
  | step op' at' x' y' g' caps' => exact f30_2_s h1 rfl h2 all
theorem wrap64 {x : Int} (h1 : -9223372036854775808 ≤ x) (h2 : x ≤ 9223372036854775807) : IntKind.i64.wrap x = x := by
  unfold IntKind.wrap
  simp only [IntKind.signed, IntKind.bits]
  simp
  omega
/-- The loop of Run, from its round n on. -/
theorem run17 {K : Mu → Prop} {mb : Nat} {i e most : Int} (hmost : most ≤ 9000000000000000000) {p : Pg} {m : Mu} {a k : Nat} {r : Int} {m' : Mu} {a' : Nat} (h : Runs K mb i e p m a k r m' a') :
    ∀ (n l : Nat), (n : Int) + k ≤ most → a' ≤ a + l →
      LoopOk Tryz.prog (codeAt [true, true, false, false, false] (Tryz.f10.body.getD .skip)) (L10_1 mb i e most n p.row m false (nms a l)) (.exit 0) (L10_1 mb i e most ((n + k : Nat) : Int) (Pg.over r).row m' false (nms a' (a + l - a'))) := by
  induction h with
  | @over r m a h0 =>
    intro n l hn hl
    rw [Nat.add_zero, show a + l - a = l by omega]
    refine .last (by simp) ?_
    by_cases hlt : (n : Int) < most
    · exact L10_1_2 (decide_eq_true hlt)
    · exact L10_1_1 (decide_eq_false hlt)
  | @step op at_ x y w g caps m m1 m2 m' q a j k a' r h0 h1 h2 h3 ih =>
    intro n l hn hl
    have hle := h3.le
    obtain ⟨l', rfl⟩ : ∃ l', l = j + l' := ⟨l - j, by omega⟩
    have hi := ih (n + 1) l' (by omega) (by omega)
    rw [show a + j + l' - a' = a + (j + l') - a' by omega, show n + 1 + k = n + (k + 1) by omega] at hi
    refine .step (s1 := L10_1 mb i e most ((n + 1 : Nat) : Int) q.row m2 false (nms (a + j) l')) ?_ hi
    have ha := all_nms (a := a) (k := j) (b := a) (l := j + l') (Nat.le_refl _) (by omega)
    have hw : IntKind.i64.wrap ((n : Int) + 1) = ((n + 1 : Nat) : Int) := by rw [wrap64 (by omega) (by omega)]; omega
    have h45 := step45 q h1 h2
    cases q with
    | over r' =>
      have : CodeOk Tryz.prog (codeAt [true, true, false, false, false] (Tryz.f10.body.getD .skip)) (L10_1 mb i e most n (Pg.step op at_ x y g caps).row m false (nms a (j + l'))) .normal (L10_1 mb i e most (IntKind.i64.wrap ((n : Int) + 1)) (Pg.over r').row m2 false (offUse (nms a j) (nms a (j + l')))) :=
        L10_1_4_o (decide_eq_true (by omega)) h45 ha rfl
      rw [hw, off_nms] at this
      exact @this
    | step op' at' x' y' g' caps' =>
      have : CodeOk Tryz.prog (codeAt [true, true, false, false, false] (Tryz.f10.body.getD .skip)) (L10_1 mb i e most n (Pg.step op at_ x y g caps).row m false (nms a (j + l'))) .normal (L10_1 mb i e most (IntKind.i64.wrap ((n : Int) + 1)) (Pg.step op' at' x' y' g' caps').row m2 false (offUse (nms a j) (nms a (j + l')))) :=
        L10_1_4_s (decide_eq_true (by omega)) h45 ha rfl
      rw [hw, off_nms] at this
      exact @this
/-- Run, to a program's end. -/
theorem runOk {K : Mu → Prop} {mb : Nat} {i e most : Int} (hmost : most ≤ 9000000000000000000) {p : Pg} {m : Mu} {a k : Nat} {r : Int} {m' : Mu} {a' : Nat} (h : Runs K mb i e p m a k r m' a') (hk : (k : Int) ≤ most) (l : Nat) (hl : a' ≤ a + l) :
    CallOk Tryz.prog 10 [p.dv, .adr mb 0, .agg [.int .i64 i, .int .u64 e], .int .i64 most] m (.tup [.int .i64 r, .int .i64 k, .bool true]) m' false (nms a l) := by
  have hl := run17 hmost h 0 l (by omega) hl
  have hc : CodeOk Tryz.prog (codeAt [true, true, false, false] (Tryz.f10.body.getD .skip)) (L10_1 mb i e most 0 p.row m false (nms a l)) (.exit 0) (L10_1 mb i e most (k : Int) (Pg.over r).row m' false (nms a' (a + l - a'))) := by
    rw [L10_1_loop]
    rw [Nat.zero_add] at hl
    exact hl.code
  cases p with
  | over r' => exact f10_1 hc
  | step op at_ x y g caps => exact f10_3 hc
/-- The loop of Run, to where it stops. -/
theorem till17 {K : Mu → Prop} {mb : Nat} {i e most : Int} (hmost : most ≤ 9000000000000000000) {p : Pg} {m : Mu} {a k : Nat} {r : Int} {m' : Mu} {a' : Nat} (h : Runs K mb i e p m a k r m' a') :
    ∀ (n l : Nat), (n : Int) ≤ most → a' ≤ a + l → ∃ (c : Nat) (p' : Pg) (m'' : Mu) (a'' : Nat),
      LoopOk Tryz.prog (codeAt [true, true, false, false, false] (Tryz.f10.body.getD .skip)) (L10_1 mb i e most n p.row m false (nms a l)) (.exit 0) (L10_1 mb i e most (c : Int) p'.row m'' false (nms a'' (a + l - a''))) ∧ K m'' ∧ a ≤ a'' ∧ a'' ≤ a' := by
  induction h with
  | @over r m a h0 =>
    intro n l hn hl
    refine ⟨n, .over r, m, a, ?_, h0, Nat.le_refl _, Nat.le_refl _⟩
    rw [show a + l - a = l by omega]
    refine .last (by simp) ?_
    by_cases hlt : (n : Int) < most
    · exact L10_1_2 (decide_eq_true hlt)
    · exact L10_1_1 (decide_eq_false hlt)
  | @step op at_ x y w g caps m m1 m2 m' q a j k a' r h0 h1 h2 h3 ih =>
    intro n l hn hl
    have hle := h3.le
    by_cases hlt : (n : Int) < most
    case neg =>
      refine ⟨n, .step op at_ x y g caps, m, a, ?_, h0, Nat.le_refl _, by omega⟩
      rw [show a + l - a = l by omega]
      exact .last (by simp) (L10_1_3 (decide_eq_false hlt))
    obtain ⟨l', rfl⟩ : ∃ l', l = j + l' := ⟨l - j, by omega⟩
    obtain ⟨c, p', m'', a'', hi, hk, q1, q2⟩ := ih (n + 1) l' (by omega) (by omega)
    rw [show a + j + l' - a'' = a + (j + l') - a'' by omega] at hi
    refine ⟨c, p', m'', a'', ?_, hk, by omega, q2⟩
    refine .step (s1 := L10_1 mb i e most ((n + 1 : Nat) : Int) q.row m2 false (nms (a + j) l')) ?_ hi
    have ha := all_nms (a := a) (k := j) (b := a) (l := j + l') (Nat.le_refl _) (by omega)
    have hw : IntKind.i64.wrap ((n : Int) + 1) = ((n + 1 : Nat) : Int) := by rw [wrap64 (by omega) (by omega)]; omega
    have h45 := step45 q h1 h2
    cases q with
    | over r' =>
      have : CodeOk Tryz.prog (codeAt [true, true, false, false, false] (Tryz.f10.body.getD .skip)) (L10_1 mb i e most n (Pg.step op at_ x y g caps).row m false (nms a (j + l'))) .normal (L10_1 mb i e most (IntKind.i64.wrap ((n : Int) + 1)) (Pg.over r').row m2 false (offUse (nms a j) (nms a (j + l')))) :=
        L10_1_4_o (decide_eq_true (by omega)) h45 ha rfl
      rw [hw, off_nms] at this
      exact @this
    | step op' at' x' y' g' caps' =>
      have : CodeOk Tryz.prog (codeAt [true, true, false, false, false] (Tryz.f10.body.getD .skip)) (L10_1 mb i e most n (Pg.step op at_ x y g caps).row m false (nms a (j + l'))) .normal (L10_1 mb i e most (IntKind.i64.wrap ((n : Int) + 1)) (Pg.step op' at' x' y' g' caps').row m2 false (offUse (nms a j) (nms a (j + l')))) :=
        L10_1_4_s (decide_eq_true (by omega)) h45 ha rfl
      rw [hw, off_nms] at this
      exact @this
/-- Run, of as many steps as are asked for. -/
theorem runTill {K : Mu → Prop} {mb : Nat} {i e most : Int} (h0 : 0 ≤ most) (hmost : most ≤ 9000000000000000000) {p : Pg} {m : Mu} {a k : Nat} {r : Int} {m' : Mu} {a' : Nat} (h : Runs K mb i e p m a k r m' a') (l : Nat) (hl : a' ≤ a + l) :
    ∃ (r' c : Int) (o : Bool) (m'' : Mu), CallOk Tryz.prog 10 [p.dv, .adr mb 0, .agg [.int .i64 i, .int .u64 e], .int .i64 most] m (.tup [.int .i64 r', .int .i64 c, .bool o]) m'' false (nms a l) ∧ K m'' := by
  obtain ⟨c, p', m'', a'', lp, hk, q1, q2⟩ := till17 hmost h 0 l (by omega) hl
  have hc : CodeOk Tryz.prog (codeAt [true, true, false, false] (Tryz.f10.body.getD .skip)) (L10_1 mb i e most 0 p.row m false (nms a l)) (.exit 0) (L10_1 mb i e most (c : Int) p'.row m'' false (nms a'' (a + l - a''))) := by
    rw [L10_1_loop]
    exact lp.code
  cases p with
  | over r1 =>
    cases p' with
    | over r2 => exact ⟨_, _, _, m'', f10_1 hc, hk⟩
    | step op at_ x y g caps => exact ⟨_, _, _, m'', f10_2 hc, hk⟩
  | step op1 at1 x1 y1 g1 caps1 =>
    cases p' with
    | over r2 => exact ⟨_, _, _, m'', f10_3 hc, hk⟩
    | step op at_ x y g caps => exact ⟨_, _, _, m'', f10_4 hc, hk⟩
end Go.Proofs.YtkhjkfbgcpjphaaGreat.Fun
