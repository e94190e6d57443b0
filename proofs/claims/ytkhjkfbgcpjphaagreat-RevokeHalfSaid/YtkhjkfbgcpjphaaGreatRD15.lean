/- Programs without a result: run to their end; a fresh list laid. -/
import Derived.Test.YtkhjkfbgcpjphaaGreatRD14
namespace Go.Proofs.YtkhjkfbgcpjphaaGreat.Fun
open Go
set_option linter.unusedVariables false
inductive PgN where
  | over
  | step (op at_ a b : Int) (g : FuncId) (caps : List DV)
def PgN.dv : PgN → DV
  | .over => .agg [.bool true, .int .i64 0, .int .i64 0, .int .u64 0, .int .u64 0, .nilf]
  | .step op at_ a b g caps => .agg [.bool false, .int .i64 op, .int .i64 at_, .int .u64 a, .int .u64 b, .func g caps]
def PgN.row : PgN → List DV
  | .over => [.bool true, .int .i64 0, .int .i64 0, .int .u64 0, .int .u64 0, .nilf]
  | .step op at_ a b g caps => [.bool false, .int .i64 op, .int .i64 at_, .int .u64 a, .int .u64 b, .func g caps]
/-- A program that runs to its end: from the memory m in k steps to the memory m'. -/
inductive RunsN (mb : Nat) (i e : Int) : PgN → Mu → Nat → Mu → Prop
  | over {m : Mu} : RunsN mb i e .over m 0 m
  | step {op at_ x y w : Int} {g : FuncId} {caps : List DV} {m m1 m' : Mu} {q : PgN} {k : Nat}
      (h1 : CallOk Tryz.prog 41 [.adr mb 0, .agg [.int .i64 i, .int .u64 e], .agg [.int .i64 op, .int .i64 at_, .int .u64 x, .int .u64 y]] m (.tup [.int .u64 w, .bool true]) m1 false [])
      (h2 : CallOk Tryz.prog g (.int .u64 w :: caps) m1 q.dv m1 false []) (h3 : RunsN mb i e q m1 k m') : RunsN mb i e (.step op at_ x y g caps) m (k + 1) m'
theorem step67 {mb : Nat} {i e op at_ x y w : Int} {g : FuncId} {caps : List DV} {m m1 : Mu} (q : PgN)
    (h1 : CallOk Tryz.prog 41 [.adr mb 0, .agg [.int .i64 i, .int .u64 e], .agg [.int .i64 op, .int .i64 at_, .int .u64 x, .int .u64 y]] m (.tup [.int .u64 w, .bool true]) m1 false [])
    (h2 : CallOk Tryz.prog g (.int .u64 w :: caps) m1 q.dv m1 false []) :
    CallOk Tryz.prog 39 [(PgN.step op at_ x y g caps).dv, .adr mb 0, .agg [.int .i64 i, .int .u64 e]] m (.tup [q.dv, .bool true]) m1 false [] := by
  cases q with
  | over => exact f39_2_o h1 rfl h2
  | step op' at' x' y' g' caps' => exact f39_2_s h1 rfl h2
/-- The loop of Run, from its round n on. -/
theorem run40 {mb : Nat} {i e most : Int} (hmost : most ≤ 9000000000000000000) {p : PgN} {m : Mu} {k : Nat} {m' : Mu} (h : RunsN mb i e p m k m') :
    ∀ (n : Nat), (n : Int) + k ≤ most →
      LoopOk Tryz.prog (codeAt [true, true, false, false, false] (Tryz.f19.body.getD .skip)) (L19_1 mb i e most n p.row m false) (.exit 0) (L19_1 mb i e most ((n + k : Nat) : Int) PgN.over.row m' false) := by
  induction h with
  | @over m =>
    intro n hn
    rw [Nat.add_zero]
    refine .last (by simp) ?_
    by_cases hlt : (n : Int) < most
    · exact L19_1_2 (decide_eq_true hlt)
    · exact L19_1_1 (decide_eq_false hlt)
  | @step op at_ x y w g caps m m1 m' q k h1 h2 h3 ih =>
    intro n hn
    have hi := ih (n + 1) (by omega)
    rw [show n + 1 + k = n + (k + 1) by omega] at hi
    refine .step (s1 := L19_1 mb i e most ((n + 1 : Nat) : Int) q.row m1 false) ?_ hi
    have hw : IntKind.i64.wrap ((n : Int) + 1) = ((n + 1 : Nat) : Int) := by rw [wrap64 (by omega) (by omega)]; omega
    have h45 := step67 q h1 h2
    cases q with
    | over =>
      have : CodeOk Tryz.prog (codeAt [true, true, false, false, false] (Tryz.f19.body.getD .skip)) (L19_1 mb i e most n (PgN.step op at_ x y g caps).row m false) .normal (L19_1 mb i e most (IntKind.i64.wrap ((n : Int) + 1)) PgN.over.row m1 false) :=
        L19_1_4_o (decide_eq_true (by omega)) h45 rfl
      rw [hw] at this
      exact @this
    | step op' at' x' y' g' caps' =>
      have : CodeOk Tryz.prog (codeAt [true, true, false, false, false] (Tryz.f19.body.getD .skip)) (L19_1 mb i e most n (PgN.step op at_ x y g caps).row m false) .normal (L19_1 mb i e most (IntKind.i64.wrap ((n : Int) + 1)) (PgN.step op' at' x' y' g' caps').row m1 false) :=
        L19_1_4_s (decide_eq_true (by omega)) h45 rfl
      rw [hw] at this
      exact @this
/-- Run, to a program's end. -/
theorem runOkN {mb : Nat} {i e most : Int} (hmost : most ≤ 9000000000000000000) {p : PgN} {m : Mu} {k : Nat} {m' : Mu} (h : RunsN mb i e p m k m') (hk : (k : Int) ≤ most) :
    CallOk Tryz.prog 19 [p.dv, .adr mb 0, .agg [.int .i64 i, .int .u64 e], .int .i64 most] m (.tup [.agg [], .int .i64 k, .bool true]) m' false [] := by
  have hl := run40 hmost h 0 (by omega)
  have hc : CodeOk Tryz.prog (codeAt [true, true, false, false] (Tryz.f19.body.getD .skip)) (L19_1 mb i e most 0 p.row m false) (.exit 0) (L19_1 mb i e most (k : Int) PgN.over.row m' false) := by
    rw [L19_1_loop]
    rw [Nat.zero_add] at hl
    exact hl.code
  cases p with
  | over => exact f19_1 hc
  | step op at_ x y g caps => exact f19_3 hc
def EndsN (mb : Nat) (i e : Int) (f : FuncId) (args : List DV) (m : Mu) (k : Nat) (Q : Mu → Prop) : Prop :=
  ∃ (p : PgN) (m' : Mu), CallOk Tryz.prog f args m p.dv m false [] ∧ RunsN mb i e p m k m' ∧ Q m'
theorem EndsN.pass {mb : Nat} {i e : Int} {f g : FuncId} {args args' : List DV} {m : Mu} {k : Nat} {Q : Mu → Prop} (h : EndsN mb i e f args m k Q)
    (hp : ∀ (p : PgN), CallOk Tryz.prog f args m p.dv m false [] → CallOk Tryz.prog g args' m p.dv m false []) : EndsN mb i e g args' m k Q := by
  obtain ⟨p, m', h1, h2, h3⟩ := h
  exact ⟨p, m', hp p h1, h2, h3⟩
theorem pass112 {f : FuncId} {caps : List DV} {m : Mu} (w : Int) (p : PgN) (h : CallOk Tryz.prog f caps m p.dv m false []) : CallOk Tryz.prog 120 [.int .u64 w, .ptr [.func f caps]] m p.dv m false [] := by
  cases p with
  | over => exact f120_1_o h
  | step op at_ x y g caps => exact f120_1_s h
theorem EndsN.storeAt {mb lb len i : Nat} {R : Reg} {at_ x : Int} {f g : FuncId} {args caps : List DV} {m : Mu} {k : Nat} {Q : Mu → Prop} (hc : CallOk Tryz.prog g args m (PgN.step 1 at_ x 0 120 [.ptr [.func f caps]]).dv m false []) (hR : HasReg m mb lb len i R) (h0 : 0 ≤ at_) (h1 : at_ < R.n)
    (next : ∀ m', HasReg m' mb lb len i { R with w := upd R.w at_.toNat x } → Far mb R.wb m m' → EndsN mb i R.e f caps m' k Q) :
    EndsN mb i R.e g args m (k + 1) Q := by
  obtain ⟨m1, hd, hR', far⟩ := doStore hR h0 h1 x 0
  obtain ⟨p, m', h2, h3, h4⟩ := next m1 hR' far
  exact ⟨_, m', hc, .step hd (pass112 _ p h2) h3, h4⟩
theorem store94 (at_ x : Int) (f : FuncId) (caps : List DV) (m : Mu) : CallOk Tryz.prog 78 [.int .i64 at_, .int .u64 x, .func f caps] m (PgN.step 1 at_ x 0 120 [.ptr [.func f caps]]).dv m false [] := f78_1_s f119_1
/-- A word's number. -/
def Wd (x : Int) : Prop := 0 ≤ x ∧ x < 18446744073709551616
theorem wd_u64 (x : Int) : Wd (IntKind.u64.wrap x) := by
  unfold IntKind.wrap Wd
  simp only [IntKind.signed, IntKind.bits]
  simp
  omega
/-- What a fresh list leaves: the states' words as they were, all words numbers. -/
def FreshW (nd : Int) (w w' : Nat → Int) : Prop := (∀ q : Nat, w' (nd + q * 5).toNat = w (nd + q * 5).toNat) ∧ ∀ o, w' o = w o ∨ Wd (w' o)
theorem FreshW.upd {nd : Int} (hnd : 1 ≤ nd) {w w' : Nat → Int} (h : FreshW nd w w') {at_ : Nat} {x : Int} (hx : Wd x) (ha : ∀ q : Nat, (nd + q * 5).toNat ≠ at_) : FreshW nd w (upd w' at_ x) := by
  refine ⟨fun q => ?_, fun o => ?_⟩
  · simp only [Fun.upd]; rw [if_neg (ha q)]; exact h.1 q
  · simp only [Fun.upd]
    by_cases ho : o = at_
    · rw [if_pos ho]; exact .inr hx
    · rw [if_neg ho]; exact h.2 o
section
variable {n t r d b g : Int} (h : PF n t r d b g)
include h
theorem fresh68 {mb lb len i : Nat} {Q : Mu → Prop} (w0 : Nat → Int) (wb e rb : _) (rn : Nat) : ∀ (j k : Nat), ((k + j : Nat) : Int) = n → ∀ (m : Mu) (w : Nat → Int), HasReg m mb lb len i ⟨rb, wb, rn, e, w⟩ → (rn : Int) = szP n t r d b → FreshW (ndP t r d b) w0 w →
    (∀ m' w', HasReg m' mb lb len i ⟨rb, wb, rn, e, w'⟩ → Far mb wb m m' → FreshW (ndP t r d b) w0 w' → Q m') →
    EndsN mb i e 40 [pl n t r d b g, .int .i64 (k : Int)] m (j + 1) Q
  | 0, k, hk, m, w, hR, hsz, hf, fin => by
    have hn := h.hn; have hnd := h.nd; have hct := h.ct; have hhz := h.hz
    have hz : ((k : Int) == n) = true := by rw [beq_iff_eq]; omega
    refine EndsN.storeAt (R := ⟨rb, wb, rn, e, w⟩) (f := 117) (caps := []) (x := IntKind.u64.wrap (IntKind.i64.wrap (0 + 1))) (f40_3_s hz (head60 h m) f77_1 (f76_1_s (store94 _ _ _ _ m))) hR (by omega) (by unfold szP at hsz; simp only; omega) (fun m' hR' far => ?_)
    exact ⟨.over, m', f117_1_o f118_1, .over, fin m' _ hR' far (hf.upd (by omega) (wd_u64 _) (fun q => by omega))⟩
  | j + 1, k, hk, m, w, hR, hsz, hf, fin => by
    have hn := h.hn; have hnd := h.nd; have hct := h.ct; have hhz := h.hz
    have hz : ((k : Int) == n) = false := by rw [beq_eq_false_iff_ne]; omega
    have hw : IntKind.i64.wrap ((k : Int) + 1) = ((k + 1 : Nat) : Int) := by rw [wrap64 (by omega) (by omega)]; omega
    have next : ∀ x, Wd x → ∀ m', HasReg m' mb lb len i ⟨rb, wb, rn, e, upd w (ndP t r d b + k * 5 + 1).toNat x⟩ → Far mb wb m m' → EndsN mb i e 80 [.ptr (pls n t r d b g), .ptr [.int .i64 (k : Int)]] m' (j + 1) Q := fun x hx m' hR' far => by
      have ih := fresh68 w0 wb e rb rn j (k + 1) (by omega) m' _ hR' hsz (hf.upd (by omega) hx (fun q => by omega)) (fun m'' w'' h1 h2 h3 => fin m'' w'' h1 (far.trans h2) h3)
      refine ih.pass fun p hc => ?_
      rw [← hw] at hc
      cases p with
      | over => exact f80_1_o hc
      | step => exact f80_1_s hc
    by_cases hlast : (k : Int) + 1 = n
    · have hz2 : (IntKind.i64.wrap ((k : Int) + 1) == n) = true := by rw [hw, beq_iff_eq]; omega
      refine EndsN.storeAt (R := ⟨rb, wb, rn, e, w⟩) (x := 0) (f40_2_s hz f77_1 hz2 (next61 h (by omega) (by omega) m) (store94 _ _ _ _ m)) hR (by omega) (by unfold szP at hsz; simp only; omega) (fun m' hR' far => next 0 ⟨by omega, by omega⟩ m' hR' far)
    · have hz2 : (IntKind.i64.wrap ((k : Int) + 1) == n) = false := by rw [hw, beq_eq_false_iff_ne]; omega
      refine EndsN.storeAt (R := ⟨rb, wb, rn, e, w⟩) (x := IntKind.u64.wrap (IntKind.i64.wrap (IntKind.i64.wrap ((k : Int) + 1) + 1))) (f40_1_s hz f77_1 hz2 (next61 h (by omega) (by omega) m) (store94 _ _ _ _ m)) hR (by omega) (by unfold szP at hsz; simp only; omega) (fun m' hR' far => next _ (wd_u64 _) m' hR' far)
theorem fresh41 {mb lb len i : Nat} {Q : Mu → Prop} {R : Reg} {m : Mu} (hR : HasReg m mb lb len i R) (hsz : (R.n : Int) = szP n t r d b)
    (fin : ∀ m' w', HasReg m' mb lb len i { R with w := w' } → Far mb R.wb m m' → FreshW (ndP t r d b) R.w w' → Q m') : EndsN mb i R.e 20 [pl n t r d b g] m (n.toNat + 1) Q := by
  have hn := h.hn
  refine (fresh68 h (Q := Q) R.w R.wb R.e R.rb R.n n.toNat 0 (by omega) m R.w hR hsz ⟨fun _ => rfl, fun _ => .inl rfl⟩ fin).pass fun p hc => ?_
  cases p with
  | over => exact f20_1_o hc
  | step => exact f20_1_s hc
end
end Go.Proofs.YtkhjkfbgcpjphaaGreat.Fun
