/- All scalars that the program of check.New asks come to something; the smallest programs. -/
import Derived.Test.YtkhjkfbgcpjphaaGreatRD50
import Derived.Test.YtkhjkfbgcpjphaaGreatFunWaysD
namespace Go.Proofs.YtkhjkfbgcpjphaaGreat.Fun
open Go Go.Proofs.YtkhjkfbgcpjphaaGreat.Fun.B
set_option linter.unusedVariables false
namespace C
theorem tot28 (a0_0 a0_1 a0_2 : Int) : ∃ r, Wd r ∧ ∀ m, CallOk Tryz.prog 28 [.agg [.int .i64 a0_0, .int .i64 a0_1, .int .i64 a0_2]] m (.int .u64 r) m false [] := by
  cases h0 : (decide ((a0_0 : Int) ≥ 0)) with
  | false =>
    exact ⟨_, (by first | exact wd_u64 _ | exact ⟨by omega, by omega⟩), fun m => d28_1 h0 m⟩
  | true =>
    cases h1 : (decide ((a0_0 : Int) < 1048576)) with
    | false =>
      exact ⟨_, (by first | exact wd_u64 _ | exact ⟨by omega, by omega⟩), fun m => d28_2 h0 h1 m⟩
    | true =>
      cases h2 : (decide ((a0_1 : Int) ≥ 0)) with
      | false =>
        exact ⟨_, (by first | exact wd_u64 _ | exact ⟨by omega, by omega⟩), fun m => d28_3 h0 h1 h2 m⟩
      | true =>
        cases h3 : (decide ((a0_1 : Int) ≤ 1073741823)) with
        | false =>
          exact ⟨_, (by first | exact wd_u64 _ | exact ⟨by omega, by omega⟩), fun m => d28_4 h0 h1 h2 h3 m⟩
        | true =>
          cases h4 : (decide ((a0_2 : Int) ≥ 0)) with
          | false =>
            exact ⟨_, (by first | exact wd_u64 _ | exact ⟨by omega, by omega⟩), fun m => d28_5 h0 h1 h2 h3 h4 m⟩
          | true =>
            cases h5 : (!(decide ((a0_2 : Int) < 64))) with
            | false =>
              cases h6 : (decide (((IntKind.u64.wrap a0_0) : Int) > 1048575)) with
              | false =>
                cases h7 : (decide (((IntKind.u64.wrap a0_1) : Int) > 1073741823)) with
                | false =>
                  cases h8 : (decide (((IntKind.u64.wrap a0_2) : Int) > 63)) with
                  | false =>
                    exact ⟨_, (by first | exact wd_u64 _ | exact ⟨by omega, by omega⟩), fun m => d28_6 h0 h1 h2 h3 h4 h5 h6 h7 h8 m⟩
                  | true =>
                    exact ⟨_, (by first | exact wd_u64 _ | exact ⟨by omega, by omega⟩), fun m => d28_7 h0 h1 h2 h3 h4 h5 h6 h7 h8 m⟩
                | true =>
                  exact ⟨_, (by first | exact wd_u64 _ | exact ⟨by omega, by omega⟩), fun m => d28_8 h0 h1 h2 h3 h4 h5 h6 h7 m⟩
              | true =>
                exact ⟨_, (by first | exact wd_u64 _ | exact ⟨by omega, by omega⟩), fun m => d28_9 h0 h1 h2 h3 h4 h5 h6 m⟩
            | true =>
              exact ⟨_, (by first | exact wd_u64 _ | exact ⟨by omega, by omega⟩), fun m => d28_10 h0 h1 h2 h3 h4 h5 m⟩
theorem tot95 (a0 a1 : Int) : ∃ r, Wd r ∧ ∀ m, CallOk Tryz.prog 95 [.int .u64 a0, .int .u64 a1] m (.int .u64 r) m false [] := by
  exact ⟨_, (by first | exact wd_u64 _ | exact ⟨by omega, by omega⟩), fun m => d95_1  m⟩
theorem tot143 (a0 : Int) : ∃ r, Wd r ∧ ∀ m, CallOk Tryz.prog 143 [.int .i64 a0] m (.int .u64 r) m false [] := by
  exact ⟨_, (by first | exact wd_u64 _ | exact ⟨by omega, by omega⟩), fun m => d143_1  m⟩
end C
/-- Rows of three numbers, as cells. -/
def t3 : List (Int × Int × Int) → List DV
  | [] => []
  | x :: l => .int .i64 x.1 :: .int .i64 x.2.1 :: .int .i64 x.2.2 :: t3 l
theorem t3_drop : ∀ (l : List (Int × Int × Int)) (i : Nat), (t3 l).drop (i * 3) = t3 (l.drop i)
  | l, 0 => by simp
  | [], i + 1 => by simp [t3]
  | x :: l, i + 1 => by
    rw [show (i + 1) * 3 = i * 3 + 1 + 1 + 1 by omega]
    simp only [t3, List.drop_succ_cons]
    exact t3_drop l i
theorem in74 (l : List (Int × Int × Int)) (hl : l.length < 1000) : ∀ (j i : Nat), i + j = l.length →
    (∃ i' : Int, ∀ m, LoopOk Tryz.prog (codeAt [true, false, true, false, false] (Tryz.f74.body.getD .skip)) (D.L74_1 (t3 l) l.length false (i : Int) m false) (.exit 0) (D.L74_1 (t3 l) l.length false i' m false)) ∨
    (∃ i' : Int, ∀ m, LoopOk Tryz.prog (codeAt [true, false, true, false, false] (Tryz.f74.body.getD .skip)) (D.L74_1 (t3 l) l.length false (i : Int) m false) .ret (D.L74_1 (t3 l) l.length false i' m false))
  | 0, i, hi => .inl ⟨_, fun m => .last (by simp) (D.L74_1_1 (decide_eq_false (by omega)))⟩
  | j + 1, i, hi => by
    have lt : decide ((i : Int) < ((l.length : Nat) : Int)) = true := decide_eq_true (by omega)
    have lt2 : decide ((0 : Int) ≤ (i : Int) ∧ (i : Int) < ((l.length : Nat) : Int)) = true := decide_eq_true (by omega)
    obtain ⟨x, rest, hx⟩ : ∃ x rest, l.drop i = x :: rest := by
      cases hd : l.drop i with
      | nil => have := congrArg List.length hd; simp at this; omega
      | cons x rest => exact ⟨x, rest, rfl⟩
    have el : (if 0 + 3 ≤ (((t3 l).drop ((i : Int).toNat * 3))).length then some (DV.agg (((((t3 l).drop ((i : Int).toNat * 3))).drop 0).take 3)) else none) = some (.agg [.int .i64 x.1, .int .i64 x.2.1, .int .i64 x.2.2]) := by
      rw [Int.toNat_natCast, t3_drop, hx]
      simp [t3]
    by_cases h1 : x.1 < x.2.1
    · exact .inr ⟨_, fun m => .last (by simp) (D.L74_1_4 lt lt2 el (decide_eq_true h1))⟩
    by_cases h2 : x.1 > x.2.2
    · exact .inr ⟨_, fun m => .last (by simp) (D.L74_1_3 lt lt2 el (decide_eq_false h1) (decide_eq_true h2))⟩
    have st : ∀ m, CodeOk Tryz.prog (codeAt [true, false, true, false, false] (Tryz.f74.body.getD .skip)) (D.L74_1 (t3 l) l.length false (i : Int) m false) .normal (D.L74_1 (t3 l) l.length false ((i + 1 : Nat) : Int) m false) := fun m => by
      have this : CodeOk Tryz.prog (codeAt [true, false, true, false, false] (Tryz.f74.body.getD .skip)) (D.L74_1 (t3 l) l.length false (i : Int) m false) .normal (D.L74_1 (t3 l) l.length false (IntKind.i64.wrap ((i : Int) + 1)) m false) := D.L74_1_2 lt lt2 el (decide_eq_false h1) (decide_eq_false h2)
      rw [show IntKind.i64.wrap ((i : Int) + 1) = ((i + 1 : Nat) : Int) by rw [wrap64 (by omega) (by omega)]; omega] at this
      exact @this
    rcases in74 l hl j (i + 1) (by omega) with ⟨i', q⟩ | ⟨i', q⟩
    · exact .inl ⟨i', fun m => .step (P := Tryz.prog) (st m) (q m)⟩
    · exact .inr ⟨i', fun m => .step (P := Tryz.prog) (st m) (q m)⟩
theorem tot74 (l : List (Int × Int × Int)) (hl : l.length < 1000) : ∃ v, ∀ m, CallOk Tryz.prog 74 [.slice (t3 l) l.length] m (.bool v) m false [] := by
  rcases in74 l hl l.length 0 (by omega) with ⟨i', q⟩ | ⟨i', q⟩
  · refine ⟨true, fun m => ?_⟩
    have c : CodeOk Tryz.prog (codeAt [true, false, true, false] (Tryz.f74.body.getD .skip)) (D.L74_1 (t3 l) l.length false 0 m false) (.exit 0) (D.L74_1 (t3 l) l.length false i' m false) := by
      rw [D.L74_1_loop]; exact (q m).code
    exact D.f74_1 c
  · refine ⟨false, fun m => ?_⟩
    have c : CodeOk Tryz.prog (codeAt [true, false, true, false] (Tryz.f74.body.getD .skip)) (D.L74_1 (t3 l) l.length false 0 m false) .ret (D.L74_1 (t3 l) l.length false i' m false) := by
      rw [D.L74_1_loop]; exact (q m).code
    exact D.f74_2 c
section
variable {n t r d b g : Int} (h : PF n t r d b g)
include h
theorem tot104 (x : Int) (l : List (Int × Int × Int)) (hl : l.length < 1000) : ∃ v, ∀ m, CallOk Tryz.prog 104 [pl n t r d b g, .int .i64 x, .slice (t3 l) l.length] m (.int .i64 v) m false [] := by
  obtain ⟨v, c⟩ := tot74 l hl
  cases v with
  | true => exact ⟨_, fun m => D.f104_1 (formed37 h m) rfl (c m) rfl⟩
  | false => exact ⟨_, fun m => D.f104_2 (formed37 h m) rfl (c m) rfl⟩
theorem tot68 (q : Int) : ∃ v, ∀ m, CallOk Tryz.prog 68 [pl n t r d b g, .int .i64 q] m (.int .i64 v) m false [] := by
  obtain ⟨v, c⟩ := tot104 h _ [(q, 0, IntKind.i64.wrap (n - 1))] (by simp)
  exact ⟨v, fun m => D.f68_1 (D.f38_1 (D.f75_1 (D.f107_1 D.f105_1))) D.f113_1 (c m)⟩
theorem tot79 (q : Int) : ∃ v, ∀ m, CallOk Tryz.prog 79 [pl n t r d b g, .int .i64 q] m (.int .i64 v) m false [] := by
  obtain ⟨v, c⟩ := tot104 h _ [(q, 0, IntKind.i64.wrap (n - 1))] (by simp)
  exact ⟨v, fun m => D.f79_1 (D.f38_1 (D.f75_1 (D.f107_1 D.f105_1))) D.f113_1 (c m)⟩
theorem tot112 (q e : Int) : ∃ v, ∀ m, CallOk Tryz.prog 112 [pl n t r d b g, .int .i64 q, .int .i64 e] m (.int .i64 v) m false [] := by
  obtain ⟨v, c⟩ := tot104 h _ [(q, 0, IntKind.i64.wrap (n - 1)), (e, 0, 2)] (by simp)
  exact ⟨v, fun m => D.f112_1 (D.f38_1 (D.f75_1 (D.f107_1 D.f105_1))) D.f113_1 (c m)⟩
theorem tot62 (q e : Int) : ∃ v, ∀ m, CallOk Tryz.prog 62 [pl n t r d b g, .int .i64 q, .int .i64 e] m (.int .i64 v) m false [] := by
  obtain ⟨v, c⟩ := tot104 h _ [(q, 0, IntKind.i64.wrap (t - 1)), (e, 0, 2)] (by simp)
  exact ⟨v, fun m => D.f62_1 (D.f107_1 D.f105_1) D.f108_1 (c m)⟩
theorem tot125 (q e : Int) : ∃ v, ∀ m, CallOk Tryz.prog 125 [pl n t r d b g, .int .i64 q, .int .i64 e] m (.int .i64 v) m false [] := by
  obtain ⟨v, c⟩ := tot104 h _ [(q, 0, IntKind.i64.wrap (t - 1)), (e, 0, IntKind.i64.wrap (r - 1))] (by simp)
  exact ⟨v, fun m => D.f125_1 (D.f75_1 (D.f107_1 D.f105_1)) D.f108_1 (c m)⟩
end
theorem wd0 : Wd 0 := ⟨by omega, by omega⟩
variable {k : Nat}
theorem gDoneI (r : Int) : Gd kI k 92 [.int .i64 r] := gdOver (fun m => f92_1) ⟨r, rfl⟩
theorem gDoneB (r : Bool) : Gd kB k 140 [.bool r] := gdOver (fun m => C.f140_1) ⟨r, rfl⟩
theorem gDoneG (p q e : Int) : Gd kG k 46 [.agg [.int .i64 p, .int .i64 q, .int .i64 e]] := gdOver (fun m => C.f46_1) ⟨p, q, e, rfl⟩
theorem gDoneR (e v : Int) : Gd kR k 42 [.agg [.int .i64 e, .int .u64 v]] := gdOver (fun m => C.f42_1) ⟨e, v, rfl⟩
theorem gLoadI {at_ : Int} {f : FuncId} {c : List DV} (next : ∀ w, Wd w → ∀ j, j < k → Gd kI j f (.int .u64 w :: c)) : Gd kI k 67 [.int .i64 at_, .func f c] :=
  gdStep (k := kI) (op := 0) (a := at_) (x := 0) (y := 0) (fun m => f67_1_s f102_1) wd0 wd0 next
theorem gStoreI {at_ x : Int} {f : FuncId} {c : List DV} (hx : Wd x) (next : ∀ j, j < k → Gd kI j f c) : Gd kI k 56 [.int .i64 at_, .int .u64 x, .func f c] :=
  gdStep (k := kI) (op := 1) (a := at_) (x := x) (y := 0) (fun m => f56_1_s f102_1) hx wd0 fun w hw j hj => (next j hj).pass (fun pv_ hq_ m q => by rcases hq_ with ⟨r_, rfl⟩ | ⟨op_, a_, x_, y_, g_, c_, rfl⟩; exact f103_1_o q rfl; exact f103_1_s q rfl)
theorem gSwapI {at_ x y : Int} {f : FuncId} {c : List DV} (hx : Wd x) (hy : Wd y) (next : ∀ ok : Bool, ∀ j, j < k → Gd kI j f (.bool ok :: c)) : Gd kI k 94 [.int .i64 at_, .int .u64 x, .int .u64 y, .func f c] :=
  gdStep (k := kI) (op := 2) (a := at_) (x := x) (y := y) (fun m => C.f94_1_s f102_1) hx hy fun w hw j hj => (next (w == x) j hj).pass (fun pv_ hq_ m q => by rcases hq_ with ⟨r_, rfl⟩ | ⟨op_, a_, x_, y_, g_, c_, rfl⟩; exact C.f123_1_o q; exact C.f123_1_s q)
theorem gLoadG {at_ : Int} {f : FuncId} {c : List DV} (next : ∀ w, Wd w → ∀ j, j < k → Gd kG j f (.int .u64 w :: c)) : Gd kG k 82 [.int .i64 at_, .func f c] :=
  gdStep (k := kG) (op := 0) (a := at_) (x := 0) (y := 0) (fun m => C.f82_1_s C.f87_1) wd0 wd0 next
theorem gStoreG {at_ x : Int} {f : FuncId} {c : List DV} (hx : Wd x) (next : ∀ j, j < k → Gd kG j f c) : Gd kG k 84 [.int .i64 at_, .int .u64 x, .func f c] :=
  gdStep (k := kG) (op := 1) (a := at_) (x := x) (y := 0) (fun m => C.f84_1_s C.f87_1) hx wd0 fun w hw j hj => (next j hj).pass (fun pv_ hq_ m q => by rcases hq_ with ⟨p_, q_, e_, rfl⟩ | ⟨op_, a_, x_, y_, g_, c_, rfl⟩; exact C.f121_1_o q; exact C.f121_1_s q)
theorem gLoadB {at_ : Int} {f : FuncId} {c : List DV} (next : ∀ w, Wd w → ∀ j, j < k → Gd kB j f (.int .u64 w :: c)) : Gd kB k 141 [.int .i64 at_, .func f c] :=
  gdStep (k := kB) (op := 0) (a := at_) (x := 0) (y := 0) (fun m => C.f141_1_s C.f150_1) wd0 wd0 next
def arg1 : DV → DV
  | .agg (_ :: r :: _) => r
  | _ => .any
def arg3 : DV → DV
  | .agg (_ :: p :: q :: e :: _) => .agg [p, q, e]
  | _ => .any
def csOf : DV → List DV
  | .agg cs => cs
  | _ => []
theorem thenIG : ThenOk kI kG arg1 csOf 48 88 where
  over := by
    rintro _ ⟨r_, rfl⟩ f c qv hq m q
    rcases hq with ⟨p_, q_, e_, rfl⟩ | ⟨op_, a_, x_, y_, g_, c_, rfl⟩
    · exact C.f48_1_o q
    · exact C.f48_1_s q
  step := fun op a x y g c f c' m => C.f48_2_s C.f87_1
  clo := by
    intro op a x y g c f c' w q qv hq hqv m h1 h2
    rcases hq with ⟨r_, rfl⟩ | ⟨op_, a_, x_, y_, g_, c_, rfl⟩
    · rcases hqv with ⟨p_, q_, e2_, rfl⟩ | ⟨op2_, a2_, x2_, y2_, g2_, c2_, rfl⟩
      · exact C.f88_1_oo h1 h2
      · exact C.f88_1_os h1 h2
    · rcases hqv with ⟨p_, q_, e2_, rfl⟩ | ⟨op2_, a2_, x2_, y2_, g2_, c2_, rfl⟩
      · exact C.f88_1_so h1 h2
      · exact C.f88_1_ss h1 h2
theorem thenGR : ThenOk kG kR arg3 csOf 24 44 where
  over := by
    rintro _ ⟨p_, q_, e_, rfl⟩ f c qv hq m q
    rcases hq with ⟨e_, v_, rfl⟩ | ⟨op_, a_, x_, y_, g_, c_, rfl⟩
    · exact C.f24_1_o q
    · exact C.f24_1_s q
  step := fun op a x y g c f c' m => C.f24_2_s C.f43_1
  clo := by
    intro op a x y g c f c' w q qv hq hqv m h1 h2
    rcases hq with ⟨p_, q_, e_, rfl⟩ | ⟨op_, a_, x_, y_, g_, c_, rfl⟩
    · rcases hqv with ⟨e2_, v_, rfl⟩ | ⟨op2_, a2_, x2_, y2_, g2_, c2_, rfl⟩
      · exact C.f44_1_oo h1 h2
      · exact C.f44_1_os h1 h2
    · rcases hqv with ⟨e2_, v_, rfl⟩ | ⟨op2_, a2_, x2_, y2_, g2_, c2_, rfl⟩
      · exact C.f44_1_so h1 h2
      · exact C.f44_1_ss h1 h2
theorem thenBI : ThenOk kB kI arg1 csOf 127 132 where
  over := by
    rintro _ ⟨r_, rfl⟩ f c qv hq m q
    rcases hq with ⟨r_, rfl⟩ | ⟨op_, a_, x_, y_, g_, c_, rfl⟩
    · exact C.f127_1_o q
    · exact C.f127_1_s q
  step := fun op a x y g c f c' m => C.f127_2_s f102_1
  clo := by
    intro op a x y g c f c' w q qv hq hqv m h1 h2
    rcases hq with ⟨r_, rfl⟩ | ⟨op_, a_, x_, y_, g_, c_, rfl⟩
    · rcases hqv with ⟨s_, rfl⟩ | ⟨op2_, a2_, x2_, y2_, g2_, c2_, rfl⟩
      · exact C.f132_1_oo h1 h2
      · exact C.f132_1_os h1 h2
    · rcases hqv with ⟨s_, rfl⟩ | ⟨op2_, a2_, x2_, y2_, g2_, c2_, rfl⟩
      · exact C.f132_1_so h1 h2
      · exact C.f132_1_ss h1 h2
theorem thenII : ThenOk kI kI arg1 csOf 136 144 where
  over := by
    rintro _ ⟨r_, rfl⟩ f c qv hq m q
    rcases hq with ⟨r_, rfl⟩ | ⟨op_, a_, x_, y_, g_, c_, rfl⟩
    · exact C.f136_1_o q
    · exact C.f136_1_s q
  step := fun op a x y g c f c' m => C.f136_2_s f102_1
  clo := by
    intro op a x y g c f c' w q qv hq hqv m h1 h2
    rcases hq with ⟨r_, rfl⟩ | ⟨op_, a_, x_, y_, g_, c_, rfl⟩
    · rcases hqv with ⟨s_, rfl⟩ | ⟨op2_, a2_, x2_, y2_, g2_, c2_, rfl⟩
      · exact C.f144_1_oo h1 h2
      · exact C.f144_1_os h1 h2
    · rcases hqv with ⟨s_, rfl⟩ | ⟨op2_, a2_, x2_, y2_, g2_, c2_, rfl⟩
      · exact C.f144_1_so h1 h2
      · exact C.f144_1_ss h1 h2
/-- A call that binds another program's. -/
theorem Gd.bind {kA kB : Kn} {arg : DV → DV} {cs : DV → List DV} {T C : FuncId} (h : ThenOk kA kB arg cs T C) {f g fc : FuncId} {args args' c : List DV} (h1 : Gd kA k f args) (h2 : ∀ qv, kA.O qv → ∀ j, j ≤ k → Gd kB j fc (arg qv :: c))
    (hp : ∀ pv qv, kA.Is pv → kB.Is qv → ∀ m, CallOk Tryz.prog f args m pv m false [] → CallOk Tryz.prog T [pv, .func fc c] m qv m false [] → CallOk Tryz.prog g args' m qv m false []) : Gd kB k g args' := by
  obtain ⟨pv, c1, g1⟩ := h1
  exact (thenGd h k pv g1 fc c h2).pass fun qv hq m q => hp pv qv g1.is hq m (c1 m) q
end Go.Proofs.YtkhjkfbgcpjphaaGreat.Fun
