/- The programs that check.New is made of are good for as many steps as one likes. -/
import Derived.Test.YtkhjkfbgcpjphaaGreatRD51
namespace Go.Proofs.YtkhjkfbgcpjphaaGreat.Fun
open Go Go.Proofs.YtkhjkfbgcpjphaaGreat.Fun.B
set_option linter.unusedVariables false
section
variable {n t r d b g : Int} (h : PF n t r d b g)
theorem node90 (m : Mu) : CallOk Tryz.prog 90 [] m (.agg [.int .i64 0, .int .i64 21]) m false [] := d90_1 m
theorem get91 (w : Int) : ∃ v, Wd v ∧ ∀ m : Mu, CallOk Tryz.prog 91 [.agg [.int .i64 0, .int .i64 21], .int .u64 w] m (.int .u64 v) m false [] :=
  ⟨IntKind.u64.wrap (BitVec.ofInt IntKind.u64.bits (Int.fdiv w (2 ^ (min (0 : Int).toNat IntKind.u64.bits))) &&& BitVec.ofInt IntKind.u64.bits 2097151).toNat, wd_u64 _, fun m => callOk_sdeep (deep_ok Auto.tabOk mixed Auto.fnsOk 1000 30) (sc := []) (obs := []) (by kernel_rfl) (by simp) rfl rfl m⟩
theorem link77 (q : Int) (m : Mu) : CallOk Tryz.prog 77 [.int .i64 q] m (.int .u64 (IntKind.u64.wrap (IntKind.i64.wrap (q + 1)))) m false [] := f77_1
include h
/-- free.Pop. -/
theorem gPop : ∀ k : Nat, Gd kI k 49 [pl n t r d b g] := by
  intro k
  induction k using Nat.strongRecOn with
  | ind k ih =>
  refine (gLoadI (k := k) (at_ := 0) (f := 89) (c := [.ptr (pls n t r d b g)]) fun w hw j hj => ?_).pass (fun pv_ hq_ m q => by rcases hq_ with ⟨r_, rfl⟩ | ⟨op_, a_, x_, y_, g_, c_, rfl⟩; exact C.f49_1_o (head60 h m) q; exact C.f49_1_s (head60 h m) q)
  obtain ⟨v, hv, c91⟩ := get91 w
  cases hneg : decide (((IntKind.i64.wrap ((IntKind.i64.wrap v) - 1)) : Int) < 0) with
  | true => exact (gDoneI (k := j) (-1)).pass (fun pv_ hq_ m q => by rcases hq_ with ⟨r_, rfl⟩ | ⟨op_, a_, x_, y_, g_, c_, rfl⟩; exact C.f89_2_o (node90 m) (c91 m) hneg q; exact C.f89_2_s (node90 m) (c91 m) hneg q)
  | false =>
    obtain ⟨at2, c79⟩ := tot79 h (IntKind.i64.wrap ((IntKind.i64.wrap v) - 1))
    refine (gLoadI (k := j) (at_ := at2) (f := 93) (c := [.ptr (pls n t r d b g), .ptr [.int .u64 w], .ptr [.int .i64 (IntKind.i64.wrap ((IntKind.i64.wrap v) - 1))]]) fun w2 hw2 j2 hj2 => ?_).pass (fun pv_ hq_ m q => by rcases hq_ with ⟨r_, rfl⟩ | ⟨op_, a_, x_, y_, g_, c_, rfl⟩; exact C.f89_1_o (node90 m) (c91 m) hneg (c79 m) q; exact C.f89_1_s (node90 m) (c91 m) hneg (c79 m) q)
    obtain ⟨x, hx, c95⟩ := C.tot95 w w2
    refine (gSwapI (k := j2) (at_ := 0) (x := w) (y := x) (f := 96) (c := [.ptr (pls n t r d b g), .ptr [.int .i64 (IntKind.i64.wrap ((IntKind.i64.wrap v) - 1))]]) hw hx fun ok j3 hj3 => ?_).pass (fun pv_ hq_ m q => by rcases hq_ with ⟨r_, rfl⟩ | ⟨op_, a_, x_, y_, g_, c_, rfl⟩; exact C.f93_1_o (head60 h m) (c95 m) q; exact C.f93_1_s (head60 h m) (c95 m) q)
    cases ok with
    | true => exact (gDoneI (k := j3) _).pass (fun pv_ hq_ m q => by rcases hq_ with ⟨r_, rfl⟩ | ⟨op_, a_, x_, y_, g_, c_, rfl⟩; exact C.f96_1_o rfl q; exact C.f96_1_s rfl q)
    | false => exact (ih j3 (by omega)).pass (fun pv_ hq_ m q => by rcases hq_ with ⟨r_, rfl⟩ | ⟨op_, a_, x_, y_, g_, c_, rfl⟩; exact C.f96_2_o rfl q; exact C.f96_2_s rfl q)
/-- free.Push. -/
theorem gPush : ∀ (k : Nat) (q : Int), Gd kI k 149 [pl n t r d b g, .int .i64 q] := by
  intro k
  induction k using Nat.strongRecOn with
  | ind k ih =>
  intro q
  obtain ⟨at2, c79⟩ := tot79 h q
  cases hno : (at2 == (-1 : Int)) with
  | true => exact (gDoneI (k := k) (-1)).pass (fun pv_ hq_ m q => by rcases hq_ with ⟨r_, rfl⟩ | ⟨op_, a_, x_, y_, g_, c_, rfl⟩; exact C.f149_2_o (c79 m) hno q; exact C.f149_2_s (c79 m) hno q)
  | false =>
    refine (gLoadI (k := k) (at_ := 0) (f := 152) (c := [.ptr (pls n t r d b g), .ptr [.int .i64 q]]) fun w hw j hj => ?_).pass (fun pv_ hq_ m q => by rcases hq_ with ⟨r_, rfl⟩ | ⟨op_, a_, x_, y_, g_, c_, rfl⟩; exact C.f149_1_o (c79 m) hno (head60 h m) q; exact C.f149_1_s (c79 m) hno (head60 h m) q)
    obtain ⟨v, hv, c91⟩ := get91 w
    refine (gStoreI (k := j) (at_ := at2) (x := v) (f := 153) (c := [.ptr (pls n t r d b g), .ptr [.int .u64 w], .ptr [.int .i64 q]]) hv fun j2 hj2 => ?_).pass (fun pv_ hq_ m q => by rcases hq_ with ⟨r_, rfl⟩ | ⟨op_, a_, x_, y_, g_, c_, rfl⟩; exact C.f152_1_o (c79 m) (node90 m) (c91 m) q; exact C.f152_1_s (c79 m) (node90 m) (c91 m) q)
    obtain ⟨x, hx, c95⟩ := C.tot95 w (IntKind.u64.wrap (IntKind.i64.wrap (q + 1)))
    refine (gSwapI (k := j2) (at_ := 0) (x := w) (y := x) (f := 154) (c := [.ptr (pls n t r d b g), .ptr [.int .i64 q]]) hw hx fun ok j3 hj3 => ?_).pass (fun pv_ hq_ m q => by rcases hq_ with ⟨r_, rfl⟩ | ⟨op_, a_, x_, y_, g_, c_, rfl⟩; exact C.f153_1_o (head60 h m) (link77 _ m) (c95 m) q; exact C.f153_1_s (head60 h m) (link77 _ m) (c95 m) q)
    cases ok with
    | true => exact (gDoneI (k := j3) q).pass (fun pv_ hq_ m q => by rcases hq_ with ⟨r_, rfl⟩ | ⟨op_, a_, x_, y_, g_, c_, rfl⟩; exact C.f154_1_o rfl q; exact C.f154_1_s rfl q)
    | false => exact (ih j3 (by omega) q).pass (fun pv_ hq_ m q => by rcases hq_ with ⟨r_, rfl⟩ | ⟨op_, a_, x_, y_, g_, c_, rfl⟩; exact C.f154_2_o rfl q; exact C.f154_2_s rfl q)
/-- retire.zero. -/
theorem gZero {f : FuncId} {c : List DV} (q : Int) : ∀ (k : Nat), (∀ j, j ≤ k → Gd kI j f c) → ∀ e : Int, Gd kI k 145 [pl n t r d b g, .int .i64 q, .int .i64 e, .func f c] := by
  intro k
  induction k using Nat.strongRecOn with
  | ind k ih =>
  intro hf e
  cases he : (e == (3 : Int)) with
  | true => exact (hf k (Nat.le_refl _)).pass (fun pv_ hq_ m q => by rcases hq_ with ⟨r_, rfl⟩ | ⟨op_, a_, x_, y_, g_, c_, rfl⟩; exact C.f145_2_o he q; exact C.f145_2_s he q)
  | false =>
    obtain ⟨at2, c112⟩ := tot112 h q e
    refine (gStoreI (k := k) (at_ := at2) (x := 0) (f := 151) (c := [.ptr (pls n t r d b g), .ptr [.int .i64 q], .ptr [.int .i64 e], .ptr [.func f c]]) wd0 fun j hj => ?_).pass (fun pv_ hq_ m q => by rcases hq_ with ⟨r_, rfl⟩ | ⟨op_, a_, x_, y_, g_, c_, rfl⟩; exact C.f145_1_o he (c112 m) q; exact C.f145_1_s he (c112 m) q)
    exact (ih j hj (fun j2 hj2 => hf j2 (by omega)) (IntKind.i64.wrap (e + 1))).pass (fun pv_ hq_ m q => by rcases hq_ with ⟨r_, rfl⟩ | ⟨op_, a_, x_, y_, g_, c_, rfl⟩; exact C.f151_1_o q; exact C.f151_1_s q)
/-- retire.Reclaim. -/
theorem gReclaim (k : Nat) (q : Int) : Gd kI k 137 [pl n t r d b g, .int .i64 q] := by
  refine (gZero h (f := 146) (c := [.ptr (pls n t r d b g), .ptr [.int .i64 q]]) q k (fun j hj => ?_) 0).pass (fun pv_ hq_ m q => by rcases hq_ with ⟨r_, rfl⟩ | ⟨op_, a_, x_, y_, g_, c_, rfl⟩; exact C.f137_1_o q; exact C.f137_1_s q)
  obtain ⟨at2, c68⟩ := tot68 h q
  refine (gLoadI (k := j) (at_ := at2) (f := 147) (c := [.ptr (pls n t r d b g), .ptr [.int .i64 q]]) fun w hw j2 hj2 => ?_).pass (fun pv_ hq_ m q => by rcases hq_ with ⟨r_, rfl⟩ | ⟨op_, a_, x_, y_, g_, c_, rfl⟩; exact C.f146_1_o (c68 m) q; exact C.f146_1_s (c68 m) q)
  obtain ⟨s0, s1, s2, o, b0, b1, c70⟩ : ∃ (s0 s1 s2 : Int) (o : Bool), 0 ≤ s0 ∧ s0 ≤ 1073741823 ∧ ∀ m, CallOk Tryz.prog 70 [.int .u64 w] m (.tup [.agg [.int .i64 s0, .int .i64 s1, .int .i64 s2], .bool o]) m false [] := by
    have hin := st_in w
    by_cases hs : stOk? w = true
    · exact ⟨_, _, _, _, hin.1, hin.2.1, fun m => of81y hw hs m⟩
    · exact ⟨_, _, _, _, by omega, by omega, fun m => of81n hw hs m⟩
  have hfi := fr_in (g := g) (a := s0) h.hg.2 b0 b1
  refine (gStoreI (k := j2) (at_ := at2) (x := (fr g s0).1 + (fr g s0).2.1 * 1073741824 + (fr g s0).2.2 * 4294967296) (f := 148) (c := [.ptr [.int .i64 (fr g s0).1, .int .i64 (fr g s0).2.1, .int .i64 (fr g s0).2.2], .ptr (pls n t r d b g), .ptr [.int .i64 q]]) ⟨by omega, by omega⟩ fun j3 hj3 => ?_).pass (fun pv_ hq_ m q => by rcases hq_ with ⟨r_, rfl⟩ | ⟨op_, a_, x_, y_, g_, c_, rfl⟩; exact C.f147_1_o (c70 m) (freed82 b0 b1 s1 s2 m) (c68 m) (word83 hfi.1 hfi.2.1 hfi.2.2.1 hfi.2.2.2.1 (by omega) (by omega) m) q; exact C.f147_1_s (c70 m) (freed82 b0 b1 s1 s2 m) (c68 m) (word83 hfi.1 hfi.2.1 hfi.2.2.1 hfi.2.2.2.1 (by omega) (by omega) m) q)
  cases hg : ((fr g s0).2.1 == (3 : Int)) with
  | true => exact (gDoneI (k := j3) (-1)).pass (fun pv_ hq_ m q => by rcases hq_ with ⟨r_, rfl⟩ | ⟨op_, a_, x_, y_, g_, c_, rfl⟩; exact C.f148_2_o hg q; exact C.f148_2_s hg q)
  | false => exact (gPush h j3 q).pass (fun pv_ hq_ m q => by rcases hq_ with ⟨r_, rfl⟩ | ⟨op_, a_, x_, y_, g_, c_, rfl⟩; exact C.f148_1_o hg q; exact C.f148_1_s hg q)
/-- hazard.held. -/
theorem gHeld (q : Int) : ∀ (k : Nat) (i : Int), Gd kB k 133 [pl n t r d b g, .int .i64 q, .int .i64 i] := by
  intro k
  induction k using Nat.strongRecOn with
  | ind k ih =>
  intro i
  cases he : (i == IntKind.i64.wrap (t * 3)) with
  | true => exact (gDoneB (k := k) false).pass (fun pv_ hq_ m q => by rcases hq_ with ⟨r_, rfl⟩ | ⟨op_, a_, x_, y_, g_, c_, rfl⟩; exact C.f133_2_o he q; exact C.f133_2_s he q)
  | false =>
    obtain ⟨at2, c62⟩ := tot62 h (IntKind.i64.wrap (Int.tdiv i 3)) (Int.tmod i 3)
    refine (gLoadB (k := k) (at_ := at2) (f := 142) (c := [.ptr [.int .i64 q], .ptr (pls n t r d b g), .ptr [.int .i64 i]]) fun w hw j hj => ?_).pass (fun pv_ hq_ m q => by rcases hq_ with ⟨r_, rfl⟩ | ⟨op_, a_, x_, y_, g_, c_, rfl⟩; exact C.f133_1_o he (c62 m) q; exact C.f133_1_s he (c62 m) q)
    obtain ⟨v, hv, c143⟩ := C.tot143 q
    cases hw2 : (w == v) with
    | true => exact (gDoneB (k := j) true).pass (fun pv_ hq_ m q => by rcases hq_ with ⟨r_, rfl⟩ | ⟨op_, a_, x_, y_, g_, c_, rfl⟩; exact C.f142_2_o (c143 m) hw2 q; exact C.f142_2_s (c143 m) hw2 q)
    | false => exact (ih j hj (IntKind.i64.wrap (i + 1))).pass (fun pv_ hq_ m q => by rcases hq_ with ⟨r_, rfl⟩ | ⟨op_, a_, x_, y_, g_, c_, rfl⟩; exact C.f142_1_o (c143 m) hw2 q; exact C.f142_1_s (c143 m) hw2 q)
/-- retire.scanned, with retire.removed. -/
theorem gScanned : ∀ (k : Nat) (a l z : Int), Gd kI k 98 [pl n t r d b g, .int .i64 0, .agg [.int .i64 a, .int .i64 l, .int .i64 z]] := by
  intro k
  induction k using Nat.strongRecOn with
  | ind k ih =>
  intro a l z
  have ht := h.ht
  have removed : ∀ j, j < k → ∀ q : Int, Gd kI j 130 [pl n t r d b g, .int .i64 0, .agg [.int .i64 a, .int .i64 l, .int .i64 z], .int .i64 q] := by
    intro j hj q
    have gone : ∀ j2, j2 ≤ j → Gd kI j2 134 [.ptr (pls n t r d b g), .ptr [.int .i64 0], .ptr [.int .i64 (IntKind.i64.wrap (l - 1))], .ptr [.int .i64 q], .ptr [.int .i64 a, .int .i64 l, .int .i64 z]] := by
      intro j2 hj2
      refine (gStoreI (k := j2) (at_ := ctP t d b + 0 * (1 + r)) (x := IntKind.u64.wrap (IntKind.i64.wrap (l - 1))) (f := 135) (c := [.ptr (pls n t r d b g), .ptr [.int .i64 q], .ptr [.int .i64 0], .ptr [.int .i64 a, .int .i64 l, .int .i64 z], .ptr [.int .i64 (IntKind.i64.wrap (l - 1))]]) (wd_u64 _) fun j3 hj3 => ?_).pass (fun pv_ hq_ m q => by rcases hq_ with ⟨r_, rfl⟩ | ⟨op_, a_, x_, y_, g_, c_, rfl⟩; exact C.f134_1_o (count74 h (k := 0) (by omega) (by omega) m) q; exact C.f134_1_s (count74 h (k := 0) (by omega) (by omega) m) q)
      refine Gd.bind thenII (fc := 138) (c := [.ptr (pls n t r d b g), .ptr [.int .i64 0], .ptr [.int .i64 a, .int .i64 l, .int .i64 z], .ptr [.int .i64 (IntKind.i64.wrap (l - 1))]]) (gReclaim h j3 q) (fun qv ho j4 hj4 => ?_) (fun pv_ qv_ hp_ hq_ m q1 q2 => by rcases hp_ with ⟨r_, rfl⟩ | ⟨op_, a_, x_, y_, g_, c_, rfl⟩ <;> rcases hq_ with ⟨r2_, rfl⟩ | ⟨op2_, a2_, x2_, y2_, g2_, c2_, rfl⟩; exact C.f135_1_oo q1 q2; exact C.f135_1_os q1 q2; exact C.f135_1_so q1 q2; exact C.f135_1_ss q1 q2)
      obtain ⟨rv, rfl⟩ := ho
      exact (ih j4 (by omega) _ _ _).pass (fun pv_ hq_ m q => by rcases hq_ with ⟨r_, rfl⟩ | ⟨op_, a_, x_, y_, g_, c_, rfl⟩; exact C.f138_1_o q; exact C.f138_1_s q)
    cases hl : (a == IntKind.i64.wrap (l - 1)) with
    | true => exact (gone j (Nat.le_refl _)).pass (fun pv_ hq_ m q => by rcases hq_ with ⟨r_, rfl⟩ | ⟨op_, a_, x_, y_, g_, c_, rfl⟩; exact C.f130_2_o hl q; exact C.f130_2_s hl q)
    | false =>
      obtain ⟨at2, c125⟩ := tot125 h 0 (IntKind.i64.wrap (l - 1))
      obtain ⟨at3, c125b⟩ := tot125 h 0 a
      refine (gLoadI (k := j) (at_ := at2) (f := 139) (c := [.ptr (pls n t r d b g), .ptr [.int .i64 0], .ptr [.int .i64 a, .int .i64 l, .int .i64 z], .ptr [.func 134 [.ptr (pls n t r d b g), .ptr [.int .i64 0], .ptr [.int .i64 (IntKind.i64.wrap (l - 1))], .ptr [.int .i64 q], .ptr [.int .i64 a, .int .i64 l, .int .i64 z]]]]) fun w hw j2 hj2 => ?_).pass (fun pv_ hq_ m q => by rcases hq_ with ⟨r_, rfl⟩ | ⟨op_, a_, x_, y_, g_, c_, rfl⟩; exact C.f130_1_o hl (c125 m) q; exact C.f130_1_s hl (c125 m) q)
      exact (gStoreI (k := j2) (at_ := at3) (x := w) hw fun j3 hj3 => gone j3 (by omega)).pass (fun pv_ hq_ m q => by rcases hq_ with ⟨r_, rfl⟩ | ⟨op_, a_, x_, y_, g_, c_, rfl⟩; exact C.f139_1_o (c125b m) q; exact C.f139_1_s (c125b m) q)
  cases ha : decide ((a : Int) < 0) with
  | true => exact (gDoneI (k := k) z).pass (fun pv_ hq_ m q => by rcases hq_ with ⟨r_, rfl⟩ | ⟨op_, a_, x_, y_, g_, c_, rfl⟩; exact C.f98_2_o ha q; exact C.f98_2_s ha q)
  | false =>
    obtain ⟨at2, c125⟩ := tot125 h 0 a
    refine (gLoadI (k := k) (at_ := at2) (f := 126) (c := [.ptr (pls n t r d b g), .ptr [.int .i64 0], .ptr [.int .i64 (IntKind.i64.wrap (a - 1)), .int .i64 l, .int .i64 z], .ptr [.int .i64 a, .int .i64 l, .int .i64 z]]) fun w hw j hj => ?_).pass (fun pv_ hq_ m q => by rcases hq_ with ⟨r_, rfl⟩ | ⟨op_, a_, x_, y_, g_, c_, rfl⟩; exact C.f98_1_o ha (c125 m) q; exact C.f98_1_s ha (c125 m) q)
    cases h1 : decide ((w : Int) < 1) with
    | true => exact (ih j hj _ _ _).pass (fun pv_ hq_ m q => by rcases hq_ with ⟨r_, rfl⟩ | ⟨op_, a_, x_, y_, g_, c_, rfl⟩; exact C.f126_3_o h1 q; exact C.f126_3_s h1 q)
    | false =>
      cases h2 : decide ((w : Int) > (IntKind.u64.wrap n)) with
      | true => exact (ih j hj _ _ _).pass (fun pv_ hq_ m q => by rcases hq_ with ⟨r_, rfl⟩ | ⟨op_, a_, x_, y_, g_, c_, rfl⟩; exact C.f126_2_o h1 h2 q; exact C.f126_2_s h1 h2 q)
      | false =>
        refine Gd.bind thenBI (f := 128) (args := [pl n t r d b g, .int .i64 (IntKind.i64.wrap ((IntKind.i64.wrap w) - 1))]) (fc := 129) (c := [.ptr (pls n t r d b g), .ptr [.int .i64 0], .ptr [.int .i64 (IntKind.i64.wrap (a - 1)), .int .i64 l, .int .i64 z], .ptr [.int .i64 a, .int .i64 l, .int .i64 z], .ptr [.int .u64 w]]) ((gHeld h _ j 0).pass (fun pv_ hq_ m q => by rcases hq_ with ⟨r_, rfl⟩ | ⟨op_, a_, x_, y_, g_, c_, rfl⟩; exact C.f128_1_o q; exact C.f128_1_s q)) (fun qv ho j2 hj2 => ?_) (fun pv_ qv_ hp_ hq_ m q1 q2 => by rcases hp_ with ⟨r_, rfl⟩ | ⟨op_, a_, x_, y_, g_, c_, rfl⟩ <;> rcases hq_ with ⟨r2_, rfl⟩ | ⟨op2_, a2_, x2_, y2_, g2_, c2_, rfl⟩; exact C.f126_1_oo h1 h2 q1 q2; exact C.f126_1_os h1 h2 q1 q2; exact C.f126_1_so h1 h2 q1 q2; exact C.f126_1_ss h1 h2 q1 q2)
        obtain ⟨rv, rfl⟩ := ho
        cases rv with
        | true => exact (ih j2 (by omega) _ _ _).pass (fun pv_ hq_ m q => by rcases hq_ with ⟨r_, rfl⟩ | ⟨op_, a_, x_, y_, g_, c_, rfl⟩; exact C.f129_2_o rfl q; exact C.f129_2_s rfl q)
        | false => exact (removed j2 (by omega) _).pass (fun pv_ hq_ m q => by rcases hq_ with ⟨r_, rfl⟩ | ⟨op_, a_, x_, y_, g_, c_, rfl⟩; exact C.f129_1_o rfl q; exact C.f129_1_s rfl q)
/-- retire.Scan. -/
theorem gScan (k : Nat) : Gd kI k 51 [pl n t r d b g, .int .i64 0] := by
  have ht := h.ht
  refine (gLoadI (k := k) (at_ := ctP t d b + 0 * (1 + r)) (f := 97) (c := [.ptr (pls n t r d b g), .ptr [.int .i64 0]]) fun w hw j hj => ?_).pass (fun pv_ hq_ m q => by rcases hq_ with ⟨r_, rfl⟩ | ⟨op_, a_, x_, y_, g_, c_, rfl⟩; exact C.f51_1_o (count74 h (k := 0) (by omega) (by omega) m) q; exact C.f51_1_s (count74 h (k := 0) (by omega) (by omega) m) q)
  exact (gScanned h j _ _ _).pass (fun pv_ hq_ m q => by rcases hq_ with ⟨r_, rfl⟩ | ⟨op_, a_, x_, y_, g_, c_, rfl⟩; exact C.f97_1_o q; exact C.f97_1_s q)
/-- alloc.grant. -/
theorem gGrant (k : Nat) (q : Int) : Gd kG k 47 [pl n t r d b g, .int .i64 q, .int .i64 0] := by
  obtain ⟨at2, c68⟩ := tot68 h q
  refine (gLoadG (k := k) (at_ := at2) (f := 83) (c := [.ptr (pls n t r d b g), .ptr [.int .i64 q], .ptr [.int .i64 0]]) fun w hw j hj => ?_).pass (fun pv_ hq_ m q => by rcases hq_ with ⟨p_, q_, e_, rfl⟩ | ⟨op_, a_, x_, y_, g_, c_, rfl⟩; exact C.f47_1_o (c68 m) q; exact C.f47_1_s (c68 m) q)
  obtain ⟨s0, s1, s2, o, b0, b1, c70⟩ : ∃ (s0 s1 s2 : Int) (o : Bool), 0 ≤ s0 ∧ s0 ≤ 1073741823 ∧ ∀ m, CallOk Tryz.prog 70 [.int .u64 w] m (.tup [.agg [.int .i64 s0, .int .i64 s1, .int .i64 s2], .bool o]) m false [] := by
    have hin := st_in w
    by_cases hs : stOk? w = true
    · exact ⟨_, _, _, _, hin.1, hin.2.1, fun m => of81y hw hs m⟩
    · exact ⟨_, _, _, _, by omega, by omega, fun m => of81n hw hs m⟩
  refine (gStoreG (k := j) (at_ := at2) (x := s0 + 1 * 1073741824 + 0 * 4294967296) (f := 86) (c := [.ptr [.int .i64 q], .ptr [.int .i64 s0, .int .i64 s1, .int .i64 s2]]) ⟨by omega, by omega⟩ fun j2 hj2 => ?_).pass (fun pv_ hq_ m q => by rcases hq_ with ⟨p_, q_, e_, rfl⟩ | ⟨op_, a_, x_, y_, g_, c_, rfl⟩; exact C.f83_1_o (c70 m) (c68 m) (C.d85_1 m) (word83 b0 b1 (by omega) (by omega) (by omega) (by omega) m) q; exact C.f83_1_s (c70 m) (c68 m) (C.d85_1 m) (word83 b0 b1 (by omega) (by omega) (by omega) (by omega) m) q)
  exact (gDoneG (k := j2) _ _ _).pass (fun pv_ hq_ m q => by rcases hq_ with ⟨p_, q_, e_, rfl⟩ | ⟨op_, a_, x_, y_, g_, c_, rfl⟩; exact C.f86_1_o q; exact C.f86_1_s q)
/-- alloc.New. -/
theorem gAlloc (k : Nat) : Gd kG k 25 [pl n t r d b g, .int .i64 0, .int .i64 0] := by
  refine Gd.bind thenIG (f := 49) (args := [pl n t r d b g]) (fc := 50) (c := [.ptr (pls n t r d b g), .ptr [.int .i64 0], .ptr [.int .i64 0], .ptr [.func 45 [.ptr (pls n t r d b g), .ptr [.int .i64 0]]]]) (gPop h k) (fun qv ho j hj => ?_) (fun pv_ qv_ hp_ hq_ m q1 q2 => by rcases hp_ with ⟨r_, rfl⟩ | ⟨op_, a_, x_, y_, g_, c_, rfl⟩ <;> rcases hq_ with ⟨p2_, q2_, e2_, rfl⟩ | ⟨op2_, a2_, x2_, y2_, g2_, c2_, rfl⟩; exact C.f25_1_oo q1 q2; exact C.f25_1_os q1 q2; exact C.f25_1_so q1 q2; exact C.f25_1_ss q1 q2)
  obtain ⟨rv, rfl⟩ := ho
  cases hr : (rv != (-1 : Int)) with
  | true => exact (gGrant h j rv).pass (fun pv_ hq_ m q => by rcases hq_ with ⟨p_, q_, e_, rfl⟩ | ⟨op_, a_, x_, y_, g_, c_, rfl⟩; exact C.f50_2_o hr q; exact C.f50_2_s hr q)
  | false =>
    refine Gd.bind thenIG (f := 51) (args := [pl n t r d b g, .int .i64 0]) (fc := 52) (c := [.ptr (pls n t r d b g), .ptr [.func 45 [.ptr (pls n t r d b g), .ptr [.int .i64 0]]]]) (gScan h j) (fun qv ho j2 hj2 => ?_) (fun pv_ qv_ hp_ hq_ m q1 q2 => by rcases hp_ with ⟨r_, rfl⟩ | ⟨op_, a_, x_, y_, g_, c_, rfl⟩ <;> rcases hq_ with ⟨p2_, q2_, e2_, rfl⟩ | ⟨op2_, a2_, x2_, y2_, g2_, c2_, rfl⟩; exact C.f50_1_oo hr q1 q2; exact C.f50_1_os hr q1 q2; exact C.f50_1_so hr q1 q2; exact C.f50_1_ss hr q1 q2)
    obtain ⟨r2, rfl⟩ := ho
    refine Gd.bind thenIG (f := 49) (args := [pl n t r d b g]) (fc := 45) (c := [.ptr (pls n t r d b g), .ptr [.int .i64 0]]) (gPop h j2) (fun qv ho j3 hj3 => ?_) (fun pv_ qv_ hp_ hq_ m q1 q2 => by rcases hp_ with ⟨r_, rfl⟩ | ⟨op_, a_, x_, y_, g_, c_, rfl⟩ <;> rcases hq_ with ⟨p2_, q2_, e2_, rfl⟩ | ⟨op2_, a2_, x2_, y2_, g2_, c2_, rfl⟩; exact C.f52_1_oo q1 q2; exact C.f52_1_os q1 q2; exact C.f52_1_so q1 q2; exact C.f52_1_ss q1 q2)
    obtain ⟨r3, rfl⟩ := ho
    cases hr3 : (r3 == (-1 : Int)) with
    | true => exact (gDoneG (k := j3) _ _ _).pass (fun pv_ hq_ m q => by rcases hq_ with ⟨p_, q_, e_, rfl⟩ | ⟨op_, a_, x_, y_, g_, c_, rfl⟩; exact C.f45_2_o hr3 q; exact C.f45_2_s hr3 q)
    | false => exact (gGrant h j3 r3).pass (fun pv_ hq_ m q => by rcases hq_ with ⟨p_, q_, e_, rfl⟩ | ⟨op_, a_, x_, y_, g_, c_, rfl⟩; exact C.f45_1_o hr3 q; exact C.f45_1_s hr3 q)
/-- check.New, of the first tenant's first thread. -/
theorem gNew (k : Nat) : Gd kR k 8 [.agg [.int .i64 n, .int .i64 t, .int .i64 r, .int .i64 d, .int .i64 b, .int .i64 g, .int .i64 0, .int .i64 0]] := by
  have ht := h.ht
  have c22 : ∀ m, CallOk Tryz.prog 22 [.agg [.int .i64 n, .int .i64 t, .int .i64 r, .int .i64 d, .int .i64 b, .int .i64 g, .int .i64 0, .int .i64 0]] m (.bool true) m false [] := fun m => by
    have := C.f22_5 (formed37 h m) rfl (decide_eq_true (by omega)) (decide_eq_true (by omega)) (decide_eq_true (by omega)) (a0_6 := 0) (a0_7 := 0)
    rwa [decide_eq_true (by omega : (0 : Int) < t)] at this
  refine Gd.bind thenGR (f := 25) (args := [pl n t r d b g, .int .i64 0, .int .i64 0]) (fc := 26) (c := [.ptr [.int .i64 n, .int .i64 t, .int .i64 r, .int .i64 d, .int .i64 b, .int .i64 g, .int .i64 0, .int .i64 0]]) (gAlloc h k) (fun qv ho j hj => ?_) (fun pv_ qv_ hp_ hq_ m q1 q2 => by rcases hp_ with ⟨p_, q_, e_, rfl⟩ | ⟨op_, a_, x_, y_, g_, c_, rfl⟩ <;> rcases hq_ with ⟨e2_, v2_, rfl⟩ | ⟨op2_, a2_, x2_, y2_, g2_, c2_, rfl⟩; exact C.f8_1_oo (c22 m) rfl q1 q2; exact C.f8_1_os (c22 m) rfl q1 q2; exact C.f8_1_so (c22 m) rfl q1 q2; exact C.f8_1_ss (c22 m) rfl q1 q2)
  obtain ⟨p, q, e, rfl⟩ := ho
  cases he : (e != (0 : Int)) with
  | true => exact ((gDoneR (k := j) _ _).pass (g := 23) (args' := [.int .i64 e]) (fun pv_ hq_ m q => by rcases hq_ with ⟨e_, v_, rfl⟩ | ⟨op_, a_, x_, y_, g_, c_, rfl⟩; exact C.f23_1_o q; exact C.f23_1_s q)).pass (fun pv_ hq_ m q => by rcases hq_ with ⟨e_, v_, rfl⟩ | ⟨op_, a_, x_, y_, g_, c_, rfl⟩; exact C.f26_2_o he q; exact C.f26_2_s he q)
  | false =>
    obtain ⟨v, hv, c28⟩ := C.tot28 p q 0
    exact ((gDoneR (k := j) _ _).pass (g := 27) (args' := [.int .u64 v]) (fun pv_ hq_ m q => by rcases hq_ with ⟨e_, v_, rfl⟩ | ⟨op_, a_, x_, y_, g_, c_, rfl⟩; exact C.f27_1_o q; exact C.f27_1_s q)).pass (fun pv_ hq_ m q => by rcases hq_ with ⟨e_, v_, rfl⟩ | ⟨op_, a_, x_, y_, g_, c_, rfl⟩; exact C.f26_1_o he (c28 m) q; exact C.f26_1_s he (c28 m) q)
end
end Go.Proofs.YtkhjkfbgcpjphaaGreat.Fun
