/- Sums of decode.Of and of the document's layer 18 (printed by wip/decw.py). -/
import Derived.Test.YtehihnapbpcfbaaGreatSums
namespace Go.Proofs.YtehihnapbpcfbaaGreat.Fun
open Go
set_option linter.unusedVariables false
abbrev n_cubicleref18_eight : FuncId := 80
abbrev n_cubicleref18_word : FuncId := 81
abbrev n_cubicleref18_Formed : FuncId := 32
abbrev n_cubicleref18_Bytes : FuncId := 29
abbrev n_cubicleref18_Of : FuncId := 31
abbrev n_decode_Of : FuncId := 70
theorem ixA {s : ByteArray} {n k : Nat} (h : decide ((((lenS s : Nat) : Int) : Int) < (n : Int)) = false) (hk : k + 1 ≤ n) : decide ((0 : Int) ≤ (k : Int) ∧ ((k : Int) : Int) < (lenS s : Int)) = true := by
  have := of_decide_eq_false h; exact decide_eq_true (by omega)
theorem cutA {s : ByteArray} {n k : Nat} (h : decide ((((lenS s : Nat) : Int) : Int) < (n : Int)) = false) (hk : k ≤ n) : decide ((0 : Int) ≤ (k : Int) ∧ ((k : Int) : Int) ≤ ((lenS s : Nat) : Int) ∧ (((lenS s : Nat) : Int) : Int) ≤ (lenS s : Int)) = true := by
  have := of_decide_eq_false h; exact decide_eq_true (by omega)
theorem ixB {s : ByteArray} {k : Nat} (h : decide (((k : Int) : Int) < ((lenS s : Nat) : Int)) = true) : decide ((0 : Int) ≤ (k : Int) ∧ ((k : Int) : Int) < (lenS s : Int)) = true := by
  have := of_decide_eq_true h; exact decide_eq_true (by omega)
theorem ixC {s : ByteArray} (h : ((((lenS s : Nat) : Int) : Int) == 0) = false) : decide ((0 : Int) ≤ 0 ∧ (0 : Int) < (lenS s : Int)) = true := by
  have := beq_eq_false_iff_ne.1 h; exact decide_eq_true (by omega)
theorem ixF {x : UInt8} {l : List UInt8} : decide ((0 : Int) ≤ 0 ∧ (0 : Int) < (lenS ⟨⟨x :: l⟩⟩ : Int)) = true := decide_eq_true (by simp only [lenS, List.length_cons]; omega)
theorem cutF {x : UInt8} {l : List UInt8} : decide ((0 : Int) ≤ 1 ∧ (1 : Int) ≤ ((lenS ⟨⟨x :: l⟩⟩ : Nat) : Int) ∧ (((lenS ⟨⟨x :: l⟩⟩ : Nat) : Int) : Int) ≤ (lenS ⟨⟨x :: l⟩⟩ : Int)) = true := decide_eq_true (by simp only [lenS, List.length_cons]; omega)
theorem lenF {x : UInt8} {l : List UInt8} : decide ((((lenS ⟨⟨x :: l⟩⟩ : Nat) : Int) : Int) < 1) = false := decide_eq_false (by simp only [lenS, List.length_cons]; omega)
theorem lenG {x : UInt8} {l : List UInt8} : ((((lenS ⟨⟨x :: l⟩⟩ : Nat) : Int) : Int) == 0) = false := beq_eq_false_iff_ne.2 (by simp only [lenS, List.length_cons]; omega)
def sumd0 : Sums := sumsL []
theorem sumd0_ok : SumsOk Tryz.prog sumd0 := sumsL_nil
theorem dOk0 {f : FuncId} {ds : List DV} {d : DV} {obs : List Ob} (ms : List Mk) (hob : ∀ x ∈ obs, x.ok Tryz.prog) (hds : bareL ds = true) (hd : d.bare = true) (h : ((deepS Auto.tab Auto.fns sumd0 1000 30) f ds (.rows []) (.go :: scOf ms obs)).map (fun r => (r.1, r.2.2.1, r.2.2.2.2.1)) = some (d, false, obs)) : Ck f ds d :=
  callOk_R (deepS_ok Auto.tabOk mixed Auto.fnsOk sumd0_ok 1000 30) ms hob hds hd h
def eightG (a0 : Int) : ByteArray := (strOf [(IntKind.u8.wrap (Int.fdiv a0 (2 ^ (min (0 : Int).toNat IntKind.u64.bits)))), (IntKind.u8.wrap (Int.fdiv a0 (2 ^ (min (8 : Int).toNat IntKind.u64.bits)))), (IntKind.u8.wrap (Int.fdiv a0 (2 ^ (min (16 : Int).toNat IntKind.u64.bits)))), (IntKind.u8.wrap (Int.fdiv a0 (2 ^ (min (24 : Int).toNat IntKind.u64.bits)))), (IntKind.u8.wrap (Int.fdiv a0 (2 ^ (min (32 : Int).toNat IntKind.u64.bits)))), (IntKind.u8.wrap (Int.fdiv a0 (2 ^ (min (40 : Int).toNat IntKind.u64.bits)))), (IntKind.u8.wrap (Int.fdiv a0 (2 ^ (min (48 : Int).toNat IntKind.u64.bits)))), (IntKind.u8.wrap (Int.fdiv a0 (2 ^ (min (56 : Int).toNat IntKind.u64.bits))))])
theorem eightG_ok (a0 : Int) : Ck n_cubicleref18_eight [U a0] (.str (eightG a0)) := by
  unfold eightG
  exact dOk0 [] obsN rfl rfl (by kernel_rfl)
def e_eightG : List DV → Option DV
  | [.int .u64 y0] => some (.str (eightG y0))
  | _ => none
theorem e_eightG_ok : ∀ args d, e_eightG args = some d → Ck n_cubicleref18_eight args d := by
  intro args d h
  unfold e_eightG at h
  split at h
  · cases h; exact eightG_ok _
  · cases h
def opR1 (a0 : Ope) : Bool := (cond (decide ((a0.qD : Int) < 0)) false (cond (decide ((a0.qD : Int) > 255)) false (cond (decide ((a0.qF : Int) < 0)) false (cond (decide ((a0.qF : Int) > 2)) false (cond ((a0.qH : Int) == 0) (cond ((a0.qD : Int) == 0) (cond ((a0.qF : Int) == 0) (cond ((a0.qA : Int) == 0) ((a0.qB : Int) == 0) false) false) false) false)))))
theorem opR1_ok (a0 : Ope) : Ck n_cubicleref18_Formed [.agg [.int .i64 1, .int .i64 a0.qD, .int .i64 a0.qF, .int .u64 a0.qH, .int .u64 a0.qA, .int .u64 a0.qB]] (.bool (opR1 a0)) := by
  unfold opR1
  cases h0 : (decide ((a0.qD : Int) < 0)) with
  | false =>
    cases h1 : (decide ((a0.qD : Int) > 255)) with
    | false =>
      cases h2 : (decide ((a0.qF : Int) < 0)) with
      | false =>
        cases h3 : (decide ((a0.qF : Int) > 2)) with
        | false =>
          cases h4 : ((a0.qH : Int) == 0) with
          | false =>
            exact dOk0 [.s, .s, .s, .s, .s, .s, .s, .s, .s, .s, .s, .s, .o, .o, .o, .o, .o, .o, .o, .o, .o, .o, .o, .o, .o, .s, .s, .s, .s, .s] (obsE h0 (obsE h0 (obsE h0 (obsE h0 (obsE h1 (obsE h1 (obsE h1 (obsE h1 (obsE h2 (obsE h2 (obsE h2 (obsE h2 (obsE h3 (obsE h4 (obsE h4 (obsE h4 (obsE h4 (obsE h4 obsN)))))))))))))))))) rfl rfl (by kernel_rfl)
          | true =>
            cases h5 : ((a0.qD : Int) == 0) with
            | false =>
              exact dOk0 [.s, .s, .s, .s, .s, .s, .s, .s, .s, .s, .s, .s, .o, .o, .o, .o, .o, .o, .o, .o, .o, .o, .o, .o, .o, .s, .s, .s, .s, .s, .o, .o, .s, .o, .s, .s, .s, .o, .s] (obsE h0 (obsE h0 (obsE h0 (obsE h0 (obsE h1 (obsE h1 (obsE h1 (obsE h1 (obsE h2 (obsE h2 (obsE h2 (obsE h2 (obsE h3 (obsE h4 (obsE h4 (obsE h4 (obsE h4 (obsE h4 (obsE h5 (obsE h5 (obsE h5 (obsE h5 (obsE h5 obsN))))))))))))))))))))))) rfl rfl (by kernel_rfl)
            | true =>
              cases h6 : ((a0.qF : Int) == 0) with
              | false =>
                exact dOk0 [.s, .s, .s, .s, .s, .s, .s, .s, .s, .s, .s, .s, .o, .o, .o, .o, .o, .o, .o, .o, .o, .o, .o, .o, .o, .s, .s, .s, .s, .s, .o, .o, .s, .o, .s, .s, .s, .o, .s, .o, .o, .o, .s, .o, .s, .s, .s, .o, .s] (obsE h0 (obsE h0 (obsE h0 (obsE h0 (obsE h1 (obsE h1 (obsE h1 (obsE h1 (obsE h2 (obsE h2 (obsE h2 (obsE h2 (obsE h3 (obsE h4 (obsE h4 (obsE h4 (obsE h4 (obsE h4 (obsE h5 (obsE h5 (obsE h5 (obsE h5 (obsE h5 (obsE h6 (obsE h6 (obsE h6 (obsE h6 (obsE h6 obsN)))))))))))))))))))))))))))) rfl rfl (by kernel_rfl)
              | true =>
                cases h7 : ((a0.qA : Int) == 0) with
                | false =>
                  exact dOk0 [.s, .s, .s, .s, .s, .s, .s, .s, .s, .s, .s, .s, .o, .o, .o, .o, .o, .o, .o, .o, .o, .o, .o, .o, .o, .s, .s, .s, .s, .s, .o, .o, .s, .o, .s, .s, .s, .o, .s, .o, .o, .o, .s, .o, .s, .s, .s, .o, .s, .o, .o, .o, .s, .o, .s, .s, .s, .o, .s] (obsE h0 (obsE h0 (obsE h0 (obsE h0 (obsE h1 (obsE h1 (obsE h1 (obsE h1 (obsE h2 (obsE h2 (obsE h2 (obsE h2 (obsE h3 (obsE h4 (obsE h4 (obsE h4 (obsE h4 (obsE h4 (obsE h5 (obsE h5 (obsE h5 (obsE h5 (obsE h5 (obsE h6 (obsE h6 (obsE h6 (obsE h6 (obsE h6 (obsE h7 (obsE h7 (obsE h7 (obsE h7 (obsE h7 obsN))))))))))))))))))))))))))))))))) rfl rfl (by kernel_rfl)
                | true =>
                  exact dOk0 [.s, .s, .s, .s, .s, .s, .s, .s, .s, .s, .s, .s, .o, .o, .o, .o, .o, .o, .o, .o, .o, .o, .o, .o, .o, .s, .s, .s, .s, .s, .o, .o, .s, .o, .s, .s, .s, .o, .s, .o, .o, .o, .s, .o, .s, .s, .s, .o, .s, .o, .o, .o, .s, .o, .s, .s, .s, .o, .s, .o, .o, .o, .s, .o, .s, .s, .s, .o, .s] (obsE h0 (obsE h0 (obsE h0 (obsE h0 (obsE h1 (obsE h1 (obsE h1 (obsE h1 (obsE h2 (obsE h2 (obsE h2 (obsE h2 (obsE h3 (obsE h4 (obsE h4 (obsE h4 (obsE h4 (obsE h4 (obsE h5 (obsE h5 (obsE h5 (obsE h5 (obsE h5 (obsE h6 (obsE h6 (obsE h6 (obsE h6 (obsE h6 (obsE h7 (obsE h7 (obsE h7 (obsE h7 (obsE h7 obsN))))))))))))))))))))))))))))))))) rfl rfl (by kernel_rfl)
        | true =>
          exact dOk0 [.s, .s, .s, .s, .s, .s, .s, .s, .s, .s, .s, .s] (obsE h0 (obsE h0 (obsE h0 (obsE h0 (obsE h1 (obsE h1 (obsE h1 (obsE h1 (obsE h2 (obsE h2 (obsE h2 (obsE h2 (obsE h3 obsN))))))))))))) rfl rfl (by kernel_rfl)
      | true =>
        exact dOk0 [.s, .s, .s, .s, .s, .s, .s, .s, .s, .s, .s, .s] (obsE h0 (obsE h0 (obsE h0 (obsE h0 (obsE h1 (obsE h1 (obsE h1 (obsE h1 (obsE h2 (obsE h2 (obsE h2 (obsE h2 obsN)))))))))))) rfl rfl (by kernel_rfl)
    | true =>
      exact dOk0 [.s, .s, .s, .s, .s, .s, .s, .s, .s, .s, .s, .s] (obsE h0 (obsE h0 (obsE h0 (obsE h0 (obsE h1 (obsE h1 (obsE h1 (obsE h1 obsN)))))))) rfl rfl (by kernel_rfl)
  | true =>
    exact dOk0 [.s, .s, .s, .s, .s, .s, .s, .s, .s, .s, .s, .s] (obsE h0 (obsE h0 (obsE h0 (obsE h0 obsN)))) rfl rfl (by kernel_rfl)
def opR2 (a0 : Ope) : Bool := (cond (decide ((a0.qD : Int) < 0)) false (cond (decide ((a0.qD : Int) > 255)) false (cond (decide ((a0.qF : Int) < 0)) false (cond (decide ((a0.qF : Int) > 2)) false (cond ((a0.qD : Int) == 0) (cond ((a0.qF : Int) == 0) (cond ((a0.qA : Int) == 0) ((a0.qB : Int) == 0) false) false) false)))))
theorem opR2_ok (a0 : Ope) : Ck n_cubicleref18_Formed [.agg [.int .i64 2, .int .i64 a0.qD, .int .i64 a0.qF, .int .u64 a0.qH, .int .u64 a0.qA, .int .u64 a0.qB]] (.bool (opR2 a0)) := by
  unfold opR2
  cases h0 : (decide ((a0.qD : Int) < 0)) with
  | false =>
    cases h1 : (decide ((a0.qD : Int) > 255)) with
    | false =>
      cases h2 : (decide ((a0.qF : Int) < 0)) with
      | false =>
        cases h3 : (decide ((a0.qF : Int) > 2)) with
        | false =>
          cases h4 : ((a0.qD : Int) == 0) with
          | false =>
            exact dOk0 [.s, .s, .s, .s, .s, .s, .s, .s, .s, .s, .s, .s, .o, .o, .o, .o, .o, .o, .o, .o, .o, .o, .o, .o, .o, .s, .s, .s, .s, .s, .s, .s, .s, .s, .s, .s, .s, .s, .s, .s, .s, .s, .s] (obsE h0 (obsE h0 (obsE h0 (obsE h0 (obsE h1 (obsE h1 (obsE h1 (obsE h1 (obsE h2 (obsE h2 (obsE h2 (obsE h2 (obsE h3 (obsE h4 (obsE h4 (obsE h4 (obsE h4 (obsE h4 obsN)))))))))))))))))) rfl rfl (by kernel_rfl)
          | true =>
            cases h5 : ((a0.qF : Int) == 0) with
            | false =>
              exact dOk0 [.s, .s, .s, .s, .s, .s, .s, .s, .s, .s, .s, .s, .o, .o, .o, .o, .o, .o, .o, .o, .o, .o, .o, .o, .o, .s, .s, .s, .s, .s, .s, .s, .s, .s, .s, .s, .s, .s, .s, .s, .s, .s, .s, .o, .o, .s, .s, .s, .o, .s, .s, .s, .o, .s] (obsE h0 (obsE h0 (obsE h0 (obsE h0 (obsE h1 (obsE h1 (obsE h1 (obsE h1 (obsE h2 (obsE h2 (obsE h2 (obsE h2 (obsE h3 (obsE h4 (obsE h4 (obsE h4 (obsE h4 (obsE h4 (obsE h5 (obsE h5 (obsE h5 (obsE h5 (obsE h5 obsN))))))))))))))))))))))) rfl rfl (by kernel_rfl)
            | true =>
              cases h6 : ((a0.qA : Int) == 0) with
              | false =>
                exact dOk0 [.s, .s, .s, .s, .s, .s, .s, .s, .s, .s, .s, .s, .o, .o, .o, .o, .o, .o, .o, .o, .o, .o, .o, .o, .o, .s, .s, .s, .s, .s, .s, .s, .s, .s, .s, .s, .s, .s, .s, .s, .s, .s, .s, .o, .o, .s, .s, .s, .o, .s, .s, .s, .o, .s, .o, .o, .o, .s, .s, .s, .o, .s, .s, .s, .o, .s] (obsE h0 (obsE h0 (obsE h0 (obsE h0 (obsE h1 (obsE h1 (obsE h1 (obsE h1 (obsE h2 (obsE h2 (obsE h2 (obsE h2 (obsE h3 (obsE h4 (obsE h4 (obsE h4 (obsE h4 (obsE h4 (obsE h5 (obsE h5 (obsE h5 (obsE h5 (obsE h5 (obsE h6 (obsE h6 (obsE h6 (obsE h6 (obsE h6 obsN)))))))))))))))))))))))))))) rfl rfl (by kernel_rfl)
              | true =>
                exact dOk0 [.s, .s, .s, .s, .s, .s, .s, .s, .s, .s, .s, .s, .o, .o, .o, .o, .o, .o, .o, .o, .o, .o, .o, .o, .o, .s, .s, .s, .s, .s, .s, .s, .s, .s, .s, .s, .s, .s, .s, .s, .s, .s, .s, .o, .o, .s, .s, .s, .o, .s, .s, .s, .o, .s, .o, .o, .o, .s, .s, .s, .o, .s, .s, .s, .o, .s, .o, .o, .o, .s, .s, .s, .o, .s, .s, .s, .o, .s] (obsE h0 (obsE h0 (obsE h0 (obsE h0 (obsE h1 (obsE h1 (obsE h1 (obsE h1 (obsE h2 (obsE h2 (obsE h2 (obsE h2 (obsE h3 (obsE h4 (obsE h4 (obsE h4 (obsE h4 (obsE h4 (obsE h5 (obsE h5 (obsE h5 (obsE h5 (obsE h5 (obsE h6 (obsE h6 (obsE h6 (obsE h6 (obsE h6 obsN)))))))))))))))))))))))))))) rfl rfl (by kernel_rfl)
        | true =>
          exact dOk0 [.s, .s, .s, .s, .s, .s, .s, .s, .s, .s, .s, .s] (obsE h0 (obsE h0 (obsE h0 (obsE h0 (obsE h1 (obsE h1 (obsE h1 (obsE h1 (obsE h2 (obsE h2 (obsE h2 (obsE h2 (obsE h3 obsN))))))))))))) rfl rfl (by kernel_rfl)
      | true =>
        exact dOk0 [.s, .s, .s, .s, .s, .s, .s, .s, .s, .s, .s, .s] (obsE h0 (obsE h0 (obsE h0 (obsE h0 (obsE h1 (obsE h1 (obsE h1 (obsE h1 (obsE h2 (obsE h2 (obsE h2 (obsE h2 obsN)))))))))))) rfl rfl (by kernel_rfl)
    | true =>
      exact dOk0 [.s, .s, .s, .s, .s, .s, .s, .s, .s, .s, .s, .s] (obsE h0 (obsE h0 (obsE h0 (obsE h0 (obsE h1 (obsE h1 (obsE h1 (obsE h1 obsN)))))))) rfl rfl (by kernel_rfl)
  | true =>
    exact dOk0 [.s, .s, .s, .s, .s, .s, .s, .s, .s, .s, .s, .s] (obsE h0 (obsE h0 (obsE h0 (obsE h0 obsN)))) rfl rfl (by kernel_rfl)
def opR3 (a0 : Ope) : Bool := (cond (decide ((a0.qD : Int) < 0)) false (cond (decide ((a0.qD : Int) > 255)) false (cond (decide ((a0.qF : Int) < 0)) false (cond (decide ((a0.qF : Int) > 2)) false (cond ((a0.qD : Int) == 0) (cond ((a0.qA : Int) == 0) ((a0.qB : Int) == 0) false) false)))))
theorem opR3_ok (a0 : Ope) : Ck n_cubicleref18_Formed [.agg [.int .i64 3, .int .i64 a0.qD, .int .i64 a0.qF, .int .u64 a0.qH, .int .u64 a0.qA, .int .u64 a0.qB]] (.bool (opR3 a0)) := by
  unfold opR3
  cases h0 : (decide ((a0.qD : Int) < 0)) with
  | false =>
    cases h1 : (decide ((a0.qD : Int) > 255)) with
    | false =>
      cases h2 : (decide ((a0.qF : Int) < 0)) with
      | false =>
        cases h3 : (decide ((a0.qF : Int) > 2)) with
        | false =>
          cases h4 : ((a0.qD : Int) == 0) with
          | false =>
            exact dOk0 [.s, .s, .s, .s, .s, .s, .s, .s, .s, .s, .s, .s, .o, .o, .o, .o, .o, .o, .o, .o, .o, .o, .o, .o, .o, .s, .s, .s, .s, .s, .s, .s, .s, .s, .s, .s, .s, .s, .s, .s, .s, .s, .s, .s, .s] (obsE h0 (obsE h0 (obsE h0 (obsE h0 (obsE h1 (obsE h1 (obsE h1 (obsE h1 (obsE h2 (obsE h2 (obsE h2 (obsE h2 (obsE h3 (obsE h4 (obsE h4 (obsE h4 (obsE h4 (obsE h4 obsN)))))))))))))))))) rfl rfl (by kernel_rfl)
          | true =>
            cases h5 : ((a0.qA : Int) == 0) with
            | false =>
              exact dOk0 [.s, .s, .s, .s, .s, .s, .s, .s, .s, .s, .s, .s, .o, .o, .o, .o, .o, .o, .o, .o, .o, .o, .o, .o, .o, .s, .s, .s, .s, .s, .s, .s, .s, .s, .s, .s, .s, .s, .s, .s, .s, .s, .s, .s, .s, .o, .o, .s, .s, .s, .s, .o, .s, .s, .s, .o, .s, .o, .s, .s, .s, .s, .s, .s, .s, .s, .s, .s, .s, .s, .s, .s] (obsE h0 (obsE h0 (obsE h0 (obsE h0 (obsE h1 (obsE h1 (obsE h1 (obsE h1 (obsE h2 (obsE h2 (obsE h2 (obsE h2 (obsE h3 (obsE h4 (obsE h4 (obsE h4 (obsE h4 (obsE h4 (obsE h5 (obsE h5 (obsE h5 (obsE h5 (obsE h5 obsN))))))))))))))))))))))) rfl rfl (by kernel_rfl)
            | true =>
              exact dOk0 [.s, .s, .s, .s, .s, .s, .s, .s, .s, .s, .s, .s, .o, .o, .o, .o, .o, .o, .o, .o, .o, .o, .o, .o, .o, .s, .s, .s, .s, .s, .s, .s, .s, .s, .s, .s, .s, .s, .s, .s, .s, .s, .s, .s, .s, .o, .o, .s, .s, .s, .s, .o, .s, .s, .s, .o, .s, .o, .s, .s, .s, .s, .s, .s, .s, .s, .s, .s, .s, .s, .s, .s, .o, .o, .s, .s, .s, .s, .s, .o, .s, .s, .s, .o, .s] (obsE h0 (obsE h0 (obsE h0 (obsE h0 (obsE h1 (obsE h1 (obsE h1 (obsE h1 (obsE h2 (obsE h2 (obsE h2 (obsE h2 (obsE h3 (obsE h4 (obsE h4 (obsE h4 (obsE h4 (obsE h4 (obsE h5 (obsE h5 (obsE h5 (obsE h5 (obsE h5 obsN))))))))))))))))))))))) rfl rfl (by kernel_rfl)
        | true =>
          exact dOk0 [.s, .s, .s, .s, .s, .s, .s, .s, .s, .s, .s, .s] (obsE h0 (obsE h0 (obsE h0 (obsE h0 (obsE h1 (obsE h1 (obsE h1 (obsE h1 (obsE h2 (obsE h2 (obsE h2 (obsE h2 (obsE h3 obsN))))))))))))) rfl rfl (by kernel_rfl)
      | true =>
        exact dOk0 [.s, .s, .s, .s, .s, .s, .s, .s, .s, .s, .s, .s] (obsE h0 (obsE h0 (obsE h0 (obsE h0 (obsE h1 (obsE h1 (obsE h1 (obsE h1 (obsE h2 (obsE h2 (obsE h2 (obsE h2 obsN)))))))))))) rfl rfl (by kernel_rfl)
    | true =>
      exact dOk0 [.s, .s, .s, .s, .s, .s, .s, .s, .s, .s, .s, .s] (obsE h0 (obsE h0 (obsE h0 (obsE h0 (obsE h1 (obsE h1 (obsE h1 (obsE h1 obsN)))))))) rfl rfl (by kernel_rfl)
  | true =>
    exact dOk0 [.s, .s, .s, .s, .s, .s, .s, .s, .s, .s, .s, .s] (obsE h0 (obsE h0 (obsE h0 (obsE h0 obsN)))) rfl rfl (by kernel_rfl)
def opR4 (a0 : Ope) : Bool := (cond (decide ((a0.qD : Int) < 0)) false (cond (decide ((a0.qD : Int) > 255)) false (cond (decide ((a0.qF : Int) < 0)) false (cond (decide ((a0.qF : Int) > 2)) false (cond ((a0.qD : Int) == 0) ((a0.qB : Int) == 0) false)))))
theorem opR4_ok (a0 : Ope) : Ck n_cubicleref18_Formed [.agg [.int .i64 4, .int .i64 a0.qD, .int .i64 a0.qF, .int .u64 a0.qH, .int .u64 a0.qA, .int .u64 a0.qB]] (.bool (opR4 a0)) := by
  unfold opR4
  cases h0 : (decide ((a0.qD : Int) < 0)) with
  | false =>
    cases h1 : (decide ((a0.qD : Int) > 255)) with
    | false =>
      cases h2 : (decide ((a0.qF : Int) < 0)) with
      | false =>
        cases h3 : (decide ((a0.qF : Int) > 2)) with
        | false =>
          cases h4 : ((a0.qD : Int) == 0) with
          | false =>
            exact dOk0 [.s, .s, .s, .s, .s, .s, .s, .s, .s, .s, .s, .s, .o, .o, .o, .o, .o, .o, .o, .o, .o, .o, .o, .o, .o, .s, .s, .s, .s, .s, .s, .s, .s, .s, .s, .s, .s, .s, .s, .s, .s, .s, .s, .s, .s, .s, .s] (obsE h0 (obsE h0 (obsE h0 (obsE h0 (obsE h1 (obsE h1 (obsE h1 (obsE h1 (obsE h2 (obsE h2 (obsE h2 (obsE h2 (obsE h3 (obsE h4 (obsE h4 (obsE h4 (obsE h4 (obsE h4 obsN)))))))))))))))))) rfl rfl (by kernel_rfl)
          | true =>
            exact dOk0 [.s, .s, .s, .s, .s, .s, .s, .s, .s, .s, .s, .s, .o, .o, .o, .o, .o, .o, .o, .o, .o, .o, .o, .o, .o, .s, .s, .s, .s, .s, .s, .s, .s, .s, .s, .s, .s, .s, .s, .s, .s, .s, .s, .s, .s, .s, .s, .o, .o, .s, .s, .s, .s, .o, .s, .s, .s, .o, .s] (obsE h0 (obsE h0 (obsE h0 (obsE h0 (obsE h1 (obsE h1 (obsE h1 (obsE h1 (obsE h2 (obsE h2 (obsE h2 (obsE h2 (obsE h3 (obsE h4 (obsE h4 (obsE h4 (obsE h4 (obsE h4 obsN)))))))))))))))))) rfl rfl (by kernel_rfl)
        | true =>
          exact dOk0 [.s, .s, .s, .s, .s, .s, .s, .s, .s, .s, .s, .s] (obsE h0 (obsE h0 (obsE h0 (obsE h0 (obsE h1 (obsE h1 (obsE h1 (obsE h1 (obsE h2 (obsE h2 (obsE h2 (obsE h2 (obsE h3 obsN))))))))))))) rfl rfl (by kernel_rfl)
      | true =>
        exact dOk0 [.s, .s, .s, .s, .s, .s, .s, .s, .s, .s, .s, .s] (obsE h0 (obsE h0 (obsE h0 (obsE h0 (obsE h1 (obsE h1 (obsE h1 (obsE h1 (obsE h2 (obsE h2 (obsE h2 (obsE h2 obsN)))))))))))) rfl rfl (by kernel_rfl)
    | true =>
      exact dOk0 [.s, .s, .s, .s, .s, .s, .s, .s, .s, .s, .s, .s] (obsE h0 (obsE h0 (obsE h0 (obsE h0 (obsE h1 (obsE h1 (obsE h1 (obsE h1 obsN)))))))) rfl rfl (by kernel_rfl)
  | true =>
    exact dOk0 [.s, .s, .s, .s, .s, .s, .s, .s, .s, .s, .s, .s] (obsE h0 (obsE h0 (obsE h0 (obsE h0 obsN)))) rfl rfl (by kernel_rfl)
def opR5 (a0 : Ope) : Bool := (cond (decide ((a0.qD : Int) < 0)) false (cond (decide ((a0.qD : Int) > 255)) false (cond (decide ((a0.qF : Int) < 0)) false (cond (decide ((a0.qF : Int) > 2)) false (cond ((a0.qD : Int) == 0) true false)))))
theorem opR5_ok (a0 : Ope) : Ck n_cubicleref18_Formed [.agg [.int .i64 5, .int .i64 a0.qD, .int .i64 a0.qF, .int .u64 a0.qH, .int .u64 a0.qA, .int .u64 a0.qB]] (.bool (opR5 a0)) := by
  unfold opR5
  cases h0 : (decide ((a0.qD : Int) < 0)) with
  | false =>
    cases h1 : (decide ((a0.qD : Int) > 255)) with
    | false =>
      cases h2 : (decide ((a0.qF : Int) < 0)) with
      | false =>
        cases h3 : (decide ((a0.qF : Int) > 2)) with
        | false =>
          cases h4 : ((a0.qD : Int) == 0) with
          | false =>
            exact dOk0 [.s, .s, .s, .s, .s, .s, .s, .s, .s, .s, .s, .s, .o, .o, .o, .o, .o, .o, .o, .o, .o, .o, .o, .o, .o, .s, .s, .s, .s, .s, .s, .s, .s, .s, .s, .s, .s, .s, .s, .s, .s, .s, .s, .s, .s, .s, .s, .s, .s] (obsE h0 (obsE h0 (obsE h0 (obsE h0 (obsE h1 (obsE h1 (obsE h1 (obsE h1 (obsE h2 (obsE h2 (obsE h2 (obsE h2 (obsE h3 (obsE h4 (obsE h4 (obsE h4 (obsE h4 (obsE h4 obsN)))))))))))))))))) rfl rfl (by kernel_rfl)
          | true =>
            exact dOk0 [.s, .s, .s, .s, .s, .s, .s, .s, .s, .s, .s, .s, .o, .o, .o, .o, .o, .o, .o, .o, .o, .o, .o, .o, .o, .s, .s, .s, .s, .s, .s, .s, .s, .s, .s, .s, .s, .s, .s, .s, .s, .s, .s, .s, .s, .s, .s, .s, .s, .o, .o, .s, .s, .s, .s, .o, .s, .s, .s, .o, .s] (obsE h0 (obsE h0 (obsE h0 (obsE h0 (obsE h1 (obsE h1 (obsE h1 (obsE h1 (obsE h2 (obsE h2 (obsE h2 (obsE h2 (obsE h3 (obsE h4 (obsE h4 (obsE h4 (obsE h4 (obsE h4 obsN)))))))))))))))))) rfl rfl (by kernel_rfl)
        | true =>
          exact dOk0 [.s, .s, .s, .s, .s, .s, .s, .s, .s, .s, .s, .s] (obsE h0 (obsE h0 (obsE h0 (obsE h0 (obsE h1 (obsE h1 (obsE h1 (obsE h1 (obsE h2 (obsE h2 (obsE h2 (obsE h2 (obsE h3 obsN))))))))))))) rfl rfl (by kernel_rfl)
      | true =>
        exact dOk0 [.s, .s, .s, .s, .s, .s, .s, .s, .s, .s, .s, .s] (obsE h0 (obsE h0 (obsE h0 (obsE h0 (obsE h1 (obsE h1 (obsE h1 (obsE h1 (obsE h2 (obsE h2 (obsE h2 (obsE h2 obsN)))))))))))) rfl rfl (by kernel_rfl)
    | true =>
      exact dOk0 [.s, .s, .s, .s, .s, .s, .s, .s, .s, .s, .s, .s] (obsE h0 (obsE h0 (obsE h0 (obsE h0 (obsE h1 (obsE h1 (obsE h1 (obsE h1 obsN)))))))) rfl rfl (by kernel_rfl)
  | true =>
    exact dOk0 [.s, .s, .s, .s, .s, .s, .s, .s, .s, .s, .s, .s] (obsE h0 (obsE h0 (obsE h0 (obsE h0 obsN)))) rfl rfl (by kernel_rfl)
def opR6 (a0 : Ope) : Bool := (cond (decide ((a0.qD : Int) < 0)) false (cond (decide ((a0.qD : Int) > 255)) false (cond (decide ((a0.qF : Int) < 0)) false (cond (decide ((a0.qF : Int) > 2)) false (cond ((a0.qH : Int) == 0) (cond ((a0.qD : Int) == 0) (cond ((a0.qF : Int) == 0) (cond ((a0.qA : Int) == 0) ((a0.qB : Int) == 0) false) false) false) false)))))
theorem opR6_ok (a0 : Ope) : Ck n_cubicleref18_Formed [.agg [.int .i64 6, .int .i64 a0.qD, .int .i64 a0.qF, .int .u64 a0.qH, .int .u64 a0.qA, .int .u64 a0.qB]] (.bool (opR6 a0)) := by
  unfold opR6
  cases h0 : (decide ((a0.qD : Int) < 0)) with
  | false =>
    cases h1 : (decide ((a0.qD : Int) > 255)) with
    | false =>
      cases h2 : (decide ((a0.qF : Int) < 0)) with
      | false =>
        cases h3 : (decide ((a0.qF : Int) > 2)) with
        | false =>
          cases h4 : ((a0.qH : Int) == 0) with
          | false =>
            exact dOk0 [.s, .s, .s, .s, .s, .s, .s, .s, .s, .s, .s, .s, .o, .o, .o, .o, .o, .o, .o, .o, .o, .o, .o, .o, .o, .s, .s, .s, .s, .s] (obsE h0 (obsE h0 (obsE h0 (obsE h0 (obsE h1 (obsE h1 (obsE h1 (obsE h1 (obsE h2 (obsE h2 (obsE h2 (obsE h2 (obsE h3 (obsE h4 (obsE h4 (obsE h4 (obsE h4 (obsE h4 obsN)))))))))))))))))) rfl rfl (by kernel_rfl)
          | true =>
            cases h5 : ((a0.qD : Int) == 0) with
            | false =>
              exact dOk0 [.s, .s, .s, .s, .s, .s, .s, .s, .s, .s, .s, .s, .o, .o, .o, .o, .o, .o, .o, .o, .o, .o, .o, .o, .o, .s, .s, .s, .s, .s, .o, .o, .s, .o, .s, .s, .s, .o, .s] (obsE h0 (obsE h0 (obsE h0 (obsE h0 (obsE h1 (obsE h1 (obsE h1 (obsE h1 (obsE h2 (obsE h2 (obsE h2 (obsE h2 (obsE h3 (obsE h4 (obsE h4 (obsE h4 (obsE h4 (obsE h4 (obsE h5 (obsE h5 (obsE h5 (obsE h5 (obsE h5 obsN))))))))))))))))))))))) rfl rfl (by kernel_rfl)
            | true =>
              cases h6 : ((a0.qF : Int) == 0) with
              | false =>
                exact dOk0 [.s, .s, .s, .s, .s, .s, .s, .s, .s, .s, .s, .s, .o, .o, .o, .o, .o, .o, .o, .o, .o, .o, .o, .o, .o, .s, .s, .s, .s, .s, .o, .o, .s, .o, .s, .s, .s, .o, .s, .o, .o, .o, .s, .o, .s, .s, .s, .o, .s] (obsE h0 (obsE h0 (obsE h0 (obsE h0 (obsE h1 (obsE h1 (obsE h1 (obsE h1 (obsE h2 (obsE h2 (obsE h2 (obsE h2 (obsE h3 (obsE h4 (obsE h4 (obsE h4 (obsE h4 (obsE h4 (obsE h5 (obsE h5 (obsE h5 (obsE h5 (obsE h5 (obsE h6 (obsE h6 (obsE h6 (obsE h6 (obsE h6 obsN)))))))))))))))))))))))))))) rfl rfl (by kernel_rfl)
              | true =>
                cases h7 : ((a0.qA : Int) == 0) with
                | false =>
                  exact dOk0 [.s, .s, .s, .s, .s, .s, .s, .s, .s, .s, .s, .s, .o, .o, .o, .o, .o, .o, .o, .o, .o, .o, .o, .o, .o, .s, .s, .s, .s, .s, .o, .o, .s, .o, .s, .s, .s, .o, .s, .o, .o, .o, .s, .o, .s, .s, .s, .o, .s, .o, .o, .o, .s, .o, .s, .s, .s, .o, .s] (obsE h0 (obsE h0 (obsE h0 (obsE h0 (obsE h1 (obsE h1 (obsE h1 (obsE h1 (obsE h2 (obsE h2 (obsE h2 (obsE h2 (obsE h3 (obsE h4 (obsE h4 (obsE h4 (obsE h4 (obsE h4 (obsE h5 (obsE h5 (obsE h5 (obsE h5 (obsE h5 (obsE h6 (obsE h6 (obsE h6 (obsE h6 (obsE h6 (obsE h7 (obsE h7 (obsE h7 (obsE h7 (obsE h7 obsN))))))))))))))))))))))))))))))))) rfl rfl (by kernel_rfl)
                | true =>
                  exact dOk0 [.s, .s, .s, .s, .s, .s, .s, .s, .s, .s, .s, .s, .o, .o, .o, .o, .o, .o, .o, .o, .o, .o, .o, .o, .o, .s, .s, .s, .s, .s, .o, .o, .s, .o, .s, .s, .s, .o, .s, .o, .o, .o, .s, .o, .s, .s, .s, .o, .s, .o, .o, .o, .s, .o, .s, .s, .s, .o, .s, .o, .o, .o, .s, .o, .s, .s, .s, .o, .s] (obsE h0 (obsE h0 (obsE h0 (obsE h0 (obsE h1 (obsE h1 (obsE h1 (obsE h1 (obsE h2 (obsE h2 (obsE h2 (obsE h2 (obsE h3 (obsE h4 (obsE h4 (obsE h4 (obsE h4 (obsE h4 (obsE h5 (obsE h5 (obsE h5 (obsE h5 (obsE h5 (obsE h6 (obsE h6 (obsE h6 (obsE h6 (obsE h6 (obsE h7 (obsE h7 (obsE h7 (obsE h7 (obsE h7 obsN))))))))))))))))))))))))))))))))) rfl rfl (by kernel_rfl)
        | true =>
          exact dOk0 [.s, .s, .s, .s, .s, .s, .s, .s, .s, .s, .s, .s] (obsE h0 (obsE h0 (obsE h0 (obsE h0 (obsE h1 (obsE h1 (obsE h1 (obsE h1 (obsE h2 (obsE h2 (obsE h2 (obsE h2 (obsE h3 obsN))))))))))))) rfl rfl (by kernel_rfl)
      | true =>
        exact dOk0 [.s, .s, .s, .s, .s, .s, .s, .s, .s, .s, .s, .s] (obsE h0 (obsE h0 (obsE h0 (obsE h0 (obsE h1 (obsE h1 (obsE h1 (obsE h1 (obsE h2 (obsE h2 (obsE h2 (obsE h2 obsN)))))))))))) rfl rfl (by kernel_rfl)
    | true =>
      exact dOk0 [.s, .s, .s, .s, .s, .s, .s, .s, .s, .s, .s, .s] (obsE h0 (obsE h0 (obsE h0 (obsE h0 (obsE h1 (obsE h1 (obsE h1 (obsE h1 obsN)))))))) rfl rfl (by kernel_rfl)
  | true =>
    exact dOk0 [.s, .s, .s, .s, .s, .s, .s, .s, .s, .s, .s, .s] (obsE h0 (obsE h0 (obsE h0 (obsE h0 obsN)))) rfl rfl (by kernel_rfl)
def opR7 (a0 : Ope) : Bool := (cond (decide ((a0.qD : Int) < 0)) false (cond (decide ((a0.qD : Int) > 255)) false (cond (decide ((a0.qF : Int) < 0)) false (cond (decide ((a0.qF : Int) > 2)) false (cond ((a0.qH : Int) == 0) (cond ((a0.qF : Int) == 0) ((a0.qB : Int) == 0) false) false)))))
theorem opR7_ok (a0 : Ope) : Ck n_cubicleref18_Formed [.agg [.int .i64 7, .int .i64 a0.qD, .int .i64 a0.qF, .int .u64 a0.qH, .int .u64 a0.qA, .int .u64 a0.qB]] (.bool (opR7 a0)) := by
  unfold opR7
  cases h0 : (decide ((a0.qD : Int) < 0)) with
  | false =>
    cases h1 : (decide ((a0.qD : Int) > 255)) with
    | false =>
      cases h2 : (decide ((a0.qF : Int) < 0)) with
      | false =>
        cases h3 : (decide ((a0.qF : Int) > 2)) with
        | false =>
          cases h4 : ((a0.qH : Int) == 0) with
          | false =>
            exact dOk0 [.s, .s, .s, .s, .s, .s, .s, .s, .s, .s, .s, .s, .o, .o, .o, .o, .o, .o, .o, .o, .o, .o, .o, .o, .o, .s, .s, .s, .s, .s, .s, .s, .s, .s] (obsE h0 (obsE h0 (obsE h0 (obsE h0 (obsE h1 (obsE h1 (obsE h1 (obsE h1 (obsE h2 (obsE h2 (obsE h2 (obsE h2 (obsE h3 (obsE h4 (obsE h4 (obsE h4 (obsE h4 (obsE h4 obsN)))))))))))))))))) rfl rfl (by kernel_rfl)
          | true =>
            cases h5 : ((a0.qF : Int) == 0) with
            | false =>
              exact dOk0 [.s, .s, .s, .s, .s, .s, .s, .s, .s, .s, .s, .s, .o, .o, .o, .o, .o, .o, .o, .o, .o, .o, .o, .o, .o, .s, .s, .s, .s, .s, .s, .s, .s, .s, .o, .o, .s, .s, .o, .s, .s, .s, .o, .s, .o, .s, .s, .s, .s, .s, .s, .s, .s, .s, .s, .s, .s, .s, .s] (obsE h0 (obsE h0 (obsE h0 (obsE h0 (obsE h1 (obsE h1 (obsE h1 (obsE h1 (obsE h2 (obsE h2 (obsE h2 (obsE h2 (obsE h3 (obsE h4 (obsE h4 (obsE h4 (obsE h4 (obsE h4 (obsE h5 (obsE h5 (obsE h5 (obsE h5 (obsE h5 obsN))))))))))))))))))))))) rfl rfl (by kernel_rfl)
            | true =>
              exact dOk0 [.s, .s, .s, .s, .s, .s, .s, .s, .s, .s, .s, .s, .o, .o, .o, .o, .o, .o, .o, .o, .o, .o, .o, .o, .o, .s, .s, .s, .s, .s, .s, .s, .s, .s, .o, .o, .s, .s, .o, .s, .s, .s, .o, .s, .o, .s, .s, .s, .s, .s, .s, .s, .s, .s, .s, .s, .s, .s, .s, .o, .o, .s, .s, .s, .s, .o, .s, .s, .s, .o, .s] (obsE h0 (obsE h0 (obsE h0 (obsE h0 (obsE h1 (obsE h1 (obsE h1 (obsE h1 (obsE h2 (obsE h2 (obsE h2 (obsE h2 (obsE h3 (obsE h4 (obsE h4 (obsE h4 (obsE h4 (obsE h4 (obsE h5 (obsE h5 (obsE h5 (obsE h5 (obsE h5 obsN))))))))))))))))))))))) rfl rfl (by kernel_rfl)
        | true =>
          exact dOk0 [.s, .s, .s, .s, .s, .s, .s, .s, .s, .s, .s, .s] (obsE h0 (obsE h0 (obsE h0 (obsE h0 (obsE h1 (obsE h1 (obsE h1 (obsE h1 (obsE h2 (obsE h2 (obsE h2 (obsE h2 (obsE h3 obsN))))))))))))) rfl rfl (by kernel_rfl)
      | true =>
        exact dOk0 [.s, .s, .s, .s, .s, .s, .s, .s, .s, .s, .s, .s] (obsE h0 (obsE h0 (obsE h0 (obsE h0 (obsE h1 (obsE h1 (obsE h1 (obsE h1 (obsE h2 (obsE h2 (obsE h2 (obsE h2 obsN)))))))))))) rfl rfl (by kernel_rfl)
    | true =>
      exact dOk0 [.s, .s, .s, .s, .s, .s, .s, .s, .s, .s, .s, .s] (obsE h0 (obsE h0 (obsE h0 (obsE h0 (obsE h1 (obsE h1 (obsE h1 (obsE h1 obsN)))))))) rfl rfl (by kernel_rfl)
  | true =>
    exact dOk0 [.s, .s, .s, .s, .s, .s, .s, .s, .s, .s, .s, .s] (obsE h0 (obsE h0 (obsE h0 (obsE h0 obsN)))) rfl rfl (by kernel_rfl)
def opR8 (a0 : Ope) : Bool := (cond (decide ((a0.qD : Int) < 0)) false (cond (decide ((a0.qD : Int) > 255)) false (cond (decide ((a0.qF : Int) < 0)) false (cond (decide ((a0.qF : Int) > 2)) false (cond ((a0.qH : Int) == 0) (cond ((a0.qF : Int) == 0) (cond ((a0.qA : Int) == 0) ((a0.qB : Int) == 0) false) false) false)))))
theorem opR8_ok (a0 : Ope) : Ck n_cubicleref18_Formed [.agg [.int .i64 8, .int .i64 a0.qD, .int .i64 a0.qF, .int .u64 a0.qH, .int .u64 a0.qA, .int .u64 a0.qB]] (.bool (opR8 a0)) := by
  unfold opR8
  cases h0 : (decide ((a0.qD : Int) < 0)) with
  | false =>
    cases h1 : (decide ((a0.qD : Int) > 255)) with
    | false =>
      cases h2 : (decide ((a0.qF : Int) < 0)) with
      | false =>
        cases h3 : (decide ((a0.qF : Int) > 2)) with
        | false =>
          cases h4 : ((a0.qH : Int) == 0) with
          | false =>
            exact dOk0 [.s, .s, .s, .s, .s, .s, .s, .s, .s, .s, .s, .s, .o, .o, .o, .o, .o, .o, .o, .o, .o, .o, .o, .o, .o, .s, .s, .s, .s, .s, .s, .s] (obsE h0 (obsE h0 (obsE h0 (obsE h0 (obsE h1 (obsE h1 (obsE h1 (obsE h1 (obsE h2 (obsE h2 (obsE h2 (obsE h2 (obsE h3 (obsE h4 (obsE h4 (obsE h4 (obsE h4 (obsE h4 obsN)))))))))))))))))) rfl rfl (by kernel_rfl)
          | true =>
            cases h5 : ((a0.qF : Int) == 0) with
            | false =>
              exact dOk0 [.s, .s, .s, .s, .s, .s, .s, .s, .s, .s, .s, .s, .o, .o, .o, .o, .o, .o, .o, .o, .o, .o, .o, .o, .o, .s, .s, .s, .s, .s, .s, .s, .o, .o, .s, .s, .o, .s, .s, .s, .o, .s, .o, .s, .s, .s, .s, .s, .s, .s, .s, .s, .s, .s, .s] (obsE h0 (obsE h0 (obsE h0 (obsE h0 (obsE h1 (obsE h1 (obsE h1 (obsE h1 (obsE h2 (obsE h2 (obsE h2 (obsE h2 (obsE h3 (obsE h4 (obsE h4 (obsE h4 (obsE h4 (obsE h4 (obsE h5 (obsE h5 (obsE h5 (obsE h5 (obsE h5 obsN))))))))))))))))))))))) rfl rfl (by kernel_rfl)
            | true =>
              cases h6 : ((a0.qA : Int) == 0) with
              | false =>
                exact dOk0 [.s, .s, .s, .s, .s, .s, .s, .s, .s, .s, .s, .s, .o, .o, .o, .o, .o, .o, .o, .o, .o, .o, .o, .o, .o, .s, .s, .s, .s, .s, .s, .s, .o, .o, .s, .s, .o, .s, .s, .s, .o, .s, .o, .s, .s, .s, .s, .s, .s, .s, .s, .s, .s, .s, .s, .o, .o, .s, .s, .s, .o, .s, .s, .s, .o, .s] (obsE h0 (obsE h0 (obsE h0 (obsE h0 (obsE h1 (obsE h1 (obsE h1 (obsE h1 (obsE h2 (obsE h2 (obsE h2 (obsE h2 (obsE h3 (obsE h4 (obsE h4 (obsE h4 (obsE h4 (obsE h4 (obsE h5 (obsE h5 (obsE h5 (obsE h5 (obsE h5 (obsE h6 (obsE h6 (obsE h6 (obsE h6 (obsE h6 obsN)))))))))))))))))))))))))))) rfl rfl (by kernel_rfl)
              | true =>
                exact dOk0 [.s, .s, .s, .s, .s, .s, .s, .s, .s, .s, .s, .s, .o, .o, .o, .o, .o, .o, .o, .o, .o, .o, .o, .o, .o, .s, .s, .s, .s, .s, .s, .s, .o, .o, .s, .s, .o, .s, .s, .s, .o, .s, .o, .s, .s, .s, .s, .s, .s, .s, .s, .s, .s, .s, .s, .o, .o, .s, .s, .s, .o, .s, .s, .s, .o, .s, .o, .o, .o, .s, .s, .s, .o, .s, .s, .s, .o, .s] (obsE h0 (obsE h0 (obsE h0 (obsE h0 (obsE h1 (obsE h1 (obsE h1 (obsE h1 (obsE h2 (obsE h2 (obsE h2 (obsE h2 (obsE h3 (obsE h4 (obsE h4 (obsE h4 (obsE h4 (obsE h4 (obsE h5 (obsE h5 (obsE h5 (obsE h5 (obsE h5 (obsE h6 (obsE h6 (obsE h6 (obsE h6 (obsE h6 obsN)))))))))))))))))))))))))))) rfl rfl (by kernel_rfl)
        | true =>
          exact dOk0 [.s, .s, .s, .s, .s, .s, .s, .s, .s, .s, .s, .s] (obsE h0 (obsE h0 (obsE h0 (obsE h0 (obsE h1 (obsE h1 (obsE h1 (obsE h1 (obsE h2 (obsE h2 (obsE h2 (obsE h2 (obsE h3 obsN))))))))))))) rfl rfl (by kernel_rfl)
      | true =>
        exact dOk0 [.s, .s, .s, .s, .s, .s, .s, .s, .s, .s, .s, .s] (obsE h0 (obsE h0 (obsE h0 (obsE h0 (obsE h1 (obsE h1 (obsE h1 (obsE h1 (obsE h2 (obsE h2 (obsE h2 (obsE h2 obsN)))))))))))) rfl rfl (by kernel_rfl)
    | true =>
      exact dOk0 [.s, .s, .s, .s, .s, .s, .s, .s, .s, .s, .s, .s] (obsE h0 (obsE h0 (obsE h0 (obsE h0 (obsE h1 (obsE h1 (obsE h1 (obsE h1 obsN)))))))) rfl rfl (by kernel_rfl)
  | true =>
    exact dOk0 [.s, .s, .s, .s, .s, .s, .s, .s, .s, .s, .s, .s] (obsE h0 (obsE h0 (obsE h0 (obsE h0 obsN)))) rfl rfl (by kernel_rfl)
def opR9 (a0 : Ope) : Bool := (cond (decide ((a0.qD : Int) < 0)) false (cond (decide ((a0.qD : Int) > 255)) false (cond (decide ((a0.qF : Int) < 0)) false (cond (decide ((a0.qF : Int) > 2)) false (cond ((a0.qH : Int) == 0) (cond ((a0.qD : Int) == 0) (cond ((a0.qF : Int) == 0) (cond ((a0.qA : Int) == 0) ((a0.qB : Int) == 0) false) false) false) false)))))
theorem opR9_ok (a0 : Ope) : Ck n_cubicleref18_Formed [.agg [.int .i64 9, .int .i64 a0.qD, .int .i64 a0.qF, .int .u64 a0.qH, .int .u64 a0.qA, .int .u64 a0.qB]] (.bool (opR9 a0)) := by
  unfold opR9
  cases h0 : (decide ((a0.qD : Int) < 0)) with
  | false =>
    cases h1 : (decide ((a0.qD : Int) > 255)) with
    | false =>
      cases h2 : (decide ((a0.qF : Int) < 0)) with
      | false =>
        cases h3 : (decide ((a0.qF : Int) > 2)) with
        | false =>
          cases h4 : ((a0.qH : Int) == 0) with
          | false =>
            exact dOk0 [.s, .s, .s, .s, .s, .s, .s, .s, .s, .s, .s, .s, .o, .o, .o, .o, .o, .o, .o, .o, .o, .o, .o, .o, .o, .s, .s, .s, .s, .s] (obsE h0 (obsE h0 (obsE h0 (obsE h0 (obsE h1 (obsE h1 (obsE h1 (obsE h1 (obsE h2 (obsE h2 (obsE h2 (obsE h2 (obsE h3 (obsE h4 (obsE h4 (obsE h4 (obsE h4 (obsE h4 obsN)))))))))))))))))) rfl rfl (by kernel_rfl)
          | true =>
            cases h5 : ((a0.qD : Int) == 0) with
            | false =>
              exact dOk0 [.s, .s, .s, .s, .s, .s, .s, .s, .s, .s, .s, .s, .o, .o, .o, .o, .o, .o, .o, .o, .o, .o, .o, .o, .o, .s, .s, .s, .s, .s, .o, .o, .s, .o, .s, .s, .s, .o, .s] (obsE h0 (obsE h0 (obsE h0 (obsE h0 (obsE h1 (obsE h1 (obsE h1 (obsE h1 (obsE h2 (obsE h2 (obsE h2 (obsE h2 (obsE h3 (obsE h4 (obsE h4 (obsE h4 (obsE h4 (obsE h4 (obsE h5 (obsE h5 (obsE h5 (obsE h5 (obsE h5 obsN))))))))))))))))))))))) rfl rfl (by kernel_rfl)
            | true =>
              cases h6 : ((a0.qF : Int) == 0) with
              | false =>
                exact dOk0 [.s, .s, .s, .s, .s, .s, .s, .s, .s, .s, .s, .s, .o, .o, .o, .o, .o, .o, .o, .o, .o, .o, .o, .o, .o, .s, .s, .s, .s, .s, .o, .o, .s, .o, .s, .s, .s, .o, .s, .o, .o, .o, .s, .o, .s, .s, .s, .o, .s] (obsE h0 (obsE h0 (obsE h0 (obsE h0 (obsE h1 (obsE h1 (obsE h1 (obsE h1 (obsE h2 (obsE h2 (obsE h2 (obsE h2 (obsE h3 (obsE h4 (obsE h4 (obsE h4 (obsE h4 (obsE h4 (obsE h5 (obsE h5 (obsE h5 (obsE h5 (obsE h5 (obsE h6 (obsE h6 (obsE h6 (obsE h6 (obsE h6 obsN)))))))))))))))))))))))))))) rfl rfl (by kernel_rfl)
              | true =>
                cases h7 : ((a0.qA : Int) == 0) with
                | false =>
                  exact dOk0 [.s, .s, .s, .s, .s, .s, .s, .s, .s, .s, .s, .s, .o, .o, .o, .o, .o, .o, .o, .o, .o, .o, .o, .o, .o, .s, .s, .s, .s, .s, .o, .o, .s, .o, .s, .s, .s, .o, .s, .o, .o, .o, .s, .o, .s, .s, .s, .o, .s, .o, .o, .o, .s, .o, .s, .s, .s, .o, .s] (obsE h0 (obsE h0 (obsE h0 (obsE h0 (obsE h1 (obsE h1 (obsE h1 (obsE h1 (obsE h2 (obsE h2 (obsE h2 (obsE h2 (obsE h3 (obsE h4 (obsE h4 (obsE h4 (obsE h4 (obsE h4 (obsE h5 (obsE h5 (obsE h5 (obsE h5 (obsE h5 (obsE h6 (obsE h6 (obsE h6 (obsE h6 (obsE h6 (obsE h7 (obsE h7 (obsE h7 (obsE h7 (obsE h7 obsN))))))))))))))))))))))))))))))))) rfl rfl (by kernel_rfl)
                | true =>
                  exact dOk0 [.s, .s, .s, .s, .s, .s, .s, .s, .s, .s, .s, .s, .o, .o, .o, .o, .o, .o, .o, .o, .o, .o, .o, .o, .o, .s, .s, .s, .s, .s, .o, .o, .s, .o, .s, .s, .s, .o, .s, .o, .o, .o, .s, .o, .s, .s, .s, .o, .s, .o, .o, .o, .s, .o, .s, .s, .s, .o, .s, .o, .o, .o, .s, .o, .s, .s, .s, .o, .s] (obsE h0 (obsE h0 (obsE h0 (obsE h0 (obsE h1 (obsE h1 (obsE h1 (obsE h1 (obsE h2 (obsE h2 (obsE h2 (obsE h2 (obsE h3 (obsE h4 (obsE h4 (obsE h4 (obsE h4 (obsE h4 (obsE h5 (obsE h5 (obsE h5 (obsE h5 (obsE h5 (obsE h6 (obsE h6 (obsE h6 (obsE h6 (obsE h6 (obsE h7 (obsE h7 (obsE h7 (obsE h7 (obsE h7 obsN))))))))))))))))))))))))))))))))) rfl rfl (by kernel_rfl)
        | true =>
          exact dOk0 [.s, .s, .s, .s, .s, .s, .s, .s, .s, .s, .s, .s] (obsE h0 (obsE h0 (obsE h0 (obsE h0 (obsE h1 (obsE h1 (obsE h1 (obsE h1 (obsE h2 (obsE h2 (obsE h2 (obsE h2 (obsE h3 obsN))))))))))))) rfl rfl (by kernel_rfl)
      | true =>
        exact dOk0 [.s, .s, .s, .s, .s, .s, .s, .s, .s, .s, .s, .s] (obsE h0 (obsE h0 (obsE h0 (obsE h0 (obsE h1 (obsE h1 (obsE h1 (obsE h1 (obsE h2 (obsE h2 (obsE h2 (obsE h2 obsN)))))))))))) rfl rfl (by kernel_rfl)
    | true =>
      exact dOk0 [.s, .s, .s, .s, .s, .s, .s, .s, .s, .s, .s, .s] (obsE h0 (obsE h0 (obsE h0 (obsE h0 (obsE h1 (obsE h1 (obsE h1 (obsE h1 obsN)))))))) rfl rfl (by kernel_rfl)
  | true =>
    exact dOk0 [.s, .s, .s, .s, .s, .s, .s, .s, .s, .s, .s, .s] (obsE h0 (obsE h0 (obsE h0 (obsE h0 obsN)))) rfl rfl (by kernel_rfl)
def opR10 (a0 : Ope) : Bool := (cond (decide ((a0.qD : Int) < 0)) false (cond (decide ((a0.qD : Int) > 255)) false (cond (decide ((a0.qF : Int) < 0)) false (cond (decide ((a0.qF : Int) > 2)) false (cond ((a0.qH : Int) == 0) (cond ((a0.qF : Int) == 0) true false) false)))))
theorem opR10_ok (a0 : Ope) : Ck n_cubicleref18_Formed [.agg [.int .i64 10, .int .i64 a0.qD, .int .i64 a0.qF, .int .u64 a0.qH, .int .u64 a0.qA, .int .u64 a0.qB]] (.bool (opR10 a0)) := by
  unfold opR10
  cases h0 : (decide ((a0.qD : Int) < 0)) with
  | false =>
    cases h1 : (decide ((a0.qD : Int) > 255)) with
    | false =>
      cases h2 : (decide ((a0.qF : Int) < 0)) with
      | false =>
        cases h3 : (decide ((a0.qF : Int) > 2)) with
        | false =>
          cases h4 : ((a0.qH : Int) == 0) with
          | false =>
            exact dOk0 [.s, .s, .s, .s, .s, .s, .s, .s, .s, .s, .s, .s, .o, .o, .o, .o, .o, .o, .o, .o, .o, .o, .o, .o, .o, .s, .s, .s, .s, .s, .s, .s, .s, .s, .s, .s] (obsE h0 (obsE h0 (obsE h0 (obsE h0 (obsE h1 (obsE h1 (obsE h1 (obsE h1 (obsE h2 (obsE h2 (obsE h2 (obsE h2 (obsE h3 (obsE h4 (obsE h4 (obsE h4 (obsE h4 (obsE h4 obsN)))))))))))))))))) rfl rfl (by kernel_rfl)
          | true =>
            cases h5 : ((a0.qF : Int) == 0) with
            | false =>
              exact dOk0 [.s, .s, .s, .s, .s, .s, .s, .s, .s, .s, .s, .s, .o, .o, .o, .o, .o, .o, .o, .o, .o, .o, .o, .o, .o, .s, .s, .s, .s, .s, .s, .s, .s, .s, .s, .s, .o, .o, .s, .s, .o, .s, .s, .s, .o, .s, .o, .s, .s, .s, .s, .s, .s, .s, .s, .s, .s, .s, .s, .s, .s, .s, .s] (obsE h0 (obsE h0 (obsE h0 (obsE h0 (obsE h1 (obsE h1 (obsE h1 (obsE h1 (obsE h2 (obsE h2 (obsE h2 (obsE h2 (obsE h3 (obsE h4 (obsE h4 (obsE h4 (obsE h4 (obsE h4 (obsE h5 (obsE h5 (obsE h5 (obsE h5 (obsE h5 obsN))))))))))))))))))))))) rfl rfl (by kernel_rfl)
            | true =>
              exact dOk0 [.s, .s, .s, .s, .s, .s, .s, .s, .s, .s, .s, .s, .o, .o, .o, .o, .o, .o, .o, .o, .o, .o, .o, .o, .o, .s, .s, .s, .s, .s, .s, .s, .s, .s, .s, .s, .o, .o, .s, .s, .o, .s, .s, .s, .o, .s, .o, .s, .s, .s, .s, .s, .s, .s, .s, .s, .s, .s, .s, .s, .s, .s, .s, .o, .o, .s, .s, .s, .s, .o, .s, .s, .s, .o, .s] (obsE h0 (obsE h0 (obsE h0 (obsE h0 (obsE h1 (obsE h1 (obsE h1 (obsE h1 (obsE h2 (obsE h2 (obsE h2 (obsE h2 (obsE h3 (obsE h4 (obsE h4 (obsE h4 (obsE h4 (obsE h4 (obsE h5 (obsE h5 (obsE h5 (obsE h5 (obsE h5 obsN))))))))))))))))))))))) rfl rfl (by kernel_rfl)
        | true =>
          exact dOk0 [.s, .s, .s, .s, .s, .s, .s, .s, .s, .s, .s, .s] (obsE h0 (obsE h0 (obsE h0 (obsE h0 (obsE h1 (obsE h1 (obsE h1 (obsE h1 (obsE h2 (obsE h2 (obsE h2 (obsE h2 (obsE h3 obsN))))))))))))) rfl rfl (by kernel_rfl)
      | true =>
        exact dOk0 [.s, .s, .s, .s, .s, .s, .s, .s, .s, .s, .s, .s] (obsE h0 (obsE h0 (obsE h0 (obsE h0 (obsE h1 (obsE h1 (obsE h1 (obsE h1 (obsE h2 (obsE h2 (obsE h2 (obsE h2 obsN)))))))))))) rfl rfl (by kernel_rfl)
    | true =>
      exact dOk0 [.s, .s, .s, .s, .s, .s, .s, .s, .s, .s, .s, .s] (obsE h0 (obsE h0 (obsE h0 (obsE h0 (obsE h1 (obsE h1 (obsE h1 (obsE h1 obsN)))))))) rfl rfl (by kernel_rfl)
  | true =>
    exact dOk0 [.s, .s, .s, .s, .s, .s, .s, .s, .s, .s, .s, .s] (obsE h0 (obsE h0 (obsE h0 (obsE h0 obsN)))) rfl rfl (by kernel_rfl)
def opR11 (a0 : Ope) : Bool := (cond (decide ((a0.qD : Int) < 0)) false (cond (decide ((a0.qD : Int) > 255)) false (cond (decide ((a0.qF : Int) < 0)) false (cond (decide ((a0.qF : Int) > 2)) false (cond ((a0.qH : Int) == 0) (cond ((a0.qF : Int) == 0) ((a0.qB : Int) == 0) false) false)))))
theorem opR11_ok (a0 : Ope) : Ck n_cubicleref18_Formed [.agg [.int .i64 11, .int .i64 a0.qD, .int .i64 a0.qF, .int .u64 a0.qH, .int .u64 a0.qA, .int .u64 a0.qB]] (.bool (opR11 a0)) := by
  unfold opR11
  cases h0 : (decide ((a0.qD : Int) < 0)) with
  | false =>
    cases h1 : (decide ((a0.qD : Int) > 255)) with
    | false =>
      cases h2 : (decide ((a0.qF : Int) < 0)) with
      | false =>
        cases h3 : (decide ((a0.qF : Int) > 2)) with
        | false =>
          cases h4 : ((a0.qH : Int) == 0) with
          | false =>
            exact dOk0 [.s, .s, .s, .s, .s, .s, .s, .s, .s, .s, .s, .s, .o, .o, .o, .o, .o, .o, .o, .o, .o, .o, .o, .o, .o, .s, .s, .s, .s, .s, .s, .s, .s, .s] (obsE h0 (obsE h0 (obsE h0 (obsE h0 (obsE h1 (obsE h1 (obsE h1 (obsE h1 (obsE h2 (obsE h2 (obsE h2 (obsE h2 (obsE h3 (obsE h4 (obsE h4 (obsE h4 (obsE h4 (obsE h4 obsN)))))))))))))))))) rfl rfl (by kernel_rfl)
          | true =>
            cases h5 : ((a0.qF : Int) == 0) with
            | false =>
              exact dOk0 [.s, .s, .s, .s, .s, .s, .s, .s, .s, .s, .s, .s, .o, .o, .o, .o, .o, .o, .o, .o, .o, .o, .o, .o, .o, .s, .s, .s, .s, .s, .s, .s, .s, .s, .o, .o, .s, .s, .o, .s, .s, .s, .o, .s, .o, .s, .s, .s, .s, .s, .s, .s, .s, .s, .s, .s, .s, .s, .s] (obsE h0 (obsE h0 (obsE h0 (obsE h0 (obsE h1 (obsE h1 (obsE h1 (obsE h1 (obsE h2 (obsE h2 (obsE h2 (obsE h2 (obsE h3 (obsE h4 (obsE h4 (obsE h4 (obsE h4 (obsE h4 (obsE h5 (obsE h5 (obsE h5 (obsE h5 (obsE h5 obsN))))))))))))))))))))))) rfl rfl (by kernel_rfl)
            | true =>
              exact dOk0 [.s, .s, .s, .s, .s, .s, .s, .s, .s, .s, .s, .s, .o, .o, .o, .o, .o, .o, .o, .o, .o, .o, .o, .o, .o, .s, .s, .s, .s, .s, .s, .s, .s, .s, .o, .o, .s, .s, .o, .s, .s, .s, .o, .s, .o, .s, .s, .s, .s, .s, .s, .s, .s, .s, .s, .s, .s, .s, .s, .o, .o, .s, .s, .s, .s, .o, .s, .s, .s, .o, .s] (obsE h0 (obsE h0 (obsE h0 (obsE h0 (obsE h1 (obsE h1 (obsE h1 (obsE h1 (obsE h2 (obsE h2 (obsE h2 (obsE h2 (obsE h3 (obsE h4 (obsE h4 (obsE h4 (obsE h4 (obsE h4 (obsE h5 (obsE h5 (obsE h5 (obsE h5 (obsE h5 obsN))))))))))))))))))))))) rfl rfl (by kernel_rfl)
        | true =>
          exact dOk0 [.s, .s, .s, .s, .s, .s, .s, .s, .s, .s, .s, .s] (obsE h0 (obsE h0 (obsE h0 (obsE h0 (obsE h1 (obsE h1 (obsE h1 (obsE h1 (obsE h2 (obsE h2 (obsE h2 (obsE h2 (obsE h3 obsN))))))))))))) rfl rfl (by kernel_rfl)
      | true =>
        exact dOk0 [.s, .s, .s, .s, .s, .s, .s, .s, .s, .s, .s, .s] (obsE h0 (obsE h0 (obsE h0 (obsE h0 (obsE h1 (obsE h1 (obsE h1 (obsE h1 (obsE h2 (obsE h2 (obsE h2 (obsE h2 obsN)))))))))))) rfl rfl (by kernel_rfl)
    | true =>
      exact dOk0 [.s, .s, .s, .s, .s, .s, .s, .s, .s, .s, .s, .s] (obsE h0 (obsE h0 (obsE h0 (obsE h0 (obsE h1 (obsE h1 (obsE h1 (obsE h1 obsN)))))))) rfl rfl (by kernel_rfl)
  | true =>
    exact dOk0 [.s, .s, .s, .s, .s, .s, .s, .s, .s, .s, .s, .s] (obsE h0 (obsE h0 (obsE h0 (obsE h0 obsN)))) rfl rfl (by kernel_rfl)
def opR12 (a0 : Ope) : Bool := (cond (decide ((a0.qD : Int) < 0)) false (cond (decide ((a0.qD : Int) > 255)) false (cond (decide ((a0.qF : Int) < 0)) false (cond (decide ((a0.qF : Int) > 2)) false (cond ((a0.qH : Int) == 0) (cond ((a0.qF : Int) == 0) ((a0.qB : Int) == 0) false) false)))))
theorem opR12_ok (a0 : Ope) : Ck n_cubicleref18_Formed [.agg [.int .i64 12, .int .i64 a0.qD, .int .i64 a0.qF, .int .u64 a0.qH, .int .u64 a0.qA, .int .u64 a0.qB]] (.bool (opR12 a0)) := by
  unfold opR12
  cases h0 : (decide ((a0.qD : Int) < 0)) with
  | false =>
    cases h1 : (decide ((a0.qD : Int) > 255)) with
    | false =>
      cases h2 : (decide ((a0.qF : Int) < 0)) with
      | false =>
        cases h3 : (decide ((a0.qF : Int) > 2)) with
        | false =>
          cases h4 : ((a0.qH : Int) == 0) with
          | false =>
            exact dOk0 [.s, .s, .s, .s, .s, .s, .s, .s, .s, .s, .s, .s, .o, .o, .o, .o, .o, .o, .o, .o, .o, .o, .o, .o, .o, .s, .s, .s, .s, .s, .s, .s, .s, .s] (obsE h0 (obsE h0 (obsE h0 (obsE h0 (obsE h1 (obsE h1 (obsE h1 (obsE h1 (obsE h2 (obsE h2 (obsE h2 (obsE h2 (obsE h3 (obsE h4 (obsE h4 (obsE h4 (obsE h4 (obsE h4 obsN)))))))))))))))))) rfl rfl (by kernel_rfl)
          | true =>
            cases h5 : ((a0.qF : Int) == 0) with
            | false =>
              exact dOk0 [.s, .s, .s, .s, .s, .s, .s, .s, .s, .s, .s, .s, .o, .o, .o, .o, .o, .o, .o, .o, .o, .o, .o, .o, .o, .s, .s, .s, .s, .s, .s, .s, .s, .s, .o, .o, .s, .s, .o, .s, .s, .s, .o, .s, .o, .s, .s, .s, .s, .s, .s, .s, .s, .s, .s, .s, .s, .s, .s] (obsE h0 (obsE h0 (obsE h0 (obsE h0 (obsE h1 (obsE h1 (obsE h1 (obsE h1 (obsE h2 (obsE h2 (obsE h2 (obsE h2 (obsE h3 (obsE h4 (obsE h4 (obsE h4 (obsE h4 (obsE h4 (obsE h5 (obsE h5 (obsE h5 (obsE h5 (obsE h5 obsN))))))))))))))))))))))) rfl rfl (by kernel_rfl)
            | true =>
              exact dOk0 [.s, .s, .s, .s, .s, .s, .s, .s, .s, .s, .s, .s, .o, .o, .o, .o, .o, .o, .o, .o, .o, .o, .o, .o, .o, .s, .s, .s, .s, .s, .s, .s, .s, .s, .o, .o, .s, .s, .o, .s, .s, .s, .o, .s, .o, .s, .s, .s, .s, .s, .s, .s, .s, .s, .s, .s, .s, .s, .s, .o, .o, .s, .s, .s, .s, .o, .s, .s, .s, .o, .s] (obsE h0 (obsE h0 (obsE h0 (obsE h0 (obsE h1 (obsE h1 (obsE h1 (obsE h1 (obsE h2 (obsE h2 (obsE h2 (obsE h2 (obsE h3 (obsE h4 (obsE h4 (obsE h4 (obsE h4 (obsE h4 (obsE h5 (obsE h5 (obsE h5 (obsE h5 (obsE h5 obsN))))))))))))))))))))))) rfl rfl (by kernel_rfl)
        | true =>
          exact dOk0 [.s, .s, .s, .s, .s, .s, .s, .s, .s, .s, .s, .s] (obsE h0 (obsE h0 (obsE h0 (obsE h0 (obsE h1 (obsE h1 (obsE h1 (obsE h1 (obsE h2 (obsE h2 (obsE h2 (obsE h2 (obsE h3 obsN))))))))))))) rfl rfl (by kernel_rfl)
      | true =>
        exact dOk0 [.s, .s, .s, .s, .s, .s, .s, .s, .s, .s, .s, .s] (obsE h0 (obsE h0 (obsE h0 (obsE h0 (obsE h1 (obsE h1 (obsE h1 (obsE h1 (obsE h2 (obsE h2 (obsE h2 (obsE h2 obsN)))))))))))) rfl rfl (by kernel_rfl)
    | true =>
      exact dOk0 [.s, .s, .s, .s, .s, .s, .s, .s, .s, .s, .s, .s] (obsE h0 (obsE h0 (obsE h0 (obsE h0 (obsE h1 (obsE h1 (obsE h1 (obsE h1 obsN)))))))) rfl rfl (by kernel_rfl)
  | true =>
    exact dOk0 [.s, .s, .s, .s, .s, .s, .s, .s, .s, .s, .s, .s] (obsE h0 (obsE h0 (obsE h0 (obsE h0 obsN)))) rfl rfl (by kernel_rfl)
def opRT : Nat → Ope → Bool
  | 1, a0 => opR1 a0
  | 2, a0 => opR2 a0
  | 3, a0 => opR3 a0
  | 4, a0 => opR4 a0
  | 5, a0 => opR5 a0
  | 6, a0 => opR6 a0
  | 7, a0 => opR7 a0
  | 8, a0 => opR8 a0
  | 9, a0 => opR9 a0
  | 10, a0 => opR10 a0
  | 11, a0 => opR11 a0
  | 12, a0 => opR12 a0
  | _, _ => false
def opR (a0 : Ope) : Bool := opRT a0.qCode.toNat a0
theorem opR_in {c : Nat} (h1 : 1 ≤ c) (h2 : c ≤ 12) (a0 : Ope) (hc : a0.qCode = (c : Int)) : Ck n_cubicleref18_Formed [.agg a0.cs] (.bool (opR a0)) := by
  have hd : c = 1 ∨ c = 2 ∨ c = 3 ∨ c = 4 ∨ c = 5 ∨ c = 6 ∨ c = 7 ∨ c = 8 ∨ c = 9 ∨ c = 10 ∨ c = 11 ∨ c = 12 := by omega
  obtain ⟨q0, q1, q2, q3, q4, q5⟩ := a0
  simp only at hc
  subst hc
  rcases hd with rfl | rfl | rfl | rfl | rfl | rfl | rfl | rfl | rfl | rfl | rfl | rfl
  · exact opR1_ok ⟨1, q1, q2, q3, q4, q5⟩
  · exact opR2_ok ⟨2, q1, q2, q3, q4, q5⟩
  · exact opR3_ok ⟨3, q1, q2, q3, q4, q5⟩
  · exact opR4_ok ⟨4, q1, q2, q3, q4, q5⟩
  · exact opR5_ok ⟨5, q1, q2, q3, q4, q5⟩
  · exact opR6_ok ⟨6, q1, q2, q3, q4, q5⟩
  · exact opR7_ok ⟨7, q1, q2, q3, q4, q5⟩
  · exact opR8_ok ⟨8, q1, q2, q3, q4, q5⟩
  · exact opR9_ok ⟨9, q1, q2, q3, q4, q5⟩
  · exact opR10_ok ⟨10, q1, q2, q3, q4, q5⟩
  · exact opR11_ok ⟨11, q1, q2, q3, q4, q5⟩
  · exact opR12_ok ⟨12, q1, q2, q3, q4, q5⟩
theorem opR_ok (a0 : Ope) : Ck n_cubicleref18_Formed [.agg a0.cs] (.bool (opR a0)) := by
  by_cases hc : 1 ≤ a0.qCode ∧ a0.qCode ≤ 12
  · exact opR_in (c := a0.qCode.toNat) (by omega) (by omega) a0 (by omega)
  · have e : opR a0 = false := by
      unfold opR
      have : a0.qCode.toNat = 0 ∨ 13 ≤ a0.qCode.toNat := by omega
      rcases this with h | h
      · rw [h]; rfl
      · obtain ⟨z, hz⟩ : ∃ z, a0.qCode.toNat = z + 13 := ⟨a0.qCode.toNat - 13, by omega⟩
        rw [hz]; rfl
    rw [e]
    by_cases h : a0.qCode < 1
    · have q0 : (decide ((a0.qCode : Int) < 1)) = true := decide_eq_true h
      exact dOk0 [.o, .o, .o, .s] (obsE q0 (obsE q0 (obsE q0 (obsE q0 (obsE q0 (obsE q0 (obsE q0 obsN))))))) rfl rfl (by kernel_rfl)
    · have q0 : (decide ((a0.qCode : Int) < 1)) = false := decide_eq_false h
      have q1 : (decide ((a0.qCode : Int) > 12)) = true := decide_eq_true (by omega)
      exact dOk0 [] (obsE q0 (obsE q0 (obsE q0 (obsE q1 (obsE q0 (obsE q0 (obsE q0 (obsE q0 (obsE q1 (obsE q1 (obsE q1 (obsE q1 obsN)))))))))))) rfl rfl (by kernel_rfl)
def e_opR : List DV → Option DV
  | [.agg [.int .i64 y0, .int .i64 y1, .int .i64 y2, .int .u64 y3, .int .u64 y4, .int .u64 y5]] => some (.bool (opR ⟨y0, y1, y2, y3, y4, y5⟩))
  | _ => none
theorem e_opR_ok : ∀ args d, e_opR args = some d → Ck n_cubicleref18_Formed args d := by
  intro args d h
  unfold e_opR at h
  split at h
  · rename_i y0 y1 y2 y3 y4 y5; cases h; exact opR_ok ⟨y0, y1, y2, y3, y4, y5⟩
  · cases h
def sumd1 : Sums := sumsL [(n_cubicleref18_eight, e_eightG), (n_cubicleref18_Formed, e_opR)]
theorem sumd1_ok : SumsOk Tryz.prog sumd1 := sumsL_cons e_eightG_ok ((sumsL_cons e_opR_ok (sumsL_nil)))
theorem dOk1 {f : FuncId} {ds : List DV} {d : DV} {obs : List Ob} (ms : List Mk) (hob : ∀ x ∈ obs, x.ok Tryz.prog) (hds : bareL ds = true) (hd : d.bare = true) (h : ((deepS Auto.tab Auto.fns sumd1 1000 30) f ds (.rows []) (.go :: scOf ms obs)).map (fun r => (r.1, r.2.2.1, r.2.2.2.2.1)) = some (d, false, obs)) : Ck f ds d :=
  callOk_R (deepS_ok Auto.tabOk mixed Auto.fnsOk sumd1_ok 1000 30) ms hob hds hd h
def bytesR1 (a0 : Ope) : ByteArray := (cond (!(opR (⟨1, a0.qD, a0.qF, a0.qH, a0.qA, a0.qB⟩ : Ope))) ⟨#[]⟩ (strOf [1]))
theorem bytesR1_ok (a0 : Ope) : Ck n_cubicleref18_Bytes [.agg [.int .i64 1, .int .i64 a0.qD, .int .i64 a0.qF, .int .u64 a0.qH, .int .u64 a0.qA, .int .u64 a0.qB]] (.str (bytesR1 a0)) := by
  unfold bytesR1
  cases h0 : (!(opR (⟨1, a0.qD, a0.qF, a0.qH, a0.qA, a0.qB⟩ : Ope))) with
  | false =>
    exact dOk1 [] (obsE h0 obsN) rfl rfl (by kernel_rfl)
  | true =>
    exact dOk1 [] (obsE h0 obsN) rfl rfl (by kernel_rfl)
def bytesR2 (a0 : Ope) : ByteArray := (cond (!(opR (⟨2, a0.qD, a0.qF, a0.qH, a0.qA, a0.qB⟩ : Ope))) ⟨#[]⟩ (joinS (strOf [2]) (eightG a0.qH)))
theorem bytesR2_ok (a0 : Ope) : Ck n_cubicleref18_Bytes [.agg [.int .i64 2, .int .i64 a0.qD, .int .i64 a0.qF, .int .u64 a0.qH, .int .u64 a0.qA, .int .u64 a0.qB]] (.str (bytesR2 a0)) := by
  unfold bytesR2
  cases h0 : (!(opR (⟨2, a0.qD, a0.qF, a0.qH, a0.qA, a0.qB⟩ : Ope))) with
  | false =>
    exact dOk1 [] (obsE h0 obsN) rfl rfl (by kernel_rfl)
  | true =>
    exact dOk1 [] (obsE h0 obsN) rfl rfl (by kernel_rfl)
def bytesR3 (a0 : Ope) : ByteArray := (cond (!(opR (⟨3, a0.qD, a0.qF, a0.qH, a0.qA, a0.qB⟩ : Ope))) ⟨#[]⟩ (joinS (joinS (strOf [3]) (eightG a0.qH)) (strOf [(IntKind.u8.wrap a0.qF)])))
theorem bytesR3_ok (a0 : Ope) : Ck n_cubicleref18_Bytes [.agg [.int .i64 3, .int .i64 a0.qD, .int .i64 a0.qF, .int .u64 a0.qH, .int .u64 a0.qA, .int .u64 a0.qB]] (.str (bytesR3 a0)) := by
  unfold bytesR3
  cases h0 : (!(opR (⟨3, a0.qD, a0.qF, a0.qH, a0.qA, a0.qB⟩ : Ope))) with
  | false =>
    exact dOk1 [] (obsE h0 obsN) rfl rfl (by kernel_rfl)
  | true =>
    exact dOk1 [] (obsE h0 obsN) rfl rfl (by kernel_rfl)
def bytesR4 (a0 : Ope) : ByteArray := (cond (!(opR (⟨4, a0.qD, a0.qF, a0.qH, a0.qA, a0.qB⟩ : Ope))) ⟨#[]⟩ (joinS (joinS (joinS (strOf [4]) (eightG a0.qH)) (strOf [(IntKind.u8.wrap a0.qF)])) (eightG a0.qA)))
theorem bytesR4_ok (a0 : Ope) : Ck n_cubicleref18_Bytes [.agg [.int .i64 4, .int .i64 a0.qD, .int .i64 a0.qF, .int .u64 a0.qH, .int .u64 a0.qA, .int .u64 a0.qB]] (.str (bytesR4 a0)) := by
  unfold bytesR4
  cases h0 : (!(opR (⟨4, a0.qD, a0.qF, a0.qH, a0.qA, a0.qB⟩ : Ope))) with
  | false =>
    exact dOk1 [] (obsE h0 obsN) rfl rfl (by kernel_rfl)
  | true =>
    exact dOk1 [] (obsE h0 obsN) rfl rfl (by kernel_rfl)
def bytesR5 (a0 : Ope) : ByteArray := (cond (!(opR (⟨5, a0.qD, a0.qF, a0.qH, a0.qA, a0.qB⟩ : Ope))) ⟨#[]⟩ (joinS (joinS (joinS (joinS (strOf [5]) (eightG a0.qH)) (strOf [(IntKind.u8.wrap a0.qF)])) (eightG a0.qA)) (eightG a0.qB)))
theorem bytesR5_ok (a0 : Ope) : Ck n_cubicleref18_Bytes [.agg [.int .i64 5, .int .i64 a0.qD, .int .i64 a0.qF, .int .u64 a0.qH, .int .u64 a0.qA, .int .u64 a0.qB]] (.str (bytesR5 a0)) := by
  unfold bytesR5
  cases h0 : (!(opR (⟨5, a0.qD, a0.qF, a0.qH, a0.qA, a0.qB⟩ : Ope))) with
  | false =>
    exact dOk1 [] (obsE h0 obsN) rfl rfl (by kernel_rfl)
  | true =>
    exact dOk1 [] (obsE h0 obsN) rfl rfl (by kernel_rfl)
def bytesR6 (a0 : Ope) : ByteArray := (cond (!(opR (⟨6, a0.qD, a0.qF, a0.qH, a0.qA, a0.qB⟩ : Ope))) ⟨#[]⟩ (strOf [6]))
theorem bytesR6_ok (a0 : Ope) : Ck n_cubicleref18_Bytes [.agg [.int .i64 6, .int .i64 a0.qD, .int .i64 a0.qF, .int .u64 a0.qH, .int .u64 a0.qA, .int .u64 a0.qB]] (.str (bytesR6 a0)) := by
  unfold bytesR6
  cases h0 : (!(opR (⟨6, a0.qD, a0.qF, a0.qH, a0.qA, a0.qB⟩ : Ope))) with
  | false =>
    exact dOk1 [] (obsE h0 obsN) rfl rfl (by kernel_rfl)
  | true =>
    exact dOk1 [] (obsE h0 obsN) rfl rfl (by kernel_rfl)
def bytesR7 (a0 : Ope) : ByteArray := (cond (!(opR (⟨7, a0.qD, a0.qF, a0.qH, a0.qA, a0.qB⟩ : Ope))) ⟨#[]⟩ (joinS (joinS (strOf [7]) (strOf [(IntKind.u8.wrap a0.qD)])) (eightG a0.qA)))
theorem bytesR7_ok (a0 : Ope) : Ck n_cubicleref18_Bytes [.agg [.int .i64 7, .int .i64 a0.qD, .int .i64 a0.qF, .int .u64 a0.qH, .int .u64 a0.qA, .int .u64 a0.qB]] (.str (bytesR7 a0)) := by
  unfold bytesR7
  cases h0 : (!(opR (⟨7, a0.qD, a0.qF, a0.qH, a0.qA, a0.qB⟩ : Ope))) with
  | false =>
    exact dOk1 [] (obsE h0 obsN) rfl rfl (by kernel_rfl)
  | true =>
    exact dOk1 [] (obsE h0 obsN) rfl rfl (by kernel_rfl)
def bytesR8 (a0 : Ope) : ByteArray := (cond (!(opR (⟨8, a0.qD, a0.qF, a0.qH, a0.qA, a0.qB⟩ : Ope))) ⟨#[]⟩ (joinS (strOf [8]) (strOf [(IntKind.u8.wrap a0.qD)])))
theorem bytesR8_ok (a0 : Ope) : Ck n_cubicleref18_Bytes [.agg [.int .i64 8, .int .i64 a0.qD, .int .i64 a0.qF, .int .u64 a0.qH, .int .u64 a0.qA, .int .u64 a0.qB]] (.str (bytesR8 a0)) := by
  unfold bytesR8
  cases h0 : (!(opR (⟨8, a0.qD, a0.qF, a0.qH, a0.qA, a0.qB⟩ : Ope))) with
  | false =>
    exact dOk1 [] (obsE h0 obsN) rfl rfl (by kernel_rfl)
  | true =>
    exact dOk1 [] (obsE h0 obsN) rfl rfl (by kernel_rfl)
def bytesR9 (a0 : Ope) : ByteArray := (cond (!(opR (⟨9, a0.qD, a0.qF, a0.qH, a0.qA, a0.qB⟩ : Ope))) ⟨#[]⟩ (strOf [9]))
theorem bytesR9_ok (a0 : Ope) : Ck n_cubicleref18_Bytes [.agg [.int .i64 9, .int .i64 a0.qD, .int .i64 a0.qF, .int .u64 a0.qH, .int .u64 a0.qA, .int .u64 a0.qB]] (.str (bytesR9 a0)) := by
  unfold bytesR9
  cases h0 : (!(opR (⟨9, a0.qD, a0.qF, a0.qH, a0.qA, a0.qB⟩ : Ope))) with
  | false =>
    exact dOk1 [] (obsE h0 obsN) rfl rfl (by kernel_rfl)
  | true =>
    exact dOk1 [] (obsE h0 obsN) rfl rfl (by kernel_rfl)
def bytesR10 (a0 : Ope) : ByteArray := (cond (!(opR (⟨10, a0.qD, a0.qF, a0.qH, a0.qA, a0.qB⟩ : Ope))) ⟨#[]⟩ (joinS (joinS (joinS (strOf [10]) (strOf [(IntKind.u8.wrap a0.qD)])) (eightG a0.qA)) (eightG a0.qB)))
theorem bytesR10_ok (a0 : Ope) : Ck n_cubicleref18_Bytes [.agg [.int .i64 10, .int .i64 a0.qD, .int .i64 a0.qF, .int .u64 a0.qH, .int .u64 a0.qA, .int .u64 a0.qB]] (.str (bytesR10 a0)) := by
  unfold bytesR10
  cases h0 : (!(opR (⟨10, a0.qD, a0.qF, a0.qH, a0.qA, a0.qB⟩ : Ope))) with
  | false =>
    exact dOk1 [] (obsE h0 obsN) rfl rfl (by kernel_rfl)
  | true =>
    exact dOk1 [] (obsE h0 obsN) rfl rfl (by kernel_rfl)
def bytesR11 (a0 : Ope) : ByteArray := (cond (!(opR (⟨11, a0.qD, a0.qF, a0.qH, a0.qA, a0.qB⟩ : Ope))) ⟨#[]⟩ (joinS (joinS (strOf [11]) (strOf [(IntKind.u8.wrap a0.qD)])) (eightG a0.qA)))
theorem bytesR11_ok (a0 : Ope) : Ck n_cubicleref18_Bytes [.agg [.int .i64 11, .int .i64 a0.qD, .int .i64 a0.qF, .int .u64 a0.qH, .int .u64 a0.qA, .int .u64 a0.qB]] (.str (bytesR11 a0)) := by
  unfold bytesR11
  cases h0 : (!(opR (⟨11, a0.qD, a0.qF, a0.qH, a0.qA, a0.qB⟩ : Ope))) with
  | false =>
    exact dOk1 [] (obsE h0 obsN) rfl rfl (by kernel_rfl)
  | true =>
    exact dOk1 [] (obsE h0 obsN) rfl rfl (by kernel_rfl)
def bytesR12 (a0 : Ope) : ByteArray := (cond (!(opR (⟨12, a0.qD, a0.qF, a0.qH, a0.qA, a0.qB⟩ : Ope))) ⟨#[]⟩ (joinS (joinS (strOf [12]) (strOf [(IntKind.u8.wrap a0.qD)])) (eightG a0.qA)))
theorem bytesR12_ok (a0 : Ope) : Ck n_cubicleref18_Bytes [.agg [.int .i64 12, .int .i64 a0.qD, .int .i64 a0.qF, .int .u64 a0.qH, .int .u64 a0.qA, .int .u64 a0.qB]] (.str (bytesR12 a0)) := by
  unfold bytesR12
  cases h0 : (!(opR (⟨12, a0.qD, a0.qF, a0.qH, a0.qA, a0.qB⟩ : Ope))) with
  | false =>
    exact dOk1 [] (obsE h0 obsN) rfl rfl (by kernel_rfl)
  | true =>
    exact dOk1 [] (obsE h0 obsN) rfl rfl (by kernel_rfl)
def bytesRT : Nat → Ope → ByteArray
  | 1, a0 => bytesR1 a0
  | 2, a0 => bytesR2 a0
  | 3, a0 => bytesR3 a0
  | 4, a0 => bytesR4 a0
  | 5, a0 => bytesR5 a0
  | 6, a0 => bytesR6 a0
  | 7, a0 => bytesR7 a0
  | 8, a0 => bytesR8 a0
  | 9, a0 => bytesR9 a0
  | 10, a0 => bytesR10 a0
  | 11, a0 => bytesR11 a0
  | 12, a0 => bytesR12 a0
  | _, _ => ⟨#[]⟩
def bytesR (a0 : Ope) : ByteArray := bytesRT a0.qCode.toNat a0
theorem bytesR_in {c : Nat} (h1 : 1 ≤ c) (h2 : c ≤ 12) (a0 : Ope) (hc : a0.qCode = (c : Int)) : Ck n_cubicleref18_Bytes [.agg a0.cs] (.str (bytesR a0)) := by
  have hd : c = 1 ∨ c = 2 ∨ c = 3 ∨ c = 4 ∨ c = 5 ∨ c = 6 ∨ c = 7 ∨ c = 8 ∨ c = 9 ∨ c = 10 ∨ c = 11 ∨ c = 12 := by omega
  obtain ⟨q0, q1, q2, q3, q4, q5⟩ := a0
  simp only at hc
  subst hc
  rcases hd with rfl | rfl | rfl | rfl | rfl | rfl | rfl | rfl | rfl | rfl | rfl | rfl
  · exact bytesR1_ok ⟨1, q1, q2, q3, q4, q5⟩
  · exact bytesR2_ok ⟨2, q1, q2, q3, q4, q5⟩
  · exact bytesR3_ok ⟨3, q1, q2, q3, q4, q5⟩
  · exact bytesR4_ok ⟨4, q1, q2, q3, q4, q5⟩
  · exact bytesR5_ok ⟨5, q1, q2, q3, q4, q5⟩
  · exact bytesR6_ok ⟨6, q1, q2, q3, q4, q5⟩
  · exact bytesR7_ok ⟨7, q1, q2, q3, q4, q5⟩
  · exact bytesR8_ok ⟨8, q1, q2, q3, q4, q5⟩
  · exact bytesR9_ok ⟨9, q1, q2, q3, q4, q5⟩
  · exact bytesR10_ok ⟨10, q1, q2, q3, q4, q5⟩
  · exact bytesR11_ok ⟨11, q1, q2, q3, q4, q5⟩
  · exact bytesR12_ok ⟨12, q1, q2, q3, q4, q5⟩
theorem bytesR_ok (a0 : Ope) : Ck n_cubicleref18_Bytes [.agg a0.cs] (.str (bytesR a0)) := by
  by_cases hc : 1 ≤ a0.qCode ∧ a0.qCode ≤ 12
  · exact bytesR_in (c := a0.qCode.toNat) (by omega) (by omega) a0 (by omega)
  · have e : bytesR a0 = ⟨#[]⟩ := by
      unfold bytesR
      have : a0.qCode.toNat = 0 ∨ 13 ≤ a0.qCode.toNat := by omega
      rcases this with h | h
      · rw [h]; rfl
      · obtain ⟨z, hz⟩ : ∃ z, a0.qCode.toNat = z + 13 := ⟨a0.qCode.toNat - 13, by omega⟩
        rw [hz]; rfl
    rw [e]
    have q0 : (!(opR a0)) = true := by
      have e : opR a0 = false := by
        unfold opR
        have : a0.qCode.toNat = 0 ∨ 13 ≤ a0.qCode.toNat := by omega
        rcases this with h | h
        · rw [h]; rfl
        · obtain ⟨z, hz⟩ : ∃ z, a0.qCode.toNat = z + 13 := ⟨a0.qCode.toNat - 13, by omega⟩
          rw [hz]; rfl
      first | exact e | (rw [show opR _ = false from e]; rfl)
    exact dOk1 [] (obsE q0 obsN) rfl rfl (by kernel_rfl)
end Go.Proofs.YtehihnapbpcfbaaGreat.Fun
