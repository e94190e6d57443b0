/- The document says of the same operations that they are formed (printed by wip/histop.py). -/
import Derived.Test.YtpckjfncecoibaaGreatSums
namespace Go.Proofs.YtpckjfncecoibaaGreat.Fun
open Go
set_option linter.unusedVariables false
abbrev n_cubicleref18_Formed : FuncId := 130
def sumd0 : Sums := sumsL []
theorem sumd0_ok : SumsOk Tryz.prog sumd0 := sumsL_nil
theorem dOk0 {f : FuncId} {ds : List DV} {d : DV} {obs : List Ob} (ms : List Mk) (hob : ∀ x ∈ obs, x.ok Tryz.prog) (hds : bareL ds = true) (hd : d.bare = true) (h : ((deepS Auto.tab Auto.fns sumd0 1000 30) f ds (.rows []) (.go :: scOf ms obs)).map (fun r => (r.1, r.2.2.1, r.2.2.2.2.1)) = some (d, false, obs)) : Ck f ds d :=
  callOk_R (deepS_ok Auto.tabOk mixed Auto.fnsOk sumd0_ok 1000 30) ms hob hds hd h
def opR1 (a0 : Ope) : Bool := (cond (decide ((a0.qD : Int) < 0)) false (cond (decide ((a0.qD : Int) > 255)) false (cond (decide ((a0.qF : Int) < 0)) false (cond (decide ((a0.qF : Int) > 2)) false (cond ((a0.qH : Int) == 0) (cond ((a0.qD : Int) == 0) (cond ((a0.qF : Int) == 0) (cond ((a0.qA : Int) == 0) ((a0.qB : Int) == 0) false) false) false) false)))))
theorem opR1_ok (a0 : Ope) : Ck n_cubicleref18_Formed [.agg [.int .i64 1, .int .i64 a0.qD, .int .i64 a0.qF, .int .u64 a0.qH, .int .u64 a0.qA, .int .u64 a0.qB]] (.bool (opR1 a0)) := by
  unfold opR1
  cases h0 : (decide ((a0.qD : Int) < 0)) with
  | false =>
    cases h1 : (decide ((a0.qD : Int) > 255)) with
    | false =>
      cases h2 : (decide ((a0.qF : Int) < 0)) with
      | false =>
        cases h3 : (decide ((a0.qF : Int) > 2)) with
        | false =>
          cases h4 : ((a0.qH : Int) == 0) with
          | false =>
            exact dOk0 [.s, .s, .s, .s, .s, .s, .s, .s, .s, .s, .s, .s, .o, .o, .o, .o, .o, .o, .o, .o, .o, .o, .o, .o, .o, .s, .s, .s, .s, .s] (obsE h0 (obsE h0 (obsE h0 (obsE h0 (obsE h1 (obsE h1 (obsE h1 (obsE h1 (obsE h2 (obsE h2 (obsE h2 (obsE h2 (obsE h3 (obsE h4 (obsE h4 (obsE h4 (obsE h4 (obsE h4 obsN)))))))))))))))))) rfl rfl (by kernel_rfl)
          | true =>
            cases h5 : ((a0.qD : Int) == 0) with
            | false =>
              exact dOk0 [.s, .s, .s, .s, .s, .s, .s, .s, .s, .s, .s, .s, .o, .o, .o, .o, .o, .o, .o, .o, .o, .o, .o, .o, .o, .s, .s, .s, .s, .s, .o, .o, .s, .o, .s, .s, .s, .o, .s] (obsE h0 (obsE h0 (obsE h0 (obsE h0 (obsE h1 (obsE h1 (obsE h1 (obsE h1 (obsE h2 (obsE h2 (obsE h2 (obsE h2 (obsE h3 (obsE h4 (obsE h4 (obsE h4 (obsE h4 (obsE h4 (obsE h5 (obsE h5 (obsE h5 (obsE h5 (obsE h5 obsN))))))))))))))))))))))) rfl rfl (by kernel_rfl)
            | true =>
              cases h6 : ((a0.qF : Int) == 0) with
              | false =>
                exact dOk0 [.s, .s, .s, .s, .s, .s, .s, .s, .s, .s, .s, .s, .o, .o, .o, .o, .o, .o, .o, .o, .o, .o, .o, .o, .o, .s, .s, .s, .s, .s, .o, .o, .s, .o, .s, .s, .s, .o, .s, .o, .o, .o, .s, .o, .s, .s, .s, .o, .s] (obsE h0 (obsE h0 (obsE h0 (obsE h0 (obsE h1 (obsE h1 (obsE h1 (obsE h1 (obsE h2 (obsE h2 (obsE h2 (obsE h2 (obsE h3 (obsE h4 (obsE h4 (obsE h4 (obsE h4 (obsE h4 (obsE h5 (obsE h5 (obsE h5 (obsE h5 (obsE h5 (obsE h6 (obsE h6 (obsE h6 (obsE h6 (obsE h6 obsN)))))))))))))))))))))))))))) rfl rfl (by kernel_rfl)
              | true =>
                cases h7 : ((a0.qA : Int) == 0) with
                | false =>
                  exact dOk0 [.s, .s, .s, .s, .s, .s, .s, .s, .s, .s, .s, .s, .o, .o, .o, .o, .o, .o, .o, .o, .o, .o, .o, .o, .o, .s, .s, .s, .s, .s, .o, .o, .s, .o, .s, .s, .s, .o, .s, .o, .o, .o, .s, .o, .s, .s, .s, .o, .s, .o, .o, .o, .s, .o, .s, .s, .s, .o, .s] (obsE h0 (obsE h0 (obsE h0 (obsE h0 (obsE h1 (obsE h1 (obsE h1 (obsE h1 (obsE h2 (obsE h2 (obsE h2 (obsE h2 (obsE h3 (obsE h4 (obsE h4 (obsE h4 (obsE h4 (obsE h4 (obsE h5 (obsE h5 (obsE h5 (obsE h5 (obsE h5 (obsE h6 (obsE h6 (obsE h6 (obsE h6 (obsE h6 (obsE h7 (obsE h7 (obsE h7 (obsE h7 (obsE h7 obsN))))))))))))))))))))))))))))))))) rfl rfl (by kernel_rfl)
                | true =>
                  exact dOk0 [.s, .s, .s, .s, .s, .s, .s, .s, .s, .s, .s, .s, .o, .o, .o, .o, .o, .o, .o, .o, .o, .o, .o, .o, .o, .s, .s, .s, .s, .s, .o, .o, .s, .o, .s, .s, .s, .o, .s, .o, .o, .o, .s, .o, .s, .s, .s, .o, .s, .o, .o, .o, .s, .o, .s, .s, .s, .o, .s, .o, .o, .o, .s, .o, .s, .s, .s, .o, .s] (obsE h0 (obsE h0 (obsE h0 (obsE h0 (obsE h1 (obsE h1 (obsE h1 (obsE h1 (obsE h2 (obsE h2 (obsE h2 (obsE h2 (obsE h3 (obsE h4 (obsE h4 (obsE h4 (obsE h4 (obsE h4 (obsE h5 (obsE h5 (obsE h5 (obsE h5 (obsE h5 (obsE h6 (obsE h6 (obsE h6 (obsE h6 (obsE h6 (obsE h7 (obsE h7 (obsE h7 (obsE h7 (obsE h7 obsN))))))))))))))))))))))))))))))))) rfl rfl (by kernel_rfl)
        | true =>
          exact dOk0 [.s, .s, .s, .s, .s, .s, .s, .s, .s, .s, .s, .s] (obsE h0 (obsE h0 (obsE h0 (obsE h0 (obsE h1 (obsE h1 (obsE h1 (obsE h1 (obsE h2 (obsE h2 (obsE h2 (obsE h2 (obsE h3 obsN))))))))))))) rfl rfl (by kernel_rfl)
      | true =>
        exact dOk0 [.s, .s, .s, .s, .s, .s, .s, .s, .s, .s, .s, .s] (obsE h0 (obsE h0 (obsE h0 (obsE h0 (obsE h1 (obsE h1 (obsE h1 (obsE h1 (obsE h2 (obsE h2 (obsE h2 (obsE h2 obsN)))))))))))) rfl rfl (by kernel_rfl)
    | true =>
      exact dOk0 [.s, .s, .s, .s, .s, .s, .s, .s, .s, .s, .s, .s] (obsE h0 (obsE h0 (obsE h0 (obsE h0 (obsE h1 (obsE h1 (obsE h1 (obsE h1 obsN)))))))) rfl rfl (by kernel_rfl)
  | true =>
    exact dOk0 [.s, .s, .s, .s, .s, .s, .s, .s, .s, .s, .s, .s] (obsE h0 (obsE h0 (obsE h0 (obsE h0 obsN)))) rfl rfl (by kernel_rfl)
def opR2 (a0 : Ope) : Bool := (cond (decide ((a0.qD : Int) < 0)) false (cond (decide ((a0.qD : Int) > 255)) false (cond (decide ((a0.qF : Int) < 0)) false (cond (decide ((a0.qF : Int) > 2)) false (cond ((a0.qD : Int) == 0) (cond ((a0.qF : Int) == 0) (cond ((a0.qA : Int) == 0) ((a0.qB : Int) == 0) false) false) false)))))
theorem opR2_ok (a0 : Ope) : Ck n_cubicleref18_Formed [.agg [.int .i64 2, .int .i64 a0.qD, .int .i64 a0.qF, .int .u64 a0.qH, .int .u64 a0.qA, .int .u64 a0.qB]] (.bool (opR2 a0)) := by
  unfold opR2
  cases h0 : (decide ((a0.qD : Int) < 0)) with
  | false =>
    cases h1 : (decide ((a0.qD : Int) > 255)) with
    | false =>
      cases h2 : (decide ((a0.qF : Int) < 0)) with
      | false =>
        cases h3 : (decide ((a0.qF : Int) > 2)) with
        | false =>
          cases h4 : ((a0.qD : Int) == 0) with
          | false =>
            exact dOk0 [.s, .s, .s, .s, .s, .s, .s, .s, .s, .s, .s, .s, .o, .o, .o, .o, .o, .o, .o, .o, .o, .o, .o, .o, .o, .s, .s, .s, .s, .s, .s, .s, .s, .s, .s, .s, .s, .s, .s, .s, .s, .s, .s] (obsE h0 (obsE h0 (obsE h0 (obsE h0 (obsE h1 (obsE h1 (obsE h1 (obsE h1 (obsE h2 (obsE h2 (obsE h2 (obsE h2 (obsE h3 (obsE h4 (obsE h4 (obsE h4 (obsE h4 (obsE h4 obsN)))))))))))))))))) rfl rfl (by kernel_rfl)
          | true =>
            cases h5 : ((a0.qF : Int) == 0) with
            | false =>
              exact dOk0 [.s, .s, .s, .s, .s, .s, .s, .s, .s, .s, .s, .s, .o, .o, .o, .o, .o, .o, .o, .o, .o, .o, .o, .o, .o, .s, .s, .s, .s, .s, .s, .s, .s, .s, .s, .s, .s, .s, .s, .s, .s, .s, .s, .o, .o, .s, .s, .s, .o, .s, .s, .s, .o, .s] (obsE h0 (obsE h0 (obsE h0 (obsE h0 (obsE h1 (obsE h1 (obsE h1 (obsE h1 (obsE h2 (obsE h2 (obsE h2 (obsE h2 (obsE h3 (obsE h4 (obsE h4 (obsE h4 (obsE h4 (obsE h4 (obsE h5 (obsE h5 (obsE h5 (obsE h5 (obsE h5 obsN))))))))))))))))))))))) rfl rfl (by kernel_rfl)
            | true =>
              cases h6 : ((a0.qA : Int) == 0) with
              | false =>
                exact dOk0 [.s, .s, .s, .s, .s, .s, .s, .s, .s, .s, .s, .s, .o, .o, .o, .o, .o, .o, .o, .o, .o, .o, .o, .o, .o, .s, .s, .s, .s, .s, .s, .s, .s, .s, .s, .s, .s, .s, .s, .s, .s, .s, .s, .o, .o, .s, .s, .s, .o, .s, .s, .s, .o, .s, .o, .o, .o, .s, .s, .s, .o, .s, .s, .s, .o, .s] (obsE h0 (obsE h0 (obsE h0 (obsE h0 (obsE h1 (obsE h1 (obsE h1 (obsE h1 (obsE h2 (obsE h2 (obsE h2 (obsE h2 (obsE h3 (obsE h4 (obsE h4 (obsE h4 (obsE h4 (obsE h4 (obsE h5 (obsE h5 (obsE h5 (obsE h5 (obsE h5 (obsE h6 (obsE h6 (obsE h6 (obsE h6 (obsE h6 obsN)))))))))))))))))))))))))))) rfl rfl (by kernel_rfl)
              | true =>
                exact dOk0 [.s, .s, .s, .s, .s, .s, .s, .s, .s, .s, .s, .s, .o, .o, .o, .o, .o, .o, .o, .o, .o, .o, .o, .o, .o, .s, .s, .s, .s, .s, .s, .s, .s, .s, .s, .s, .s, .s, .s, .s, .s, .s, .s, .o, .o, .s, .s, .s, .o, .s, .s, .s, .o, .s, .o, .o, .o, .s, .s, .s, .o, .s, .s, .s, .o, .s, .o, .o, .o, .s, .s, .s, .o, .s, .s, .s, .o, .s] (obsE h0 (obsE h0 (obsE h0 (obsE h0 (obsE h1 (obsE h1 (obsE h1 (obsE h1 (obsE h2 (obsE h2 (obsE h2 (obsE h2 (obsE h3 (obsE h4 (obsE h4 (obsE h4 (obsE h4 (obsE h4 (obsE h5 (obsE h5 (obsE h5 (obsE h5 (obsE h5 (obsE h6 (obsE h6 (obsE h6 (obsE h6 (obsE h6 obsN)))))))))))))))))))))))))))) rfl rfl (by kernel_rfl)
        | true =>
          exact dOk0 [.s, .s, .s, .s, .s, .s, .s, .s, .s, .s, .s, .s] (obsE h0 (obsE h0 (obsE h0 (obsE h0 (obsE h1 (obsE h1 (obsE h1 (obsE h1 (obsE h2 (obsE h2 (obsE h2 (obsE h2 (obsE h3 obsN))))))))))))) rfl rfl (by kernel_rfl)
      | true =>
        exact dOk0 [.s, .s, .s, .s, .s, .s, .s, .s, .s, .s, .s, .s] (obsE h0 (obsE h0 (obsE h0 (obsE h0 (obsE h1 (obsE h1 (obsE h1 (obsE h1 (obsE h2 (obsE h2 (obsE h2 (obsE h2 obsN)))))))))))) rfl rfl (by kernel_rfl)
    | true =>
      exact dOk0 [.s, .s, .s, .s, .s, .s, .s, .s, .s, .s, .s, .s] (obsE h0 (obsE h0 (obsE h0 (obsE h0 (obsE h1 (obsE h1 (obsE h1 (obsE h1 obsN)))))))) rfl rfl (by kernel_rfl)
  | true =>
    exact dOk0 [.s, .s, .s, .s, .s, .s, .s, .s, .s, .s, .s, .s] (obsE h0 (obsE h0 (obsE h0 (obsE h0 obsN)))) rfl rfl (by kernel_rfl)
def opR3 (a0 : Ope) : Bool := (cond (decide ((a0.qD : Int) < 0)) false (cond (decide ((a0.qD : Int) > 255)) false (cond (decide ((a0.qF : Int) < 0)) false (cond (decide ((a0.qF : Int) > 2)) false (cond ((a0.qD : Int) == 0) (cond ((a0.qA : Int) == 0) ((a0.qB : Int) == 0) false) false)))))
theorem opR3_ok (a0 : Ope) : Ck n_cubicleref18_Formed [.agg [.int .i64 3, .int .i64 a0.qD, .int .i64 a0.qF, .int .u64 a0.qH, .int .u64 a0.qA, .int .u64 a0.qB]] (.bool (opR3 a0)) := by
  unfold opR3
  cases h0 : (decide ((a0.qD : Int) < 0)) with
  | false =>
    cases h1 : (decide ((a0.qD : Int) > 255)) with
    | false =>
      cases h2 : (decide ((a0.qF : Int) < 0)) with
      | false =>
        cases h3 : (decide ((a0.qF : Int) > 2)) with
        | false =>
          cases h4 : ((a0.qD : Int) == 0) with
          | false =>
            exact dOk0 [.s, .s, .s, .s, .s, .s, .s, .s, .s, .s, .s, .s, .o, .o, .o, .o, .o, .o, .o, .o, .o, .o, .o, .o, .o, .s, .s, .s, .s, .s, .s, .s, .s, .s, .s, .s, .s, .s, .s, .s, .s, .s, .s, .s, .s] (obsE h0 (obsE h0 (obsE h0 (obsE h0 (obsE h1 (obsE h1 (obsE h1 (obsE h1 (obsE h2 (obsE h2 (obsE h2 (obsE h2 (obsE h3 (obsE h4 (obsE h4 (obsE h4 (obsE h4 (obsE h4 obsN)))))))))))))))))) rfl rfl (by kernel_rfl)
          | true =>
            cases h5 : ((a0.qA : Int) == 0) with
            | false =>
              exact dOk0 [.s, .s, .s, .s, .s, .s, .s, .s, .s, .s, .s, .s, .o, .o, .o, .o, .o, .o, .o, .o, .o, .o, .o, .o, .o, .s, .s, .s, .s, .s, .s, .s, .s, .s, .s, .s, .s, .s, .s, .s, .s, .s, .s, .s, .s, .o, .o, .s, .s, .s, .s, .o, .s, .s, .s, .o, .s, .o, .s, .s, .s, .s, .s, .s, .s, .s, .s, .s, .s, .s, .s, .s] (obsE h0 (obsE h0 (obsE h0 (obsE h0 (obsE h1 (obsE h1 (obsE h1 (obsE h1 (obsE h2 (obsE h2 (obsE h2 (obsE h2 (obsE h3 (obsE h4 (obsE h4 (obsE h4 (obsE h4 (obsE h4 (obsE h5 (obsE h5 (obsE h5 (obsE h5 (obsE h5 obsN))))))))))))))))))))))) rfl rfl (by kernel_rfl)
            | true =>
              exact dOk0 [.s, .s, .s, .s, .s, .s, .s, .s, .s, .s, .s, .s, .o, .o, .o, .o, .o, .o, .o, .o, .o, .o, .o, .o, .o, .s, .s, .s, .s, .s, .s, .s, .s, .s, .s, .s, .s, .s, .s, .s, .s, .s, .s, .s, .s, .o, .o, .s, .s, .s, .s, .o, .s, .s, .s, .o, .s, .o, .s, .s, .s, .s, .s, .s, .s, .s, .s, .s, .s, .s, .s, .s, .o, .o, .s, .s, .s, .s, .s, .o, .s, .s, .s, .o, .s] (obsE h0 (obsE h0 (obsE h0 (obsE h0 (obsE h1 (obsE h1 (obsE h1 (obsE h1 (obsE h2 (obsE h2 (obsE h2 (obsE h2 (obsE h3 (obsE h4 (obsE h4 (obsE h4 (obsE h4 (obsE h4 (obsE h5 (obsE h5 (obsE h5 (obsE h5 (obsE h5 obsN))))))))))))))))))))))) rfl rfl (by kernel_rfl)
        | true =>
          exact dOk0 [.s, .s, .s, .s, .s, .s, .s, .s, .s, .s, .s, .s] (obsE h0 (obsE h0 (obsE h0 (obsE h0 (obsE h1 (obsE h1 (obsE h1 (obsE h1 (obsE h2 (obsE h2 (obsE h2 (obsE h2 (obsE h3 obsN))))))))))))) rfl rfl (by kernel_rfl)
      | true =>
        exact dOk0 [.s, .s, .s, .s, .s, .s, .s, .s, .s, .s, .s, .s] (obsE h0 (obsE h0 (obsE h0 (obsE h0 (obsE h1 (obsE h1 (obsE h1 (obsE h1 (obsE h2 (obsE h2 (obsE h2 (obsE h2 obsN)))))))))))) rfl rfl (by kernel_rfl)
    | true =>
      exact dOk0 [.s, .s, .s, .s, .s, .s, .s, .s, .s, .s, .s, .s] (obsE h0 (obsE h0 (obsE h0 (obsE h0 (obsE h1 (obsE h1 (obsE h1 (obsE h1 obsN)))))))) rfl rfl (by kernel_rfl)
  | true =>
    exact dOk0 [.s, .s, .s, .s, .s, .s, .s, .s, .s, .s, .s, .s] (obsE h0 (obsE h0 (obsE h0 (obsE h0 obsN)))) rfl rfl (by kernel_rfl)
def opR4 (a0 : Ope) : Bool := (cond (decide ((a0.qD : Int) < 0)) false (cond (decide ((a0.qD : Int) > 255)) false (cond (decide ((a0.qF : Int) < 0)) false (cond (decide ((a0.qF : Int) > 2)) false (cond ((a0.qD : Int) == 0) ((a0.qB : Int) == 0) false)))))
theorem opR4_ok (a0 : Ope) : Ck n_cubicleref18_Formed [.agg [.int .i64 4, .int .i64 a0.qD, .int .i64 a0.qF, .int .u64 a0.qH, .int .u64 a0.qA, .int .u64 a0.qB]] (.bool (opR4 a0)) := by
  unfold opR4
  cases h0 : (decide ((a0.qD : Int) < 0)) with
  | false =>
    cases h1 : (decide ((a0.qD : Int) > 255)) with
    | false =>
      cases h2 : (decide ((a0.qF : Int) < 0)) with
      | false =>
        cases h3 : (decide ((a0.qF : Int) > 2)) with
        | false =>
          cases h4 : ((a0.qD : Int) == 0) with
          | false =>
            exact dOk0 [.s, .s, .s, .s, .s, .s, .s, .s, .s, .s, .s, .s, .o, .o, .o, .o, .o, .o, .o, .o, .o, .o, .o, .o, .o, .s, .s, .s, .s, .s, .s, .s, .s, .s, .s, .s, .s, .s, .s, .s, .s, .s, .s, .s, .s, .s, .s] (obsE h0 (obsE h0 (obsE h0 (obsE h0 (obsE h1 (obsE h1 (obsE h1 (obsE h1 (obsE h2 (obsE h2 (obsE h2 (obsE h2 (obsE h3 (obsE h4 (obsE h4 (obsE h4 (obsE h4 (obsE h4 obsN)))))))))))))))))) rfl rfl (by kernel_rfl)
          | true =>
            exact dOk0 [.s, .s, .s, .s, .s, .s, .s, .s, .s, .s, .s, .s, .o, .o, .o, .o, .o, .o, .o, .o, .o, .o, .o, .o, .o, .s, .s, .s, .s, .s, .s, .s, .s, .s, .s, .s, .s, .s, .s, .s, .s, .s, .s, .s, .s, .s, .s, .o, .o, .s, .s, .s, .s, .o, .s, .s, .s, .o, .s] (obsE h0 (obsE h0 (obsE h0 (obsE h0 (obsE h1 (obsE h1 (obsE h1 (obsE h1 (obsE h2 (obsE h2 (obsE h2 (obsE h2 (obsE h3 (obsE h4 (obsE h4 (obsE h4 (obsE h4 (obsE h4 obsN)))))))))))))))))) rfl rfl (by kernel_rfl)
        | true =>
          exact dOk0 [.s, .s, .s, .s, .s, .s, .s, .s, .s, .s, .s, .s] (obsE h0 (obsE h0 (obsE h0 (obsE h0 (obsE h1 (obsE h1 (obsE h1 (obsE h1 (obsE h2 (obsE h2 (obsE h2 (obsE h2 (obsE h3 obsN))))))))))))) rfl rfl (by kernel_rfl)
      | true =>
        exact dOk0 [.s, .s, .s, .s, .s, .s, .s, .s, .s, .s, .s, .s] (obsE h0 (obsE h0 (obsE h0 (obsE h0 (obsE h1 (obsE h1 (obsE h1 (obsE h1 (obsE h2 (obsE h2 (obsE h2 (obsE h2 obsN)))))))))))) rfl rfl (by kernel_rfl)
    | true =>
      exact dOk0 [.s, .s, .s, .s, .s, .s, .s, .s, .s, .s, .s, .s] (obsE h0 (obsE h0 (obsE h0 (obsE h0 (obsE h1 (obsE h1 (obsE h1 (obsE h1 obsN)))))))) rfl rfl (by kernel_rfl)
  | true =>
    exact dOk0 [.s, .s, .s, .s, .s, .s, .s, .s, .s, .s, .s, .s] (obsE h0 (obsE h0 (obsE h0 (obsE h0 obsN)))) rfl rfl (by kernel_rfl)
def opR5 (a0 : Ope) : Bool := (cond (decide ((a0.qD : Int) < 0)) false (cond (decide ((a0.qD : Int) > 255)) false (cond (decide ((a0.qF : Int) < 0)) false (cond (decide ((a0.qF : Int) > 2)) false (cond ((a0.qD : Int) == 0) true false)))))
theorem opR5_ok (a0 : Ope) : Ck n_cubicleref18_Formed [.agg [.int .i64 5, .int .i64 a0.qD, .int .i64 a0.qF, .int .u64 a0.qH, .int .u64 a0.qA, .int .u64 a0.qB]] (.bool (opR5 a0)) := by
  unfold opR5
  cases h0 : (decide ((a0.qD : Int) < 0)) with
  | false =>
    cases h1 : (decide ((a0.qD : Int) > 255)) with
    | false =>
      cases h2 : (decide ((a0.qF : Int) < 0)) with
      | false =>
        cases h3 : (decide ((a0.qF : Int) > 2)) with
        | false =>
          cases h4 : ((a0.qD : Int) == 0) with
          | false =>
            exact dOk0 [.s, .s, .s, .s, .s, .s, .s, .s, .s, .s, .s, .s, .o, .o, .o, .o, .o, .o, .o, .o, .o, .o, .o, .o, .o, .s, .s, .s, .s, .s, .s, .s, .s, .s, .s, .s, .s, .s, .s, .s, .s, .s, .s, .s, .s, .s, .s, .s, .s] (obsE h0 (obsE h0 (obsE h0 (obsE h0 (obsE h1 (obsE h1 (obsE h1 (obsE h1 (obsE h2 (obsE h2 (obsE h2 (obsE h2 (obsE h3 (obsE h4 (obsE h4 (obsE h4 (obsE h4 (obsE h4 obsN)))))))))))))))))) rfl rfl (by kernel_rfl)
          | true =>
            exact dOk0 [.s, .s, .s, .s, .s, .s, .s, .s, .s, .s, .s, .s, .o, .o, .o, .o, .o, .o, .o, .o, .o, .o, .o, .o, .o, .s, .s, .s, .s, .s, .s, .s, .s, .s, .s, .s, .s, .s, .s, .s, .s, .s, .s, .s, .s, .s, .s, .s, .s, .o, .o, .s, .s, .s, .s, .o, .s, .s, .s, .o, .s] (obsE h0 (obsE h0 (obsE h0 (obsE h0 (obsE h1 (obsE h1 (obsE h1 (obsE h1 (obsE h2 (obsE h2 (obsE h2 (obsE h2 (obsE h3 (obsE h4 (obsE h4 (obsE h4 (obsE h4 (obsE h4 obsN)))))))))))))))))) rfl rfl (by kernel_rfl)
        | true =>
          exact dOk0 [.s, .s, .s, .s, .s, .s, .s, .s, .s, .s, .s, .s] (obsE h0 (obsE h0 (obsE h0 (obsE h0 (obsE h1 (obsE h1 (obsE h1 (obsE h1 (obsE h2 (obsE h2 (obsE h2 (obsE h2 (obsE h3 obsN))))))))))))) rfl rfl (by kernel_rfl)
      | true =>
        exact dOk0 [.s, .s, .s, .s, .s, .s, .s, .s, .s, .s, .s, .s] (obsE h0 (obsE h0 (obsE h0 (obsE h0 (obsE h1 (obsE h1 (obsE h1 (obsE h1 (obsE h2 (obsE h2 (obsE h2 (obsE h2 obsN)))))))))))) rfl rfl (by kernel_rfl)
    | true =>
      exact dOk0 [.s, .s, .s, .s, .s, .s, .s, .s, .s, .s, .s, .s] (obsE h0 (obsE h0 (obsE h0 (obsE h0 (obsE h1 (obsE h1 (obsE h1 (obsE h1 obsN)))))))) rfl rfl (by kernel_rfl)
  | true =>
    exact dOk0 [.s, .s, .s, .s, .s, .s, .s, .s, .s, .s, .s, .s] (obsE h0 (obsE h0 (obsE h0 (obsE h0 obsN)))) rfl rfl (by kernel_rfl)
def opR6 (a0 : Ope) : Bool := (cond (decide ((a0.qD : Int) < 0)) false (cond (decide ((a0.qD : Int) > 255)) false (cond (decide ((a0.qF : Int) < 0)) false (cond (decide ((a0.qF : Int) > 2)) false (cond ((a0.qH : Int) == 0) (cond ((a0.qD : Int) == 0) (cond ((a0.qF : Int) == 0) (cond ((a0.qA : Int) == 0) ((a0.qB : Int) == 0) false) false) false) false)))))
theorem opR6_ok (a0 : Ope) : Ck n_cubicleref18_Formed [.agg [.int .i64 6, .int .i64 a0.qD, .int .i64 a0.qF, .int .u64 a0.qH, .int .u64 a0.qA, .int .u64 a0.qB]] (.bool (opR6 a0)) := by
  unfold opR6
  cases h0 : (decide ((a0.qD : Int) < 0)) with
  | false =>
    cases h1 : (decide ((a0.qD : Int) > 255)) with
    | false =>
      cases h2 : (decide ((a0.qF : Int) < 0)) with
      | false =>
        cases h3 : (decide ((a0.qF : Int) > 2)) with
        | false =>
          cases h4 : ((a0.qH : Int) == 0) with
          | false =>
            exact dOk0 [.s, .s, .s, .s, .s, .s, .s, .s, .s, .s, .s, .s, .o, .o, .o, .o, .o, .o, .o, .o, .o, .o, .o, .o, .o, .s, .s, .s, .s, .s] (obsE h0 (obsE h0 (obsE h0 (obsE h0 (obsE h1 (obsE h1 (obsE h1 (obsE h1 (obsE h2 (obsE h2 (obsE h2 (obsE h2 (obsE h3 (obsE h4 (obsE h4 (obsE h4 (obsE h4 (obsE h4 obsN)))))))))))))))))) rfl rfl (by kernel_rfl)
          | true =>
            cases h5 : ((a0.qD : Int) == 0) with
            | false =>
              exact dOk0 [.s, .s, .s, .s, .s, .s, .s, .s, .s, .s, .s, .s, .o, .o, .o, .o, .o, .o, .o, .o, .o, .o, .o, .o, .o, .s, .s, .s, .s, .s, .o, .o, .s, .o, .s, .s, .s, .o, .s] (obsE h0 (obsE h0 (obsE h0 (obsE h0 (obsE h1 (obsE h1 (obsE h1 (obsE h1 (obsE h2 (obsE h2 (obsE h2 (obsE h2 (obsE h3 (obsE h4 (obsE h4 (obsE h4 (obsE h4 (obsE h4 (obsE h5 (obsE h5 (obsE h5 (obsE h5 (obsE h5 obsN))))))))))))))))))))))) rfl rfl (by kernel_rfl)
            | true =>
              cases h6 : ((a0.qF : Int) == 0) with
              | false =>
                exact dOk0 [.s, .s, .s, .s, .s, .s, .s, .s, .s, .s, .s, .s, .o, .o, .o, .o, .o, .o, .o, .o, .o, .o, .o, .o, .o, .s, .s, .s, .s, .s, .o, .o, .s, .o, .s, .s, .s, .o, .s, .o, .o, .o, .s, .o, .s, .s, .s, .o, .s] (obsE h0 (obsE h0 (obsE h0 (obsE h0 (obsE h1 (obsE h1 (obsE h1 (obsE h1 (obsE h2 (obsE h2 (obsE h2 (obsE h2 (obsE h3 (obsE h4 (obsE h4 (obsE h4 (obsE h4 (obsE h4 (obsE h5 (obsE h5 (obsE h5 (obsE h5 (obsE h5 (obsE h6 (obsE h6 (obsE h6 (obsE h6 (obsE h6 obsN)))))))))))))))))))))))))))) rfl rfl (by kernel_rfl)
              | true =>
                cases h7 : ((a0.qA : Int) == 0) with
                | false =>
                  exact dOk0 [.s, .s, .s, .s, .s, .s, .s, .s, .s, .s, .s, .s, .o, .o, .o, .o, .o, .o, .o, .o, .o, .o, .o, .o, .o, .s, .s, .s, .s, .s, .o, .o, .s, .o, .s, .s, .s, .o, .s, .o, .o, .o, .s, .o, .s, .s, .s, .o, .s, .o, .o, .o, .s, .o, .s, .s, .s, .o, .s] (obsE h0 (obsE h0 (obsE h0 (obsE h0 (obsE h1 (obsE h1 (obsE h1 (obsE h1 (obsE h2 (obsE h2 (obsE h2 (obsE h2 (obsE h3 (obsE h4 (obsE h4 (obsE h4 (obsE h4 (obsE h4 (obsE h5 (obsE h5 (obsE h5 (obsE h5 (obsE h5 (obsE h6 (obsE h6 (obsE h6 (obsE h6 (obsE h6 (obsE h7 (obsE h7 (obsE h7 (obsE h7 (obsE h7 obsN))))))))))))))))))))))))))))))))) rfl rfl (by kernel_rfl)
                | true =>
                  exact dOk0 [.s, .s, .s, .s, .s, .s, .s, .s, .s, .s, .s, .s, .o, .o, .o, .o, .o, .o, .o, .o, .o, .o, .o, .o, .o, .s, .s, .s, .s, .s, .o, .o, .s, .o, .s, .s, .s, .o, .s, .o, .o, .o, .s, .o, .s, .s, .s, .o, .s, .o, .o, .o, .s, .o, .s, .s, .s, .o, .s, .o, .o, .o, .s, .o, .s, .s, .s, .o, .s] (obsE h0 (obsE h0 (obsE h0 (obsE h0 (obsE h1 (obsE h1 (obsE h1 (obsE h1 (obsE h2 (obsE h2 (obsE h2 (obsE h2 (obsE h3 (obsE h4 (obsE h4 (obsE h4 (obsE h4 (obsE h4 (obsE h5 (obsE h5 (obsE h5 (obsE h5 (obsE h5 (obsE h6 (obsE h6 (obsE h6 (obsE h6 (obsE h6 (obsE h7 (obsE h7 (obsE h7 (obsE h7 (obsE h7 obsN))))))))))))))))))))))))))))))))) rfl rfl (by kernel_rfl)
        | true =>
          exact dOk0 [.s, .s, .s, .s, .s, .s, .s, .s, .s, .s, .s, .s] (obsE h0 (obsE h0 (obsE h0 (obsE h0 (obsE h1 (obsE h1 (obsE h1 (obsE h1 (obsE h2 (obsE h2 (obsE h2 (obsE h2 (obsE h3 obsN))))))))))))) rfl rfl (by kernel_rfl)
      | true =>
        exact dOk0 [.s, .s, .s, .s, .s, .s, .s, .s, .s, .s, .s, .s] (obsE h0 (obsE h0 (obsE h0 (obsE h0 (obsE h1 (obsE h1 (obsE h1 (obsE h1 (obsE h2 (obsE h2 (obsE h2 (obsE h2 obsN)))))))))))) rfl rfl (by kernel_rfl)
    | true =>
      exact dOk0 [.s, .s, .s, .s, .s, .s, .s, .s, .s, .s, .s, .s] (obsE h0 (obsE h0 (obsE h0 (obsE h0 (obsE h1 (obsE h1 (obsE h1 (obsE h1 obsN)))))))) rfl rfl (by kernel_rfl)
  | true =>
    exact dOk0 [.s, .s, .s, .s, .s, .s, .s, .s, .s, .s, .s, .s] (obsE h0 (obsE h0 (obsE h0 (obsE h0 obsN)))) rfl rfl (by kernel_rfl)
def opR7 (a0 : Ope) : Bool := (cond (decide ((a0.qD : Int) < 0)) false (cond (decide ((a0.qD : Int) > 255)) false (cond (decide ((a0.qF : Int) < 0)) false (cond (decide ((a0.qF : Int) > 2)) false (cond ((a0.qH : Int) == 0) (cond ((a0.qF : Int) == 0) ((a0.qB : Int) == 0) false) false)))))
theorem opR7_ok (a0 : Ope) : Ck n_cubicleref18_Formed [.agg [.int .i64 7, .int .i64 a0.qD, .int .i64 a0.qF, .int .u64 a0.qH, .int .u64 a0.qA, .int .u64 a0.qB]] (.bool (opR7 a0)) := by
  unfold opR7
  cases h0 : (decide ((a0.qD : Int) < 0)) with
  | false =>
    cases h1 : (decide ((a0.qD : Int) > 255)) with
    | false =>
      cases h2 : (decide ((a0.qF : Int) < 0)) with
      | false =>
        cases h3 : (decide ((a0.qF : Int) > 2)) with
        | false =>
          cases h4 : ((a0.qH : Int) == 0) with
          | false =>
            exact dOk0 [.s, .s, .s, .s, .s, .s, .s, .s, .s, .s, .s, .s, .o, .o, .o, .o, .o, .o, .o, .o, .o, .o, .o, .o, .o, .s, .s, .s, .s, .s, .s, .s, .s, .s] (obsE h0 (obsE h0 (obsE h0 (obsE h0 (obsE h1 (obsE h1 (obsE h1 (obsE h1 (obsE h2 (obsE h2 (obsE h2 (obsE h2 (obsE h3 (obsE h4 (obsE h4 (obsE h4 (obsE h4 (obsE h4 obsN)))))))))))))))))) rfl rfl (by kernel_rfl)
          | true =>
            cases h5 : ((a0.qF : Int) == 0) with
            | false =>
              exact dOk0 [.s, .s, .s, .s, .s, .s, .s, .s, .s, .s, .s, .s, .o, .o, .o, .o, .o, .o, .o, .o, .o, .o, .o, .o, .o, .s, .s, .s, .s, .s, .s, .s, .s, .s, .o, .o, .s, .s, .o, .s, .s, .s, .o, .s, .o, .s, .s, .s, .s, .s, .s, .s, .s, .s, .s, .s, .s, .s, .s] (obsE h0 (obsE h0 (obsE h0 (obsE h0 (obsE h1 (obsE h1 (obsE h1 (obsE h1 (obsE h2 (obsE h2 (obsE h2 (obsE h2 (obsE h3 (obsE h4 (obsE h4 (obsE h4 (obsE h4 (obsE h4 (obsE h5 (obsE h5 (obsE h5 (obsE h5 (obsE h5 obsN))))))))))))))))))))))) rfl rfl (by kernel_rfl)
            | true =>
              exact dOk0 [.s, .s, .s, .s, .s, .s, .s, .s, .s, .s, .s, .s, .o, .o, .o, .o, .o, .o, .o, .o, .o, .o, .o, .o, .o, .s, .s, .s, .s, .s, .s, .s, .s, .s, .o, .o, .s, .s, .o, .s, .s, .s, .o, .s, .o, .s, .s, .s, .s, .s, .s, .s, .s, .s, .s, .s, .s, .s, .s, .o, .o, .s, .s, .s, .s, .o, .s, .s, .s, .o, .s] (obsE h0 (obsE h0 (obsE h0 (obsE h0 (obsE h1 (obsE h1 (obsE h1 (obsE h1 (obsE h2 (obsE h2 (obsE h2 (obsE h2 (obsE h3 (obsE h4 (obsE h4 (obsE h4 (obsE h4 (obsE h4 (obsE h5 (obsE h5 (obsE h5 (obsE h5 (obsE h5 obsN))))))))))))))))))))))) rfl rfl (by kernel_rfl)
        | true =>
          exact dOk0 [.s, .s, .s, .s, .s, .s, .s, .s, .s, .s, .s, .s] (obsE h0 (obsE h0 (obsE h0 (obsE h0 (obsE h1 (obsE h1 (obsE h1 (obsE h1 (obsE h2 (obsE h2 (obsE h2 (obsE h2 (obsE h3 obsN))))))))))))) rfl rfl (by kernel_rfl)
      | true =>
        exact dOk0 [.s, .s, .s, .s, .s, .s, .s, .s, .s, .s, .s, .s] (obsE h0 (obsE h0 (obsE h0 (obsE h0 (obsE h1 (obsE h1 (obsE h1 (obsE h1 (obsE h2 (obsE h2 (obsE h2 (obsE h2 obsN)))))))))))) rfl rfl (by kernel_rfl)
    | true =>
      exact dOk0 [.s, .s, .s, .s, .s, .s, .s, .s, .s, .s, .s, .s] (obsE h0 (obsE h0 (obsE h0 (obsE h0 (obsE h1 (obsE h1 (obsE h1 (obsE h1 obsN)))))))) rfl rfl (by kernel_rfl)
  | true =>
    exact dOk0 [.s, .s, .s, .s, .s, .s, .s, .s, .s, .s, .s, .s] (obsE h0 (obsE h0 (obsE h0 (obsE h0 obsN)))) rfl rfl (by kernel_rfl)
def opR8 (a0 : Ope) : Bool := (cond (decide ((a0.qD : Int) < 0)) false (cond (decide ((a0.qD : Int) > 255)) false (cond (decide ((a0.qF : Int) < 0)) false (cond (decide ((a0.qF : Int) > 2)) false (cond ((a0.qH : Int) == 0) (cond ((a0.qF : Int) == 0) (cond ((a0.qA : Int) == 0) ((a0.qB : Int) == 0) false) false) false)))))
theorem opR8_ok (a0 : Ope) : Ck n_cubicleref18_Formed [.agg [.int .i64 8, .int .i64 a0.qD, .int .i64 a0.qF, .int .u64 a0.qH, .int .u64 a0.qA, .int .u64 a0.qB]] (.bool (opR8 a0)) := by
  unfold opR8
  cases h0 : (decide ((a0.qD : Int) < 0)) with
  | false =>
    cases h1 : (decide ((a0.qD : Int) > 255)) with
    | false =>
      cases h2 : (decide ((a0.qF : Int) < 0)) with
      | false =>
        cases h3 : (decide ((a0.qF : Int) > 2)) with
        | false =>
          cases h4 : ((a0.qH : Int) == 0) with
          | false =>
            exact dOk0 [.s, .s, .s, .s, .s, .s, .s, .s, .s, .s, .s, .s, .o, .o, .o, .o, .o, .o, .o, .o, .o, .o, .o, .o, .o, .s, .s, .s, .s, .s, .s, .s] (obsE h0 (obsE h0 (obsE h0 (obsE h0 (obsE h1 (obsE h1 (obsE h1 (obsE h1 (obsE h2 (obsE h2 (obsE h2 (obsE h2 (obsE h3 (obsE h4 (obsE h4 (obsE h4 (obsE h4 (obsE h4 obsN)))))))))))))))))) rfl rfl (by kernel_rfl)
          | true =>
            cases h5 : ((a0.qF : Int) == 0) with
            | false =>
              exact dOk0 [.s, .s, .s, .s, .s, .s, .s, .s, .s, .s, .s, .s, .o, .o, .o, .o, .o, .o, .o, .o, .o, .o, .o, .o, .o, .s, .s, .s, .s, .s, .s, .s, .o, .o, .s, .s, .o, .s, .s, .s, .o, .s, .o, .s, .s, .s, .s, .s, .s, .s, .s, .s, .s, .s, .s] (obsE h0 (obsE h0 (obsE h0 (obsE h0 (obsE h1 (obsE h1 (obsE h1 (obsE h1 (obsE h2 (obsE h2 (obsE h2 (obsE h2 (obsE h3 (obsE h4 (obsE h4 (obsE h4 (obsE h4 (obsE h4 (obsE h5 (obsE h5 (obsE h5 (obsE h5 (obsE h5 obsN))))))))))))))))))))))) rfl rfl (by kernel_rfl)
            | true =>
              cases h6 : ((a0.qA : Int) == 0) with
              | false =>
                exact dOk0 [.s, .s, .s, .s, .s, .s, .s, .s, .s, .s, .s, .s, .o, .o, .o, .o, .o, .o, .o, .o, .o, .o, .o, .o, .o, .s, .s, .s, .s, .s, .s, .s, .o, .o, .s, .s, .o, .s, .s, .s, .o, .s, .o, .s, .s, .s, .s, .s, .s, .s, .s, .s, .s, .s, .s, .o, .o, .s, .s, .s, .o, .s, .s, .s, .o, .s] (obsE h0 (obsE h0 (obsE h0 (obsE h0 (obsE h1 (obsE h1 (obsE h1 (obsE h1 (obsE h2 (obsE h2 (obsE h2 (obsE h2 (obsE h3 (obsE h4 (obsE h4 (obsE h4 (obsE h4 (obsE h4 (obsE h5 (obsE h5 (obsE h5 (obsE h5 (obsE h5 (obsE h6 (obsE h6 (obsE h6 (obsE h6 (obsE h6 obsN)))))))))))))))))))))))))))) rfl rfl (by kernel_rfl)
              | true =>
                exact dOk0 [.s, .s, .s, .s, .s, .s, .s, .s, .s, .s, .s, .s, .o, .o, .o, .o, .o, .o, .o, .o, .o, .o, .o, .o, .o, .s, .s, .s, .s, .s, .s, .s, .o, .o, .s, .s, .o, .s, .s, .s, .o, .s, .o, .s, .s, .s, .s, .s, .s, .s, .s, .s, .s, .s, .s, .o, .o, .s, .s, .s, .o, .s, .s, .s, .o, .s, .o, .o, .o, .s, .s, .s, .o, .s, .s, .s, .o, .s] (obsE h0 (obsE h0 (obsE h0 (obsE h0 (obsE h1 (obsE h1 (obsE h1 (obsE h1 (obsE h2 (obsE h2 (obsE h2 (obsE h2 (obsE h3 (obsE h4 (obsE h4 (obsE h4 (obsE h4 (obsE h4 (obsE h5 (obsE h5 (obsE h5 (obsE h5 (obsE h5 (obsE h6 (obsE h6 (obsE h6 (obsE h6 (obsE h6 obsN)))))))))))))))))))))))))))) rfl rfl (by kernel_rfl)
        | true =>
          exact dOk0 [.s, .s, .s, .s, .s, .s, .s, .s, .s, .s, .s, .s] (obsE h0 (obsE h0 (obsE h0 (obsE h0 (obsE h1 (obsE h1 (obsE h1 (obsE h1 (obsE h2 (obsE h2 (obsE h2 (obsE h2 (obsE h3 obsN))))))))))))) rfl rfl (by kernel_rfl)
      | true =>
        exact dOk0 [.s, .s, .s, .s, .s, .s, .s, .s, .s, .s, .s, .s] (obsE h0 (obsE h0 (obsE h0 (obsE h0 (obsE h1 (obsE h1 (obsE h1 (obsE h1 (obsE h2 (obsE h2 (obsE h2 (obsE h2 obsN)))))))))))) rfl rfl (by kernel_rfl)
    | true =>
      exact dOk0 [.s, .s, .s, .s, .s, .s, .s, .s, .s, .s, .s, .s] (obsE h0 (obsE h0 (obsE h0 (obsE h0 (obsE h1 (obsE h1 (obsE h1 (obsE h1 obsN)))))))) rfl rfl (by kernel_rfl)
  | true =>
    exact dOk0 [.s, .s, .s, .s, .s, .s, .s, .s, .s, .s, .s, .s] (obsE h0 (obsE h0 (obsE h0 (obsE h0 obsN)))) rfl rfl (by kernel_rfl)
def opR9 (a0 : Ope) : Bool := (cond (decide ((a0.qD : Int) < 0)) false (cond (decide ((a0.qD : Int) > 255)) false (cond (decide ((a0.qF : Int) < 0)) false (cond (decide ((a0.qF : Int) > 2)) false (cond ((a0.qH : Int) == 0) (cond ((a0.qD : Int) == 0) (cond ((a0.qF : Int) == 0) (cond ((a0.qA : Int) == 0) ((a0.qB : Int) == 0) false) false) false) false)))))
theorem opR9_ok (a0 : Ope) : Ck n_cubicleref18_Formed [.agg [.int .i64 9, .int .i64 a0.qD, .int .i64 a0.qF, .int .u64 a0.qH, .int .u64 a0.qA, .int .u64 a0.qB]] (.bool (opR9 a0)) := by
  unfold opR9
  cases h0 : (decide ((a0.qD : Int) < 0)) with
  | false =>
    cases h1 : (decide ((a0.qD : Int) > 255)) with
    | false =>
      cases h2 : (decide ((a0.qF : Int) < 0)) with
      | false =>
        cases h3 : (decide ((a0.qF : Int) > 2)) with
        | false =>
          cases h4 : ((a0.qH : Int) == 0) with
          | false =>
            exact dOk0 [.s, .s, .s, .s, .s, .s, .s, .s, .s, .s, .s, .s, .o, .o, .o, .o, .o, .o, .o, .o, .o, .o, .o, .o, .o, .s, .s, .s, .s, .s] (obsE h0 (obsE h0 (obsE h0 (obsE h0 (obsE h1 (obsE h1 (obsE h1 (obsE h1 (obsE h2 (obsE h2 (obsE h2 (obsE h2 (obsE h3 (obsE h4 (obsE h4 (obsE h4 (obsE h4 (obsE h4 obsN)))))))))))))))))) rfl rfl (by kernel_rfl)
          | true =>
            cases h5 : ((a0.qD : Int) == 0) with
            | false =>
              exact dOk0 [.s, .s, .s, .s, .s, .s, .s, .s, .s, .s, .s, .s, .o, .o, .o, .o, .o, .o, .o, .o, .o, .o, .o, .o, .o, .s, .s, .s, .s, .s, .o, .o, .s, .o, .s, .s, .s, .o, .s] (obsE h0 (obsE h0 (obsE h0 (obsE h0 (obsE h1 (obsE h1 (obsE h1 (obsE h1 (obsE h2 (obsE h2 (obsE h2 (obsE h2 (obsE h3 (obsE h4 (obsE h4 (obsE h4 (obsE h4 (obsE h4 (obsE h5 (obsE h5 (obsE h5 (obsE h5 (obsE h5 obsN))))))))))))))))))))))) rfl rfl (by kernel_rfl)
            | true =>
              cases h6 : ((a0.qF : Int) == 0) with
              | false =>
                exact dOk0 [.s, .s, .s, .s, .s, .s, .s, .s, .s, .s, .s, .s, .o, .o, .o, .o, .o, .o, .o, .o, .o, .o, .o, .o, .o, .s, .s, .s, .s, .s, .o, .o, .s, .o, .s, .s, .s, .o, .s, .o, .o, .o, .s, .o, .s, .s, .s, .o, .s] (obsE h0 (obsE h0 (obsE h0 (obsE h0 (obsE h1 (obsE h1 (obsE h1 (obsE h1 (obsE h2 (obsE h2 (obsE h2 (obsE h2 (obsE h3 (obsE h4 (obsE h4 (obsE h4 (obsE h4 (obsE h4 (obsE h5 (obsE h5 (obsE h5 (obsE h5 (obsE h5 (obsE h6 (obsE h6 (obsE h6 (obsE h6 (obsE h6 obsN)))))))))))))))))))))))))))) rfl rfl (by kernel_rfl)
              | true =>
                cases h7 : ((a0.qA : Int) == 0) with
                | false =>
                  exact dOk0 [.s, .s, .s, .s, .s, .s, .s, .s, .s, .s, .s, .s, .o, .o, .o, .o, .o, .o, .o, .o, .o, .o, .o, .o, .o, .s, .s, .s, .s, .s, .o, .o, .s, .o, .s, .s, .s, .o, .s, .o, .o, .o, .s, .o, .s, .s, .s, .o, .s, .o, .o, .o, .s, .o, .s, .s, .s, .o, .s] (obsE h0 (obsE h0 (obsE h0 (obsE h0 (obsE h1 (obsE h1 (obsE h1 (obsE h1 (obsE h2 (obsE h2 (obsE h2 (obsE h2 (obsE h3 (obsE h4 (obsE h4 (obsE h4 (obsE h4 (obsE h4 (obsE h5 (obsE h5 (obsE h5 (obsE h5 (obsE h5 (obsE h6 (obsE h6 (obsE h6 (obsE h6 (obsE h6 (obsE h7 (obsE h7 (obsE h7 (obsE h7 (obsE h7 obsN))))))))))))))))))))))))))))))))) rfl rfl (by kernel_rfl)
                | true =>
                  exact dOk0 [.s, .s, .s, .s, .s, .s, .s, .s, .s, .s, .s, .s, .o, .o, .o, .o, .o, .o, .o, .o, .o, .o, .o, .o, .o, .s, .s, .s, .s, .s, .o, .o, .s, .o, .s, .s, .s, .o, .s, .o, .o, .o, .s, .o, .s, .s, .s, .o, .s, .o, .o, .o, .s, .o, .s, .s, .s, .o, .s, .o, .o, .o, .s, .o, .s, .s, .s, .o, .s] (obsE h0 (obsE h0 (obsE h0 (obsE h0 (obsE h1 (obsE h1 (obsE h1 (obsE h1 (obsE h2 (obsE h2 (obsE h2 (obsE h2 (obsE h3 (obsE h4 (obsE h4 (obsE h4 (obsE h4 (obsE h4 (obsE h5 (obsE h5 (obsE h5 (obsE h5 (obsE h5 (obsE h6 (obsE h6 (obsE h6 (obsE h6 (obsE h6 (obsE h7 (obsE h7 (obsE h7 (obsE h7 (obsE h7 obsN))))))))))))))))))))))))))))))))) rfl rfl (by kernel_rfl)
        | true =>
          exact dOk0 [.s, .s, .s, .s, .s, .s, .s, .s, .s, .s, .s, .s] (obsE h0 (obsE h0 (obsE h0 (obsE h0 (obsE h1 (obsE h1 (obsE h1 (obsE h1 (obsE h2 (obsE h2 (obsE h2 (obsE h2 (obsE h3 obsN))))))))))))) rfl rfl (by kernel_rfl)
      | true =>
        exact dOk0 [.s, .s, .s, .s, .s, .s, .s, .s, .s, .s, .s, .s] (obsE h0 (obsE h0 (obsE h0 (obsE h0 (obsE h1 (obsE h1 (obsE h1 (obsE h1 (obsE h2 (obsE h2 (obsE h2 (obsE h2 obsN)))))))))))) rfl rfl (by kernel_rfl)
    | true =>
      exact dOk0 [.s, .s, .s, .s, .s, .s, .s, .s, .s, .s, .s, .s] (obsE h0 (obsE h0 (obsE h0 (obsE h0 (obsE h1 (obsE h1 (obsE h1 (obsE h1 obsN)))))))) rfl rfl (by kernel_rfl)
  | true =>
    exact dOk0 [.s, .s, .s, .s, .s, .s, .s, .s, .s, .s, .s, .s] (obsE h0 (obsE h0 (obsE h0 (obsE h0 obsN)))) rfl rfl (by kernel_rfl)
def opR10 (a0 : Ope) : Bool := (cond (decide ((a0.qD : Int) < 0)) false (cond (decide ((a0.qD : Int) > 255)) false (cond (decide ((a0.qF : Int) < 0)) false (cond (decide ((a0.qF : Int) > 2)) false (cond ((a0.qH : Int) == 0) (cond ((a0.qF : Int) == 0) true false) false)))))
theorem opR10_ok (a0 : Ope) : Ck n_cubicleref18_Formed [.agg [.int .i64 10, .int .i64 a0.qD, .int .i64 a0.qF, .int .u64 a0.qH, .int .u64 a0.qA, .int .u64 a0.qB]] (.bool (opR10 a0)) := by
  unfold opR10
  cases h0 : (decide ((a0.qD : Int) < 0)) with
  | false =>
    cases h1 : (decide ((a0.qD : Int) > 255)) with
    | false =>
      cases h2 : (decide ((a0.qF : Int) < 0)) with
      | false =>
        cases h3 : (decide ((a0.qF : Int) > 2)) with
        | false =>
          cases h4 : ((a0.qH : Int) == 0) with
          | false =>
            exact dOk0 [.s, .s, .s, .s, .s, .s, .s, .s, .s, .s, .s, .s, .o, .o, .o, .o, .o, .o, .o, .o, .o, .o, .o, .o, .o, .s, .s, .s, .s, .s, .s, .s, .s, .s, .s, .s] (obsE h0 (obsE h0 (obsE h0 (obsE h0 (obsE h1 (obsE h1 (obsE h1 (obsE h1 (obsE h2 (obsE h2 (obsE h2 (obsE h2 (obsE h3 (obsE h4 (obsE h4 (obsE h4 (obsE h4 (obsE h4 obsN)))))))))))))))))) rfl rfl (by kernel_rfl)
          | true =>
            cases h5 : ((a0.qF : Int) == 0) with
            | false =>
              exact dOk0 [.s, .s, .s, .s, .s, .s, .s, .s, .s, .s, .s, .s, .o, .o, .o, .o, .o, .o, .o, .o, .o, .o, .o, .o, .o, .s, .s, .s, .s, .s, .s, .s, .s, .s, .s, .s, .o, .o, .s, .s, .o, .s, .s, .s, .o, .s, .o, .s, .s, .s, .s, .s, .s, .s, .s, .s, .s, .s, .s, .s, .s, .s, .s] (obsE h0 (obsE h0 (obsE h0 (obsE h0 (obsE h1 (obsE h1 (obsE h1 (obsE h1 (obsE h2 (obsE h2 (obsE h2 (obsE h2 (obsE h3 (obsE h4 (obsE h4 (obsE h4 (obsE h4 (obsE h4 (obsE h5 (obsE h5 (obsE h5 (obsE h5 (obsE h5 obsN))))))))))))))))))))))) rfl rfl (by kernel_rfl)
            | true =>
              exact dOk0 [.s, .s, .s, .s, .s, .s, .s, .s, .s, .s, .s, .s, .o, .o, .o, .o, .o, .o, .o, .o, .o, .o, .o, .o, .o, .s, .s, .s, .s, .s, .s, .s, .s, .s, .s, .s, .o, .o, .s, .s, .o, .s, .s, .s, .o, .s, .o, .s, .s, .s, .s, .s, .s, .s, .s, .s, .s, .s, .s, .s, .s, .s, .s, .o, .o, .s, .s, .s, .s, .o, .s, .s, .s, .o, .s] (obsE h0 (obsE h0 (obsE h0 (obsE h0 (obsE h1 (obsE h1 (obsE h1 (obsE h1 (obsE h2 (obsE h2 (obsE h2 (obsE h2 (obsE h3 (obsE h4 (obsE h4 (obsE h4 (obsE h4 (obsE h4 (obsE h5 (obsE h5 (obsE h5 (obsE h5 (obsE h5 obsN))))))))))))))))))))))) rfl rfl (by kernel_rfl)
        | true =>
          exact dOk0 [.s, .s, .s, .s, .s, .s, .s, .s, .s, .s, .s, .s] (obsE h0 (obsE h0 (obsE h0 (obsE h0 (obsE h1 (obsE h1 (obsE h1 (obsE h1 (obsE h2 (obsE h2 (obsE h2 (obsE h2 (obsE h3 obsN))))))))))))) rfl rfl (by kernel_rfl)
      | true =>
        exact dOk0 [.s, .s, .s, .s, .s, .s, .s, .s, .s, .s, .s, .s] (obsE h0 (obsE h0 (obsE h0 (obsE h0 (obsE h1 (obsE h1 (obsE h1 (obsE h1 (obsE h2 (obsE h2 (obsE h2 (obsE h2 obsN)))))))))))) rfl rfl (by kernel_rfl)
    | true =>
      exact dOk0 [.s, .s, .s, .s, .s, .s, .s, .s, .s, .s, .s, .s] (obsE h0 (obsE h0 (obsE h0 (obsE h0 (obsE h1 (obsE h1 (obsE h1 (obsE h1 obsN)))))))) rfl rfl (by kernel_rfl)
  | true =>
    exact dOk0 [.s, .s, .s, .s, .s, .s, .s, .s, .s, .s, .s, .s] (obsE h0 (obsE h0 (obsE h0 (obsE h0 obsN)))) rfl rfl (by kernel_rfl)
def opR11 (a0 : Ope) : Bool := (cond (decide ((a0.qD : Int) < 0)) false (cond (decide ((a0.qD : Int) > 255)) false (cond (decide ((a0.qF : Int) < 0)) false (cond (decide ((a0.qF : Int) > 2)) false (cond ((a0.qH : Int) == 0) (cond ((a0.qF : Int) == 0) ((a0.qB : Int) == 0) false) false)))))
theorem opR11_ok (a0 : Ope) : Ck n_cubicleref18_Formed [.agg [.int .i64 11, .int .i64 a0.qD, .int .i64 a0.qF, .int .u64 a0.qH, .int .u64 a0.qA, .int .u64 a0.qB]] (.bool (opR11 a0)) := by
  unfold opR11
  cases h0 : (decide ((a0.qD : Int) < 0)) with
  | false =>
    cases h1 : (decide ((a0.qD : Int) > 255)) with
    | false =>
      cases h2 : (decide ((a0.qF : Int) < 0)) with
      | false =>
        cases h3 : (decide ((a0.qF : Int) > 2)) with
        | false =>
          cases h4 : ((a0.qH : Int) == 0) with
          | false =>
            exact dOk0 [.s, .s, .s, .s, .s, .s, .s, .s, .s, .s, .s, .s, .o, .o, .o, .o, .o, .o, .o, .o, .o, .o, .o, .o, .o, .s, .s, .s, .s, .s, .s, .s, .s, .s] (obsE h0 (obsE h0 (obsE h0 (obsE h0 (obsE h1 (obsE h1 (obsE h1 (obsE h1 (obsE h2 (obsE h2 (obsE h2 (obsE h2 (obsE h3 (obsE h4 (obsE h4 (obsE h4 (obsE h4 (obsE h4 obsN)))))))))))))))))) rfl rfl (by kernel_rfl)
          | true =>
            cases h5 : ((a0.qF : Int) == 0) with
            | false =>
              exact dOk0 [.s, .s, .s, .s, .s, .s, .s, .s, .s, .s, .s, .s, .o, .o, .o, .o, .o, .o, .o, .o, .o, .o, .o, .o, .o, .s, .s, .s, .s, .s, .s, .s, .s, .s, .o, .o, .s, .s, .o, .s, .s, .s, .o, .s, .o, .s, .s, .s, .s, .s, .s, .s, .s, .s, .s, .s, .s, .s, .s] (obsE h0 (obsE h0 (obsE h0 (obsE h0 (obsE h1 (obsE h1 (obsE h1 (obsE h1 (obsE h2 (obsE h2 (obsE h2 (obsE h2 (obsE h3 (obsE h4 (obsE h4 (obsE h4 (obsE h4 (obsE h4 (obsE h5 (obsE h5 (obsE h5 (obsE h5 (obsE h5 obsN))))))))))))))))))))))) rfl rfl (by kernel_rfl)
            | true =>
              exact dOk0 [.s, .s, .s, .s, .s, .s, .s, .s, .s, .s, .s, .s, .o, .o, .o, .o, .o, .o, .o, .o, .o, .o, .o, .o, .o, .s, .s, .s, .s, .s, .s, .s, .s, .s, .o, .o, .s, .s, .o, .s, .s, .s, .o, .s, .o, .s, .s, .s, .s, .s, .s, .s, .s, .s, .s, .s, .s, .s, .s, .o, .o, .s, .s, .s, .s, .o, .s, .s, .s, .o, .s] (obsE h0 (obsE h0 (obsE h0 (obsE h0 (obsE h1 (obsE h1 (obsE h1 (obsE h1 (obsE h2 (obsE h2 (obsE h2 (obsE h2 (obsE h3 (obsE h4 (obsE h4 (obsE h4 (obsE h4 (obsE h4 (obsE h5 (obsE h5 (obsE h5 (obsE h5 (obsE h5 obsN))))))))))))))))))))))) rfl rfl (by kernel_rfl)
        | true =>
          exact dOk0 [.s, .s, .s, .s, .s, .s, .s, .s, .s, .s, .s, .s] (obsE h0 (obsE h0 (obsE h0 (obsE h0 (obsE h1 (obsE h1 (obsE h1 (obsE h1 (obsE h2 (obsE h2 (obsE h2 (obsE h2 (obsE h3 obsN))))))))))))) rfl rfl (by kernel_rfl)
      | true =>
        exact dOk0 [.s, .s, .s, .s, .s, .s, .s, .s, .s, .s, .s, .s] (obsE h0 (obsE h0 (obsE h0 (obsE h0 (obsE h1 (obsE h1 (obsE h1 (obsE h1 (obsE h2 (obsE h2 (obsE h2 (obsE h2 obsN)))))))))))) rfl rfl (by kernel_rfl)
    | true =>
      exact dOk0 [.s, .s, .s, .s, .s, .s, .s, .s, .s, .s, .s, .s] (obsE h0 (obsE h0 (obsE h0 (obsE h0 (obsE h1 (obsE h1 (obsE h1 (obsE h1 obsN)))))))) rfl rfl (by kernel_rfl)
  | true =>
    exact dOk0 [.s, .s, .s, .s, .s, .s, .s, .s, .s, .s, .s, .s] (obsE h0 (obsE h0 (obsE h0 (obsE h0 obsN)))) rfl rfl (by kernel_rfl)
def opR12 (a0 : Ope) : Bool := (cond (decide ((a0.qD : Int) < 0)) false (cond (decide ((a0.qD : Int) > 255)) false (cond (decide ((a0.qF : Int) < 0)) false (cond (decide ((a0.qF : Int) > 2)) false (cond ((a0.qH : Int) == 0) (cond ((a0.qF : Int) == 0) ((a0.qB : Int) == 0) false) false)))))
theorem opR12_ok (a0 : Ope) : Ck n_cubicleref18_Formed [.agg [.int .i64 12, .int .i64 a0.qD, .int .i64 a0.qF, .int .u64 a0.qH, .int .u64 a0.qA, .int .u64 a0.qB]] (.bool (opR12 a0)) := by
  unfold opR12
  cases h0 : (decide ((a0.qD : Int) < 0)) with
  | false =>
    cases h1 : (decide ((a0.qD : Int) > 255)) with
    | false =>
      cases h2 : (decide ((a0.qF : Int) < 0)) with
      | false =>
        cases h3 : (decide ((a0.qF : Int) > 2)) with
        | false =>
          cases h4 : ((a0.qH : Int) == 0) with
          | false =>
            exact dOk0 [.s, .s, .s, .s, .s, .s, .s, .s, .s, .s, .s, .s, .o, .o, .o, .o, .o, .o, .o, .o, .o, .o, .o, .o, .o, .s, .s, .s, .s, .s, .s, .s, .s, .s] (obsE h0 (obsE h0 (obsE h0 (obsE h0 (obsE h1 (obsE h1 (obsE h1 (obsE h1 (obsE h2 (obsE h2 (obsE h2 (obsE h2 (obsE h3 (obsE h4 (obsE h4 (obsE h4 (obsE h4 (obsE h4 obsN)))))))))))))))))) rfl rfl (by kernel_rfl)
          | true =>
            cases h5 : ((a0.qF : Int) == 0) with
            | false =>
              exact dOk0 [.s, .s, .s, .s, .s, .s, .s, .s, .s, .s, .s, .s, .o, .o, .o, .o, .o, .o, .o, .o, .o, .o, .o, .o, .o, .s, .s, .s, .s, .s, .s, .s, .s, .s, .o, .o, .s, .s, .o, .s, .s, .s, .o, .s, .o, .s, .s, .s, .s, .s, .s, .s, .s, .s, .s, .s, .s, .s, .s] (obsE h0 (obsE h0 (obsE h0 (obsE h0 (obsE h1 (obsE h1 (obsE h1 (obsE h1 (obsE h2 (obsE h2 (obsE h2 (obsE h2 (obsE h3 (obsE h4 (obsE h4 (obsE h4 (obsE h4 (obsE h4 (obsE h5 (obsE h5 (obsE h5 (obsE h5 (obsE h5 obsN))))))))))))))))))))))) rfl rfl (by kernel_rfl)
            | true =>
              exact dOk0 [.s, .s, .s, .s, .s, .s, .s, .s, .s, .s, .s, .s, .o, .o, .o, .o, .o, .o, .o, .o, .o, .o, .o, .o, .o, .s, .s, .s, .s, .s, .s, .s, .s, .s, .o, .o, .s, .s, .o, .s, .s, .s, .o, .s, .o, .s, .s, .s, .s, .s, .s, .s, .s, .s, .s, .s, .s, .s, .s, .o, .o, .s, .s, .s, .s, .o, .s, .s, .s, .o, .s] (obsE h0 (obsE h0 (obsE h0 (obsE h0 (obsE h1 (obsE h1 (obsE h1 (obsE h1 (obsE h2 (obsE h2 (obsE h2 (obsE h2 (obsE h3 (obsE h4 (obsE h4 (obsE h4 (obsE h4 (obsE h4 (obsE h5 (obsE h5 (obsE h5 (obsE h5 (obsE h5 obsN))))))))))))))))))))))) rfl rfl (by kernel_rfl)
        | true =>
          exact dOk0 [.s, .s, .s, .s, .s, .s, .s, .s, .s, .s, .s, .s] (obsE h0 (obsE h0 (obsE h0 (obsE h0 (obsE h1 (obsE h1 (obsE h1 (obsE h1 (obsE h2 (obsE h2 (obsE h2 (obsE h2 (obsE h3 obsN))))))))))))) rfl rfl (by kernel_rfl)
      | true =>
        exact dOk0 [.s, .s, .s, .s, .s, .s, .s, .s, .s, .s, .s, .s] (obsE h0 (obsE h0 (obsE h0 (obsE h0 (obsE h1 (obsE h1 (obsE h1 (obsE h1 (obsE h2 (obsE h2 (obsE h2 (obsE h2 obsN)))))))))))) rfl rfl (by kernel_rfl)
    | true =>
      exact dOk0 [.s, .s, .s, .s, .s, .s, .s, .s, .s, .s, .s, .s] (obsE h0 (obsE h0 (obsE h0 (obsE h0 (obsE h1 (obsE h1 (obsE h1 (obsE h1 obsN)))))))) rfl rfl (by kernel_rfl)
  | true =>
    exact dOk0 [.s, .s, .s, .s, .s, .s, .s, .s, .s, .s, .s, .s] (obsE h0 (obsE h0 (obsE h0 (obsE h0 obsN)))) rfl rfl (by kernel_rfl)
def opRT : Nat → Ope → Bool
  | 1, a0 => opR1 a0
  | 2, a0 => opR2 a0
  | 3, a0 => opR3 a0
  | 4, a0 => opR4 a0
  | 5, a0 => opR5 a0
  | 6, a0 => opR6 a0
  | 7, a0 => opR7 a0
  | 8, a0 => opR8 a0
  | 9, a0 => opR9 a0
  | 10, a0 => opR10 a0
  | 11, a0 => opR11 a0
  | 12, a0 => opR12 a0
  | _, _ => false
def opR (a0 : Ope) : Bool := opRT a0.qCode.toNat a0
theorem opR_in {c : Nat} (h1 : 1 ≤ c) (h2 : c ≤ 12) (a0 : Ope) (hc : a0.qCode = (c : Int)) : Ck n_cubicleref18_Formed [.agg a0.cs] (.bool (opR a0)) := by
  have hd : c = 1 ∨ c = 2 ∨ c = 3 ∨ c = 4 ∨ c = 5 ∨ c = 6 ∨ c = 7 ∨ c = 8 ∨ c = 9 ∨ c = 10 ∨ c = 11 ∨ c = 12 := by omega
  obtain ⟨q0, q1, q2, q3, q4, q5⟩ := a0
  simp only at hc
  subst hc
  rcases hd with rfl | rfl | rfl | rfl | rfl | rfl | rfl | rfl | rfl | rfl | rfl | rfl
  · exact opR1_ok ⟨1, q1, q2, q3, q4, q5⟩
  · exact opR2_ok ⟨2, q1, q2, q3, q4, q5⟩
  · exact opR3_ok ⟨3, q1, q2, q3, q4, q5⟩
  · exact opR4_ok ⟨4, q1, q2, q3, q4, q5⟩
  · exact opR5_ok ⟨5, q1, q2, q3, q4, q5⟩
  · exact opR6_ok ⟨6, q1, q2, q3, q4, q5⟩
  · exact opR7_ok ⟨7, q1, q2, q3, q4, q5⟩
  · exact opR8_ok ⟨8, q1, q2, q3, q4, q5⟩
  · exact opR9_ok ⟨9, q1, q2, q3, q4, q5⟩
  · exact opR10_ok ⟨10, q1, q2, q3, q4, q5⟩
  · exact opR11_ok ⟨11, q1, q2, q3, q4, q5⟩
  · exact opR12_ok ⟨12, q1, q2, q3, q4, q5⟩
theorem opR_ok (a0 : Ope) : Ck n_cubicleref18_Formed [.agg a0.cs] (.bool (opR a0)) := by
  by_cases hc : 1 ≤ a0.qCode ∧ a0.qCode ≤ 12
  · exact opR_in (c := a0.qCode.toNat) (by omega) (by omega) a0 (by omega)
  · have e : opR a0 = false := by
      unfold opR
      have : a0.qCode.toNat = 0 ∨ 13 ≤ a0.qCode.toNat := by omega
      rcases this with h | h
      · rw [h]; rfl
      · obtain ⟨z, hz⟩ : ∃ z, a0.qCode.toNat = z + 13 := ⟨a0.qCode.toNat - 13, by omega⟩
        rw [hz]; rfl
    rw [e]
    by_cases h : a0.qCode < 1
    · have q0 : (decide ((a0.qCode : Int) < 1)) = true := decide_eq_true h
      exact dOk0 [.o, .o, .o, .s] (obsE q0 (obsE q0 (obsE q0 (obsE q0 (obsE q0 (obsE q0 (obsE q0 obsN))))))) rfl rfl (by kernel_rfl)
    · have q0 : (decide ((a0.qCode : Int) < 1)) = false := decide_eq_false h
      have q1 : (decide ((a0.qCode : Int) > 12)) = true := decide_eq_true (by omega)
      exact dOk0 [] (obsE q0 (obsE q0 (obsE q0 (obsE q1 (obsE q0 (obsE q0 (obsE q0 (obsE q0 (obsE q1 (obsE q1 (obsE q1 (obsE q1 obsN)))))))))))) rfl rfl (by kernel_rfl)
theorem ge3 (x : Int) : decide (x ≥ 3) = decide (x > 2) := by
  rw [Bool.eq_iff_iff, decide_eq_true_eq, decide_eq_true_eq]; omega
theorem opGR (o : Ope) : opG o = opR o := by
  obtain ⟨c, d, f, h, x, y⟩ := o
  by_cases hc : 1 ≤ c ∧ c ≤ 12
  · have hd : c = 1 ∨ c = 2 ∨ c = 3 ∨ c = 4 ∨ c = 5 ∨ c = 6 ∨ c = 7 ∨ c = 8 ∨ c = 9 ∨ c = 10 ∨ c = 11 ∨ c = 12 := by omega
    rcases hd with rfl | rfl | rfl | rfl | rfl | rfl | rfl | rfl | rfl | rfl | rfl | rfl
    · show opG1 _ = opR1 _; unfold opG1 opR1; rw [ge3]
    · show opG2 _ = opR2 _; unfold opG2 opR2; rw [ge3]
    · show opG3 _ = opR3 _; unfold opG3 opR3; rw [ge3]
    · show opG4 _ = opR4 _; unfold opG4 opR4; rw [ge3]
    · show opG5 _ = opR5 _; unfold opG5 opR5; rw [ge3]
    · show opG6 _ = opR6 _; unfold opG6 opR6; rw [ge3]
    · show opG7 _ = opR7 _; unfold opG7 opR7; rw [ge3]
    · show opG8 _ = opR8 _; unfold opG8 opR8; rw [ge3]
    · show opG9 _ = opR9 _; unfold opG9 opR9; rw [ge3]
    · show opG10 _ = opR10 _; unfold opG10 opR10; rw [ge3]
    · show opG11 _ = opR11 _; unfold opG11 opR11; rw [ge3]
    · show opG12 _ = opR12 _; unfold opG12 opR12; rw [ge3]
  · have e : opR ⟨c, d, f, h, x, y⟩ = false := by
      show opRT c.toNat _ = false
      have : c.toNat = 0 ∨ 13 ≤ c.toNat := by omega
      rcases this with h | h
      · rw [h]; rfl
      · obtain ⟨z, hz⟩ : ∃ z, c.toNat = z + 13 := ⟨c.toNat - 13, by omega⟩
        rw [hz]; rfl
    rw [e]
    unfold opG
    by_cases h1 : c ≥ 1
    · rw [decide_eq_true h1, decide_eq_false (show ¬ c ≤ 12 by omega)]; rfl
    · rw [decide_eq_false h1]; rfl
end Go.Proofs.YtpckjfncecoibaaGreat.Fun
