/- Sums of further functions (printed by wip/moresum.py). -/
import Derived.Test.YtehihnapbpcfbaaGreatDecO
namespace Go.Proofs.YtehihnapbpcfbaaGreat.Fun
open Go
set_option linter.unusedVariables false
abbrev n_plan_Plan_Size : FuncId := 50
def sizeG (a0 : Pl) : Int := (cond (!(formedG a0)) 0 (IntKind.i64.wrap ((IntKind.i64.wrap ((IntKind.i64.wrap ((IntKind.i64.wrap (1 + (IntKind.i64.wrap (a0.qDomains * (IntKind.i64.wrap (1 + (if (a0.qBuckets : Int) > 2 then a0.qBuckets else 2))))))) + (IntKind.i64.wrap (a0.qThreads * 3)))) + (IntKind.i64.wrap (a0.qThreads * (IntKind.i64.wrap (1 + a0.qRetire)))))) + (IntKind.i64.wrap (a0.qNodes * 5)))))
theorem sizeG_ok (a0 : Pl) : Ck n_plan_Plan_Size [(.agg a0.cs)] (I (sizeG a0)) := by
  unfold sizeG
  cases h0 : (!(formedG a0)) with
  | false =>
    exact dOk3 [] (obsE h0 obsN) rfl rfl (by kernel_rfl)
  | true =>
    exact dOk3 [] (obsE h0 obsN) rfl rfl (by kernel_rfl)
def e_sizeG : List DV → Option DV
  | [.agg [.int .i64 y0, .int .i64 y1, .int .i64 y2, .int .i64 y3, .int .i64 y4, .int .i64 y5]] => some (I (sizeG ⟨y0, y1, y2, y3, y4, y5⟩))
  | _ => none
theorem e_sizeG_ok : ∀ args d, e_sizeG args = some d → Ck n_plan_Plan_Size args d := by
  intro args d h
  unfold e_sizeG at h
  split at h
  · rename_i y0 y1 y2 y3 y4 y5; cases h; exact sizeG_ok ⟨y0, y1, y2, y3, y4, y5⟩
  · cases h
abbrev n_cubicleref06_Few : FuncId := 22
def fewR (a0 : Pl) : Bool := (cond (decide ((a0.qNodes : Int) < 1)) true (cond (decide ((a0.qNodes : Int) > 1048576)) true (cond (decide ((a0.qThreads : Int) < 1)) true (cond (decide ((a0.qThreads : Int) > 16)) true (cond (decide ((a0.qDomains : Int) < 0)) true (cond (decide ((a0.qDomains : Int) > 64)) true (cond (decide ((a0.qBuckets : Int) ≥ 1)) (cond (decide ((a0.qBuckets : Int) ≤ 256)) (cond (decide ((a0.qGen : Int) ≥ 1)) (cond (decide ((a0.qGen : Int) ≤ 1073741823)) (cond (decide ((a0.qRetire : Int) > (IntKind.i64.wrap (3 * a0.qThreads)))) (cond (!(decide ((a0.qRetire : Int) ≤ 1024))) true (cond (decide ((a0.qNodes : Int) ≤ 40)) (cond (decide ((a0.qRetire : Int) ≤ 40)) (cond (decide ((a0.qDomains : Int) ≤ 6)) (decide ((a0.qBuckets : Int) ≤ 10)) false) false) false)) true) true) true) true) true)))))))
theorem fewR_ok (a0 : Pl) : Ck n_cubicleref06_Few [(.agg a0.cs)] (.bool (fewR a0)) := by
  unfold fewR
  cases h0 : (decide ((a0.qNodes : Int) < 1)) with
  | false =>
    cases h1 : (decide ((a0.qNodes : Int) > 1048576)) with
    | false =>
      cases h2 : (decide ((a0.qThreads : Int) < 1)) with
      | false =>
        cases h3 : (decide ((a0.qThreads : Int) > 16)) with
        | false =>
          cases h4 : (decide ((a0.qDomains : Int) < 0)) with
          | false =>
            cases h5 : (decide ((a0.qDomains : Int) > 64)) with
            | false =>
              cases h6 : (decide ((a0.qBuckets : Int) ≥ 1)) with
              | false =>
                exact dOk3 [] (obsE h0 (obsE h0 (obsE h0 (obsE h0 (obsE h1 (obsE h1 (obsE h1 (obsE h1 (obsE h2 (obsE h2 (obsE h2 (obsE h2 (obsE h3 (obsE h3 (obsE h3 (obsE h3 (obsE h4 (obsE h4 (obsE h4 (obsE h4 (obsE h5 (obsE h6 (obsE h6 (obsE h6 (obsE h6 obsN))))))))))))))))))))))))) rfl rfl (by kernel_rfl)
              | true =>
                cases h7 : (decide ((a0.qBuckets : Int) ≤ 256)) with
                | false =>
                  exact dOk3 [] (obsE h0 (obsE h0 (obsE h0 (obsE h0 (obsE h1 (obsE h1 (obsE h1 (obsE h1 (obsE h2 (obsE h2 (obsE h2 (obsE h2 (obsE h3 (obsE h3 (obsE h3 (obsE h3 (obsE h4 (obsE h4 (obsE h4 (obsE h4 (obsE h5 (obsE h6 (obsE h6 (obsE h6 (obsE h6 (obsE h7 (obsE h7 (obsE h7 (obsE h7 obsN))))))))))))))))))))))))))))) rfl rfl (by kernel_rfl)
                | true =>
                  cases h8 : (decide ((a0.qGen : Int) ≥ 1)) with
                  | false =>
                    exact dOk3 [] (obsE h0 (obsE h0 (obsE h0 (obsE h0 (obsE h1 (obsE h1 (obsE h1 (obsE h1 (obsE h2 (obsE h2 (obsE h2 (obsE h2 (obsE h3 (obsE h3 (obsE h3 (obsE h3 (obsE h4 (obsE h4 (obsE h4 (obsE h4 (obsE h5 (obsE h6 (obsE h6 (obsE h6 (obsE h6 (obsE h7 (obsE h7 (obsE h7 (obsE h7 (obsE h8 (obsE h8 (obsE h8 (obsE h8 obsN))))))))))))))))))))))))))))))))) rfl rfl (by kernel_rfl)
                  | true =>
                    cases h9 : (decide ((a0.qGen : Int) ≤ 1073741823)) with
                    | false =>
                      exact dOk3 [] (obsE h0 (obsE h0 (obsE h0 (obsE h0 (obsE h1 (obsE h1 (obsE h1 (obsE h1 (obsE h2 (obsE h2 (obsE h2 (obsE h2 (obsE h3 (obsE h3 (obsE h3 (obsE h3 (obsE h4 (obsE h4 (obsE h4 (obsE h4 (obsE h5 (obsE h6 (obsE h6 (obsE h6 (obsE h6 (obsE h7 (obsE h7 (obsE h7 (obsE h7 (obsE h8 (obsE h8 (obsE h8 (obsE h8 (obsE h9 (obsE h9 (obsE h9 (obsE h9 (obsE h9 (obsE h9 (obsE h9 obsN)))))))))))))))))))))))))))))))))))))))) rfl rfl (by kernel_rfl)
                    | true =>
                      cases h10 : (decide ((a0.qRetire : Int) > (IntKind.i64.wrap (3 * a0.qThreads)))) with
                      | false =>
                        exact dOk3 [] (obsE h0 (obsE h0 (obsE h0 (obsE h0 (obsE h1 (obsE h1 (obsE h1 (obsE h1 (obsE h2 (obsE h2 (obsE h2 (obsE h2 (obsE h3 (obsE h3 (obsE h3 (obsE h3 (obsE h4 (obsE h4 (obsE h4 (obsE h4 (obsE h5 (obsE h6 (obsE h6 (obsE h6 (obsE h6 (obsE h7 (obsE h7 (obsE h7 (obsE h7 (obsE h8 (obsE h8 (obsE h8 (obsE h8 (obsE h9 (obsE h9 (obsE h9 (obsE h9 (obsE h9 (obsE h9 (obsE h9 (obsE h10 (obsE h10 (obsE h10 (obsE h10 obsN)))))))))))))))))))))))))))))))))))))))))))) rfl rfl (by kernel_rfl)
                      | true =>
                        cases h11 : (!(decide ((a0.qRetire : Int) ≤ 1024))) with
                        | false =>
                          cases h12 : (decide ((a0.qNodes : Int) ≤ 40)) with
                          | false =>
                            exact dOk3 [.o, .o, .o, .o, .o, .o, .o, .o, .o, .o, .o, .o, .o, .o, .o, .o, .o, .o, .o, .o, .o, .o, .o, .o, .o, .o, .o, .o, .o, .o, .o, .o, .o, .o, .o, .o, .o, .o, .o, .o, .o, .o, .o, .o, .o, .o, .o, .o, .o, .o, .o, .o, .o, .o, .s, .s, .s, .o, .s, .o, .s, .s, .s, .o, .s] (obsE h0 (obsE h0 (obsE h0 (obsE h0 (obsE h1 (obsE h1 (obsE h1 (obsE h1 (obsE h2 (obsE h2 (obsE h2 (obsE h2 (obsE h3 (obsE h3 (obsE h3 (obsE h3 (obsE h4 (obsE h4 (obsE h4 (obsE h4 (obsE h5 (obsE h6 (obsE h6 (obsE h6 (obsE h6 (obsE h7 (obsE h7 (obsE h7 (obsE h7 (obsE h8 (obsE h8 (obsE h8 (obsE h8 (obsE h9 (obsE h9 (obsE h9 (obsE h9 (obsE h9 (obsE h9 (obsE h9 (obsE h10 (obsE h10 (obsE h10 (obsE h10 (obsE h11 (obsE h11 (obsE h11 (obsE h11 (obsE h12 (obsE h12 (obsE h12 (obsE h11 (obsE h12 (obsE h11 (obsE h11 (obsE h11 (obsE h11 (obsE h11 obsN)))))))))))))))))))))))))))))))))))))))))))))))))))))))))) rfl rfl (by kernel_rfl)
                          | true =>
                            cases h13 : (decide ((a0.qRetire : Int) ≤ 40)) with
                            | false =>
                              exact dOk3 [.o, .o, .o, .o, .o, .o, .o, .o, .o, .o, .o, .o, .o, .o, .o, .o, .o, .o, .o, .o, .o, .o, .o, .o, .o, .o, .o, .o, .o, .o, .o, .o, .o, .o, .o, .o, .o, .o, .o, .o, .o, .o, .o, .o, .o, .o, .o, .o, .o, .o, .o, .o, .o, .o, .o, .o, .o, .o, .o, .o, .s, .s, .s, .o, .s] (obsE h0 (obsE h0 (obsE h0 (obsE h0 (obsE h1 (obsE h1 (obsE h1 (obsE h1 (obsE h2 (obsE h2 (obsE h2 (obsE h2 (obsE h3 (obsE h3 (obsE h3 (obsE h3 (obsE h4 (obsE h4 (obsE h4 (obsE h4 (obsE h5 (obsE h6 (obsE h6 (obsE h6 (obsE h6 (obsE h7 (obsE h7 (obsE h7 (obsE h7 (obsE h8 (obsE h8 (obsE h8 (obsE h8 (obsE h9 (obsE h9 (obsE h9 (obsE h9 (obsE h9 (obsE h9 (obsE h9 (obsE h10 (obsE h10 (obsE h10 (obsE h10 (obsE h11 (obsE h11 (obsE h11 (obsE h11 (obsE h12 (obsE h12 (obsE h12 (obsE h11 (obsE h12 (obsE h11 (obsE h13 (obsE h13 (obsE h13 (obsE h11 (obsE h13 (obsE h11 (obsE h11 (obsE h11 obsN)))))))))))))))))))))))))))))))))))))))))))))))))))))))))))))) rfl rfl (by kernel_rfl)
                            | true =>
                              cases h14 : (decide ((a0.qDomains : Int) ≤ 6)) with
                              | false =>
                                exact dOk3 [] (obsE h0 (obsE h0 (obsE h0 (obsE h0 (obsE h1 (obsE h1 (obsE h1 (obsE h1 (obsE h2 (obsE h2 (obsE h2 (obsE h2 (obsE h3 (obsE h3 (obsE h3 (obsE h3 (obsE h4 (obsE h4 (obsE h4 (obsE h4 (obsE h5 (obsE h6 (obsE h6 (obsE h6 (obsE h6 (obsE h7 (obsE h7 (obsE h7 (obsE h7 (obsE h8 (obsE h8 (obsE h8 (obsE h8 (obsE h9 (obsE h9 (obsE h9 (obsE h9 (obsE h9 (obsE h9 (obsE h9 (obsE h10 (obsE h10 (obsE h10 (obsE h10 (obsE h11 (obsE h11 (obsE h11 (obsE h11 (obsE h12 (obsE h12 (obsE h12 (obsE h11 (obsE h12 (obsE h11 (obsE h13 (obsE h13 (obsE h13 (obsE h11 (obsE h13 (obsE h11 (obsE h14 (obsE h14 (obsE h14 (obsE h11 (obsE h14 (obsE h11 obsN)))))))))))))))))))))))))))))))))))))))))))))))))))))))))))))))))) rfl rfl (by kernel_rfl)
                              | true =>
                                exact dOk3 [] (obsE h0 (obsE h0 (obsE h0 (obsE h0 (obsE h1 (obsE h1 (obsE h1 (obsE h1 (obsE h2 (obsE h2 (obsE h2 (obsE h2 (obsE h3 (obsE h3 (obsE h3 (obsE h3 (obsE h4 (obsE h4 (obsE h4 (obsE h4 (obsE h5 (obsE h6 (obsE h6 (obsE h6 (obsE h6 (obsE h7 (obsE h7 (obsE h7 (obsE h7 (obsE h8 (obsE h8 (obsE h8 (obsE h8 (obsE h9 (obsE h9 (obsE h9 (obsE h9 (obsE h9 (obsE h9 (obsE h9 (obsE h10 (obsE h10 (obsE h10 (obsE h10 (obsE h11 (obsE h11 (obsE h11 (obsE h11 (obsE h12 (obsE h12 (obsE h12 (obsE h11 (obsE h12 (obsE h11 (obsE h13 (obsE h13 (obsE h13 (obsE h11 (obsE h13 (obsE h11 (obsE h14 (obsE h14 (obsE h14 (obsE h11 (obsE h14 (obsE h11 obsN)))))))))))))))))))))))))))))))))))))))))))))))))))))))))))))))))) rfl rfl (by kernel_rfl)
                        | true =>
                          exact dOk3 [] (obsE h0 (obsE h0 (obsE h0 (obsE h0 (obsE h1 (obsE h1 (obsE h1 (obsE h1 (obsE h2 (obsE h2 (obsE h2 (obsE h2 (obsE h3 (obsE h3 (obsE h3 (obsE h3 (obsE h4 (obsE h4 (obsE h4 (obsE h4 (obsE h5 (obsE h6 (obsE h6 (obsE h6 (obsE h6 (obsE h7 (obsE h7 (obsE h7 (obsE h7 (obsE h8 (obsE h8 (obsE h8 (obsE h8 (obsE h9 (obsE h9 (obsE h9 (obsE h9 (obsE h9 (obsE h9 (obsE h9 (obsE h10 (obsE h10 (obsE h10 (obsE h10 (obsE h11 (obsE h11 (obsE h11 (obsE h11 (obsE h11 (obsE h11 (obsE h11 (obsE h11 (obsE h11 (obsE h11 obsN)))))))))))))))))))))))))))))))))))))))))))))))))))))) rfl rfl (by kernel_rfl)
            | true =>
              exact dOk3 [] (obsE h0 (obsE h0 (obsE h0 (obsE h0 (obsE h1 (obsE h1 (obsE h1 (obsE h1 (obsE h2 (obsE h2 (obsE h2 (obsE h2 (obsE h3 (obsE h3 (obsE h3 (obsE h3 (obsE h4 (obsE h4 (obsE h4 (obsE h4 (obsE h5 obsN))))))))))))))))))))) rfl rfl (by kernel_rfl)
          | true =>
            exact dOk3 [] (obsE h0 (obsE h0 (obsE h0 (obsE h0 (obsE h1 (obsE h1 (obsE h1 (obsE h1 (obsE h2 (obsE h2 (obsE h2 (obsE h2 (obsE h3 (obsE h3 (obsE h3 (obsE h3 (obsE h4 (obsE h4 (obsE h4 (obsE h4 obsN)))))))))))))))))))) rfl rfl (by kernel_rfl)
        | true =>
          exact dOk3 [] (obsE h0 (obsE h0 (obsE h0 (obsE h0 (obsE h1 (obsE h1 (obsE h1 (obsE h1 (obsE h2 (obsE h2 (obsE h2 (obsE h2 (obsE h3 (obsE h3 (obsE h3 (obsE h3 obsN)))))))))))))))) rfl rfl (by kernel_rfl)
      | true =>
        exact dOk3 [] (obsE h0 (obsE h0 (obsE h0 (obsE h0 (obsE h1 (obsE h1 (obsE h1 (obsE h1 (obsE h2 (obsE h2 (obsE h2 (obsE h2 obsN)))))))))))) rfl rfl (by kernel_rfl)
    | true =>
      exact dOk3 [] (obsE h0 (obsE h0 (obsE h0 (obsE h0 (obsE h1 (obsE h1 (obsE h1 (obsE h1 obsN)))))))) rfl rfl (by kernel_rfl)
  | true =>
    exact dOk3 [] (obsE h0 (obsE h0 (obsE h0 (obsE h0 obsN)))) rfl rfl (by kernel_rfl)
def e_fewR : List DV → Option DV
  | [.agg [.int .i64 y0, .int .i64 y1, .int .i64 y2, .int .i64 y3, .int .i64 y4, .int .i64 y5]] => some (.bool (fewR ⟨y0, y1, y2, y3, y4, y5⟩))
  | _ => none
theorem e_fewR_ok : ∀ args d, e_fewR args = some d → Ck n_cubicleref06_Few args d := by
  intro args d h
  unfold e_fewR at h
  split at h
  · rename_i y0 y1 y2 y3 y4 y5; cases h; exact fewR_ok ⟨y0, y1, y2, y3, y4, y5⟩
  · cases h
abbrev n_cubicleref06_Formed : FuncId := 23
def formR (a0 : Pl) : Bool := (cond (decide ((a0.qNodes : Int) < 1)) false (cond (decide ((a0.qNodes : Int) > 1048576)) false (cond (decide ((a0.qThreads : Int) < 1)) false (cond (decide ((a0.qThreads : Int) > 16)) false (cond (decide ((a0.qDomains : Int) < 0)) false (cond (decide ((a0.qDomains : Int) > 64)) false (cond (decide ((a0.qBuckets : Int) ≥ 1)) (cond (decide ((a0.qBuckets : Int) ≤ 256)) (cond (decide ((a0.qGen : Int) ≥ 1)) (cond (decide ((a0.qGen : Int) ≤ 1073741823)) (cond (decide ((a0.qRetire : Int) > (IntKind.i64.wrap (3 * a0.qThreads)))) (decide ((a0.qRetire : Int) ≤ 1024)) false) false) false) false) false)))))))
theorem formR_ok (a0 : Pl) : Ck n_cubicleref06_Formed [(.agg a0.cs)] (.bool (formR a0)) := by
  unfold formR
  cases h0 : (decide ((a0.qNodes : Int) < 1)) with
  | false =>
    cases h1 : (decide ((a0.qNodes : Int) > 1048576)) with
    | false =>
      cases h2 : (decide ((a0.qThreads : Int) < 1)) with
      | false =>
        cases h3 : (decide ((a0.qThreads : Int) > 16)) with
        | false =>
          cases h4 : (decide ((a0.qDomains : Int) < 0)) with
          | false =>
            cases h5 : (decide ((a0.qDomains : Int) > 64)) with
            | false =>
              cases h6 : (decide ((a0.qBuckets : Int) ≥ 1)) with
              | false =>
                exact dOk3 [] (obsE h0 (obsE h0 (obsE h0 (obsE h0 (obsE h1 (obsE h1 (obsE h1 (obsE h1 (obsE h2 (obsE h2 (obsE h2 (obsE h2 (obsE h3 (obsE h3 (obsE h3 (obsE h3 (obsE h4 (obsE h4 (obsE h4 (obsE h4 (obsE h5 (obsE h6 (obsE h6 (obsE h6 (obsE h6 obsN))))))))))))))))))))))))) rfl rfl (by kernel_rfl)
              | true =>
                cases h7 : (decide ((a0.qBuckets : Int) ≤ 256)) with
                | false =>
                  exact dOk3 [] (obsE h0 (obsE h0 (obsE h0 (obsE h0 (obsE h1 (obsE h1 (obsE h1 (obsE h1 (obsE h2 (obsE h2 (obsE h2 (obsE h2 (obsE h3 (obsE h3 (obsE h3 (obsE h3 (obsE h4 (obsE h4 (obsE h4 (obsE h4 (obsE h5 (obsE h6 (obsE h6 (obsE h6 (obsE h6 (obsE h7 (obsE h7 (obsE h7 (obsE h7 obsN))))))))))))))))))))))))))))) rfl rfl (by kernel_rfl)
                | true =>
                  cases h8 : (decide ((a0.qGen : Int) ≥ 1)) with
                  | false =>
                    exact dOk3 [] (obsE h0 (obsE h0 (obsE h0 (obsE h0 (obsE h1 (obsE h1 (obsE h1 (obsE h1 (obsE h2 (obsE h2 (obsE h2 (obsE h2 (obsE h3 (obsE h3 (obsE h3 (obsE h3 (obsE h4 (obsE h4 (obsE h4 (obsE h4 (obsE h5 (obsE h6 (obsE h6 (obsE h6 (obsE h6 (obsE h7 (obsE h7 (obsE h7 (obsE h7 (obsE h8 (obsE h8 (obsE h8 (obsE h8 obsN))))))))))))))))))))))))))))))))) rfl rfl (by kernel_rfl)
                  | true =>
                    cases h9 : (decide ((a0.qGen : Int) ≤ 1073741823)) with
                    | false =>
                      exact dOk3 [] (obsE h0 (obsE h0 (obsE h0 (obsE h0 (obsE h1 (obsE h1 (obsE h1 (obsE h1 (obsE h2 (obsE h2 (obsE h2 (obsE h2 (obsE h3 (obsE h3 (obsE h3 (obsE h3 (obsE h4 (obsE h4 (obsE h4 (obsE h4 (obsE h5 (obsE h6 (obsE h6 (obsE h6 (obsE h6 (obsE h7 (obsE h7 (obsE h7 (obsE h7 (obsE h8 (obsE h8 (obsE h8 (obsE h8 (obsE h9 (obsE h9 (obsE h9 (obsE h9 (obsE h9 (obsE h9 (obsE h9 obsN)))))))))))))))))))))))))))))))))))))))) rfl rfl (by kernel_rfl)
                    | true =>
                      cases h10 : (decide ((a0.qRetire : Int) > (IntKind.i64.wrap (3 * a0.qThreads)))) with
                      | false =>
                        exact dOk3 [] (obsE h0 (obsE h0 (obsE h0 (obsE h0 (obsE h1 (obsE h1 (obsE h1 (obsE h1 (obsE h2 (obsE h2 (obsE h2 (obsE h2 (obsE h3 (obsE h3 (obsE h3 (obsE h3 (obsE h4 (obsE h4 (obsE h4 (obsE h4 (obsE h5 (obsE h6 (obsE h6 (obsE h6 (obsE h6 (obsE h7 (obsE h7 (obsE h7 (obsE h7 (obsE h8 (obsE h8 (obsE h8 (obsE h8 (obsE h9 (obsE h9 (obsE h9 (obsE h9 (obsE h9 (obsE h9 (obsE h9 (obsE h10 (obsE h10 (obsE h10 (obsE h10 obsN)))))))))))))))))))))))))))))))))))))))))))) rfl rfl (by kernel_rfl)
                      | true =>
                        exact dOk3 [] (obsE h0 (obsE h0 (obsE h0 (obsE h0 (obsE h1 (obsE h1 (obsE h1 (obsE h1 (obsE h2 (obsE h2 (obsE h2 (obsE h2 (obsE h3 (obsE h3 (obsE h3 (obsE h3 (obsE h4 (obsE h4 (obsE h4 (obsE h4 (obsE h5 (obsE h6 (obsE h6 (obsE h6 (obsE h6 (obsE h7 (obsE h7 (obsE h7 (obsE h7 (obsE h8 (obsE h8 (obsE h8 (obsE h8 (obsE h9 (obsE h9 (obsE h9 (obsE h9 (obsE h9 (obsE h9 (obsE h9 (obsE h10 (obsE h10 (obsE h10 (obsE h10 obsN)))))))))))))))))))))))))))))))))))))))))))) rfl rfl (by kernel_rfl)
            | true =>
              exact dOk3 [] (obsE h0 (obsE h0 (obsE h0 (obsE h0 (obsE h1 (obsE h1 (obsE h1 (obsE h1 (obsE h2 (obsE h2 (obsE h2 (obsE h2 (obsE h3 (obsE h3 (obsE h3 (obsE h3 (obsE h4 (obsE h4 (obsE h4 (obsE h4 (obsE h5 obsN))))))))))))))))))))) rfl rfl (by kernel_rfl)
          | true =>
            exact dOk3 [] (obsE h0 (obsE h0 (obsE h0 (obsE h0 (obsE h1 (obsE h1 (obsE h1 (obsE h1 (obsE h2 (obsE h2 (obsE h2 (obsE h2 (obsE h3 (obsE h3 (obsE h3 (obsE h3 (obsE h4 (obsE h4 (obsE h4 (obsE h4 obsN)))))))))))))))))))) rfl rfl (by kernel_rfl)
        | true =>
          exact dOk3 [] (obsE h0 (obsE h0 (obsE h0 (obsE h0 (obsE h1 (obsE h1 (obsE h1 (obsE h1 (obsE h2 (obsE h2 (obsE h2 (obsE h2 (obsE h3 (obsE h3 (obsE h3 (obsE h3 obsN)))))))))))))))) rfl rfl (by kernel_rfl)
      | true =>
        exact dOk3 [] (obsE h0 (obsE h0 (obsE h0 (obsE h0 (obsE h1 (obsE h1 (obsE h1 (obsE h1 (obsE h2 (obsE h2 (obsE h2 (obsE h2 obsN)))))))))))) rfl rfl (by kernel_rfl)
    | true =>
      exact dOk3 [] (obsE h0 (obsE h0 (obsE h0 (obsE h0 (obsE h1 (obsE h1 (obsE h1 (obsE h1 obsN)))))))) rfl rfl (by kernel_rfl)
  | true =>
    exact dOk3 [] (obsE h0 (obsE h0 (obsE h0 (obsE h0 obsN)))) rfl rfl (by kernel_rfl)
def e_formR : List DV → Option DV
  | [.agg [.int .i64 y0, .int .i64 y1, .int .i64 y2, .int .i64 y3, .int .i64 y4, .int .i64 y5]] => some (.bool (formR ⟨y0, y1, y2, y3, y4, y5⟩))
  | _ => none
theorem e_formR_ok : ∀ args d, e_formR args = some d → Ck n_cubicleref06_Formed args d := by
  intro args d h
  unfold e_formR at h
  split at h
  · rename_i y0 y1 y2 y3 y4 y5; cases h; exact formR_ok ⟨y0, y1, y2, y3, y4, y5⟩
  · cases h
end Go.Proofs.YtehihnapbpcfbaaGreat.Fun
