/- Sums of functions that change nothing (printed by wip/way2.py). -/
import Derived.Test.YtpckjfncecoibaaGreatWayDefs
import Derived.Test.YtpckjfncecoibaaGreatFunTabs
namespace Go.Proofs.YtpckjfncecoibaaGreat.Fun
open Go
set_option linter.unusedVariables false
theorem mixed : Tryz.prog.follows .mixedOrders = true := by kernel_rfl
def sums0 : Sums := sumsL []
theorem sums0_ok : SumsOk Tryz.prog sums0 := sumsL_nil
theorem rOk0 {f : FuncId} {ds : List DV} {d : DV} {obs : List Ob} (ms : List Mk) (hob : ∀ x ∈ obs, x.ok Tryz.prog) (hds : bareL ds = true) (hd : d.bare = true) (h : ((deepS Auto.tab Auto.fns sums0 1000 30) f ds (.rows []) (.go :: scOf ms obs)).map (fun r => (r.1, r.2.2.1, r.2.2.2.2.1)) = some (d, false, obs)) : Ck f ds d :=
  callOk_R (deepS_ok Auto.tabOk mixed Auto.fnsOk sums0_ok 1000 30) ms hob hds hd h
def formedG (a0 : Pl) : Bool := (cond (decide ((a0.qNodes : Int) < 1)) false (cond (decide ((a0.qNodes : Int) > 1048576)) false (cond (decide ((a0.qThreads : Int) < 1)) false (cond (decide ((a0.qThreads : Int) > 16)) false (cond (decide ((a0.qDomains : Int) < 0)) false (cond (decide ((a0.qDomains : Int) > 64)) false (cond (decide ((a0.qBuckets : Int) < 1)) false (cond (decide ((a0.qBuckets : Int) > 256)) false (cond (decide ((a0.qGen : Int) < 1)) false (cond (decide ((a0.qGen : Int) > 1073741823)) false (cond (decide ((a0.qRetire : Int) < (IntKind.i64.wrap ((IntKind.i64.wrap (3 * a0.qThreads)) + 1)))) false (cond (decide ((a0.qRetire : Int) > 1024)) false true))))))))))))
theorem formedG_ok (a0 : Pl) : Ck n_plan_Plan_Formed [(.agg a0.cs)] (.bool (formedG a0)) := by
  unfold formedG
  cases h0 : (decide ((a0.qNodes : Int) < 1)) with
  | false =>
    cases h1 : (decide ((a0.qNodes : Int) > 1048576)) with
    | false =>
      cases h2 : (decide ((a0.qThreads : Int) < 1)) with
      | false =>
        cases h3 : (decide ((a0.qThreads : Int) > 16)) with
        | false =>
          cases h4 : (decide ((a0.qDomains : Int) < 0)) with
          | false =>
            cases h5 : (decide ((a0.qDomains : Int) > 64)) with
            | false =>
              cases h6 : (decide ((a0.qBuckets : Int) < 1)) with
              | false =>
                cases h7 : (decide ((a0.qBuckets : Int) > 256)) with
                | false =>
                  cases h8 : (decide ((a0.qGen : Int) < 1)) with
                  | false =>
                    cases h9 : (decide ((a0.qGen : Int) > 1073741823)) with
                    | false =>
                      cases h10 : (decide ((a0.qRetire : Int) < (IntKind.i64.wrap ((IntKind.i64.wrap (3 * a0.qThreads)) + 1)))) with
                      | false =>
                        cases h11 : (decide ((a0.qRetire : Int) > 1024)) with
                        | false =>
                          exact rOk0 [.s, .o, .o, .o, .o, .o, .o, .o, .s, .o, .o, .o, .o, .o, .o, .o, .s, .o, .o, .o, .o, .o, .o, .o, .s, .o, .o, .o, .o, .o, .o, .o, .s, .o, .o, .o, .o, .o, .o, .o, .s, .s, .s, .s, .s, .s, .s, .s, .s, .s, .s] (obsE h0 (obsE h0 (obsE h0 (obsE h0 (obsE h0 (obsE h0 (obsE h1 (obsE h2 (obsE h2 (obsE h2 (obsE h2 (obsE h2 (obsE h2 (obsE h3 (obsE h4 (obsE h4 (obsE h4 (obsE h4 (obsE h4 (obsE h4 (obsE h5 (obsE h6 (obsE h6 (obsE h6 (obsE h6 (obsE h6 (obsE h6 (obsE h7 (obsE h8 (obsE h8 (obsE h8 (obsE h8 (obsE h8 (obsE h8 (obsE h9 (obsE h10 (obsE h10 (obsE h10 (obsE h10 (obsE h10 (obsE h10 (obsE h11 obsN)))))))))))))))))))))))))))))))))))))))))) rfl rfl (by kernel_rfl)
                        | true =>
                          exact rOk0 [.s, .o, .o, .o, .o, .o, .o, .o, .s, .o, .o, .o, .o, .o, .o, .o, .s, .o, .o, .o, .o, .o, .o, .o, .s, .o, .o, .o, .o, .o, .o, .o, .s, .o, .o, .o, .o, .o, .o, .o, .s, .s, .s, .s, .s, .s, .s, .s, .s, .s, .s] (obsE h0 (obsE h0 (obsE h0 (obsE h0 (obsE h0 (obsE h0 (obsE h1 (obsE h2 (obsE h2 (obsE h2 (obsE h2 (obsE h2 (obsE h2 (obsE h3 (obsE h4 (obsE h4 (obsE h4 (obsE h4 (obsE h4 (obsE h4 (obsE h5 (obsE h6 (obsE h6 (obsE h6 (obsE h6 (obsE h6 (obsE h6 (obsE h7 (obsE h8 (obsE h8 (obsE h8 (obsE h8 (obsE h8 (obsE h8 (obsE h9 (obsE h10 (obsE h10 (obsE h10 (obsE h10 (obsE h10 (obsE h10 (obsE h11 obsN)))))))))))))))))))))))))))))))))))))))))) rfl rfl (by kernel_rfl)
                      | true =>
                        exact rOk0 [.s, .o, .o, .o, .o, .o, .o, .o, .s, .o, .o, .o, .o, .o, .o, .o, .s, .o, .o, .o, .o, .o, .o, .o, .s, .o, .o, .o, .o, .o, .o, .o, .s, .o, .o, .o, .o, .o, .o, .o, .s, .s, .s, .s, .s, .s, .s, .s, .s, .s, .s] (obsE h0 (obsE h0 (obsE h0 (obsE h0 (obsE h0 (obsE h0 (obsE h1 (obsE h2 (obsE h2 (obsE h2 (obsE h2 (obsE h2 (obsE h2 (obsE h3 (obsE h4 (obsE h4 (obsE h4 (obsE h4 (obsE h4 (obsE h4 (obsE h5 (obsE h6 (obsE h6 (obsE h6 (obsE h6 (obsE h6 (obsE h6 (obsE h7 (obsE h8 (obsE h8 (obsE h8 (obsE h8 (obsE h8 (obsE h8 (obsE h9 (obsE h10 (obsE h10 (obsE h10 (obsE h10 (obsE h10 (obsE h10 obsN))))))))))))))))))))))))))))))))))))))))) rfl rfl (by kernel_rfl)
                    | true =>
                      exact rOk0 [.s, .o, .o, .o, .o, .o, .o, .o, .s, .o, .o, .o, .o, .o, .o, .o, .s, .o, .o, .o, .o, .o, .o, .o, .s, .o, .o, .o, .o, .o, .o, .o, .s] (obsE h0 (obsE h0 (obsE h0 (obsE h0 (obsE h0 (obsE h0 (obsE h1 (obsE h2 (obsE h2 (obsE h2 (obsE h2 (obsE h2 (obsE h2 (obsE h3 (obsE h4 (obsE h4 (obsE h4 (obsE h4 (obsE h4 (obsE h4 (obsE h5 (obsE h6 (obsE h6 (obsE h6 (obsE h6 (obsE h6 (obsE h6 (obsE h7 (obsE h8 (obsE h8 (obsE h8 (obsE h8 (obsE h8 (obsE h8 (obsE h9 obsN))))))))))))))))))))))))))))))))))) rfl rfl (by kernel_rfl)
                  | true =>
                    exact rOk0 [.s, .o, .o, .o, .o, .o, .o, .o, .s, .o, .o, .o, .o, .o, .o, .o, .s, .o, .o, .o, .o, .o, .o, .o, .s, .o, .o, .o, .o, .o, .o, .o, .s] (obsE h0 (obsE h0 (obsE h0 (obsE h0 (obsE h0 (obsE h0 (obsE h1 (obsE h2 (obsE h2 (obsE h2 (obsE h2 (obsE h2 (obsE h2 (obsE h3 (obsE h4 (obsE h4 (obsE h4 (obsE h4 (obsE h4 (obsE h4 (obsE h5 (obsE h6 (obsE h6 (obsE h6 (obsE h6 (obsE h6 (obsE h6 (obsE h7 (obsE h8 (obsE h8 (obsE h8 (obsE h8 (obsE h8 (obsE h8 obsN)))))))))))))))))))))))))))))))))) rfl rfl (by kernel_rfl)
                | true =>
                  exact rOk0 [.s, .o, .o, .o, .o, .o, .o, .o, .s, .o, .o, .o, .o, .o, .o, .o, .s, .o, .o, .o, .o, .o, .o, .o, .s] (obsE h0 (obsE h0 (obsE h0 (obsE h0 (obsE h0 (obsE h0 (obsE h1 (obsE h2 (obsE h2 (obsE h2 (obsE h2 (obsE h2 (obsE h2 (obsE h3 (obsE h4 (obsE h4 (obsE h4 (obsE h4 (obsE h4 (obsE h4 (obsE h5 (obsE h6 (obsE h6 (obsE h6 (obsE h6 (obsE h6 (obsE h6 (obsE h7 obsN)))))))))))))))))))))))))))) rfl rfl (by kernel_rfl)
              | true =>
                exact rOk0 [.s, .o, .o, .o, .o, .o, .o, .o, .s, .o, .o, .o, .o, .o, .o, .o, .s, .o, .o, .o, .o, .o, .o, .o, .s] (obsE h0 (obsE h0 (obsE h0 (obsE h0 (obsE h0 (obsE h0 (obsE h1 (obsE h2 (obsE h2 (obsE h2 (obsE h2 (obsE h2 (obsE h2 (obsE h3 (obsE h4 (obsE h4 (obsE h4 (obsE h4 (obsE h4 (obsE h4 (obsE h5 (obsE h6 (obsE h6 (obsE h6 (obsE h6 (obsE h6 (obsE h6 obsN))))))))))))))))))))))))))) rfl rfl (by kernel_rfl)
            | true =>
              exact rOk0 [.s, .o, .o, .o, .o, .o, .o, .o, .s, .o, .o, .o, .o, .o, .o, .o, .s] (obsE h0 (obsE h0 (obsE h0 (obsE h0 (obsE h0 (obsE h0 (obsE h1 (obsE h2 (obsE h2 (obsE h2 (obsE h2 (obsE h2 (obsE h2 (obsE h3 (obsE h4 (obsE h4 (obsE h4 (obsE h4 (obsE h4 (obsE h4 (obsE h5 obsN))))))))))))))))))))) rfl rfl (by kernel_rfl)
          | true =>
            exact rOk0 [.s, .o, .o, .o, .o, .o, .o, .o, .s, .o, .o, .o, .o, .o, .o, .o, .s] (obsE h0 (obsE h0 (obsE h0 (obsE h0 (obsE h0 (obsE h0 (obsE h1 (obsE h2 (obsE h2 (obsE h2 (obsE h2 (obsE h2 (obsE h2 (obsE h3 (obsE h4 (obsE h4 (obsE h4 (obsE h4 (obsE h4 (obsE h4 obsN)))))))))))))))))))) rfl rfl (by kernel_rfl)
        | true =>
          exact rOk0 [.s, .o, .o, .o, .o, .o, .o, .o, .s] (obsE h0 (obsE h0 (obsE h0 (obsE h0 (obsE h0 (obsE h0 (obsE h1 (obsE h2 (obsE h2 (obsE h2 (obsE h2 (obsE h2 (obsE h2 (obsE h3 obsN)))))))))))))) rfl rfl (by kernel_rfl)
      | true =>
        exact rOk0 [.s, .o, .o, .o, .o, .o, .o, .o, .s] (obsE h0 (obsE h0 (obsE h0 (obsE h0 (obsE h0 (obsE h0 (obsE h1 (obsE h2 (obsE h2 (obsE h2 (obsE h2 (obsE h2 (obsE h2 obsN))))))))))))) rfl rfl (by kernel_rfl)
    | true =>
      exact rOk0 [.s] (obsE h0 (obsE h0 (obsE h0 (obsE h0 (obsE h0 (obsE h0 (obsE h1 obsN))))))) rfl rfl (by kernel_rfl)
  | true =>
    exact rOk0 [.s] (obsE h0 (obsE h0 (obsE h0 (obsE h0 (obsE h0 (obsE h0 obsN)))))) rfl rfl (by kernel_rfl)
def e_formedG : List DV → Option DV
  | [.agg [.int .i64 y0, .int .i64 y1, .int .i64 y2, .int .i64 y3, .int .i64 y4, .int .i64 y5]] => some (.bool (formedG ⟨y0, y1, y2, y3, y4, y5⟩))
  | _ => none
theorem e_formedG_ok : ∀ args d, e_formedG args = some d → Ck n_plan_Plan_Formed args d := by
  intro args d h
  unfold e_formedG at h
  split at h
  · rename_i y0 y1 y2 y3 y4 y5; cases h; exact formedG_ok ⟨y0, y1, y2, y3, y4, y5⟩
  · cases h
def sums1 : Sums := sumsL [(n_plan_Plan_Formed, e_formedG)]
theorem sums1_ok : SumsOk Tryz.prog sums1 := sumsL_cons e_formedG_ok (sumsL_nil)
theorem rOk1 {f : FuncId} {ds : List DV} {d : DV} {obs : List Ob} (ms : List Mk) (hob : ∀ x ∈ obs, x.ok Tryz.prog) (hds : bareL ds = true) (hd : d.bare = true) (h : ((deepS Auto.tab Auto.fns sums1 1000 30) f ds (.rows []) (.go :: scOf ms obs)).map (fun r => (r.1, r.2.2.1, r.2.2.2.2.1)) = some (d, false, obs)) : Ck f ds d :=
  callOk_R (deepS_ok Auto.tabOk mixed Auto.fnsOk sums1_ok 1000 30) ms hob hds hd h
def seatG (a0 : Se) : Bool := (cond (formedG a0.qP) (cond (decide ((a0.qTenant : Int) ≥ 0)) (cond (decide ((a0.qTenant : Int) < 64)) (cond (decide ((a0.qThread : Int) ≥ 0)) (decide ((a0.qThread : Int) < a0.qP.qThreads)) false) false) false) false)
theorem seatG_ok (a0 : Se) : Ck n_check_Seat_Formed [(.agg a0.cs)] (.bool (seatG a0)) := by
  unfold seatG
  cases h0 : (formedG a0.qP) with
  | false =>
    exact rOk1 [] (obsE h0 (obsE h0 (obsE h0 (obsE h0 obsN)))) rfl rfl (by kernel_rfl)
  | true =>
    cases h1 : (decide ((a0.qTenant : Int) ≥ 0)) with
    | false =>
      exact rOk1 [] (obsE h0 (obsE h0 (obsE h0 (obsE h0 (obsE h1 (obsE h1 (obsE h1 (obsE h1 obsN)))))))) rfl rfl (by kernel_rfl)
    | true =>
      cases h2 : (decide ((a0.qTenant : Int) < 64)) with
      | false =>
        exact rOk1 [] (obsE h0 (obsE h0 (obsE h0 (obsE h0 (obsE h1 (obsE h1 (obsE h1 (obsE h1 (obsE h2 (obsE h2 (obsE h2 (obsE h2 obsN)))))))))))) rfl rfl (by kernel_rfl)
      | true =>
        cases h3 : (decide ((a0.qThread : Int) ≥ 0)) with
        | false =>
          exact rOk1 [] (obsE h0 (obsE h0 (obsE h0 (obsE h0 (obsE h1 (obsE h1 (obsE h1 (obsE h1 (obsE h2 (obsE h2 (obsE h2 (obsE h2 (obsE h3 (obsE h3 (obsE h3 (obsE h3 (obsE h3 (obsE h3 (obsE h3 obsN))))))))))))))))))) rfl rfl (by kernel_rfl)
        | true =>
          exact rOk1 [] (obsE h0 (obsE h0 (obsE h0 (obsE h0 (obsE h1 (obsE h1 (obsE h1 (obsE h1 (obsE h2 (obsE h2 (obsE h2 (obsE h2 (obsE h3 (obsE h3 (obsE h3 (obsE h3 (obsE h3 (obsE h3 (obsE h3 obsN))))))))))))))))))) rfl rfl (by kernel_rfl)
def e_seatG : List DV → Option DV
  | [.agg [.int .i64 y0, .int .i64 y1, .int .i64 y2, .int .i64 y3, .int .i64 y4, .int .i64 y5, .int .i64 y6, .int .i64 y7]] => some (.bool (seatG ⟨⟨y0, y1, y2, y3, y4, y5⟩, y6, y7⟩))
  | _ => none
theorem e_seatG_ok : ∀ args d, e_seatG args = some d → Ck n_check_Seat_Formed args d := by
  intro args d h
  unfold e_seatG at h
  split at h
  · rename_i y0 y1 y2 y3 y4 y5 y6 y7; cases h; exact seatG_ok ⟨⟨y0, y1, y2, y3, y4, y5⟩, y6, y7⟩
  · cases h
def headG (a0 : Pl) : Int := (cond (!(formedG a0)) (-1) 0)
theorem headG_ok (a0 : Pl) : Ck n_plan_Plan_Head [(.agg a0.cs)] (I (headG a0)) := by
  unfold headG
  cases h0 : (!(formedG a0)) with
  | false =>
    exact rOk1 [.o, .o, .s] (obsE h0 (obsE h0 (obsE h0 (obsE h0 obsN)))) rfl rfl (by kernel_rfl)
  | true =>
    exact rOk1 [] (obsE h0 (obsE h0 (obsE h0 (obsE h0 obsN)))) rfl rfl (by kernel_rfl)
def e_headG : List DV → Option DV
  | [.agg [.int .i64 y0, .int .i64 y1, .int .i64 y2, .int .i64 y3, .int .i64 y4, .int .i64 y5]] => some (I (headG ⟨y0, y1, y2, y3, y4, y5⟩))
  | _ => none
theorem e_headG_ok : ∀ args d, e_headG args = some d → Ck n_plan_Plan_Head args d := by
  intro args d h
  unfold e_headG at h
  split at h
  · rename_i y0 y1 y2 y3 y4 y5; cases h; exact headG_ok ⟨y0, y1, y2, y3, y4, y5⟩
  · cases h
def kindG (a0 : Pl) (a1 : Int) : Int := (cond (!(formedG a0)) (-1) (cond (decide ((a1 : Int) < 0)) (-1) (cond (decide ((a1 : Int) > (IntKind.i64.wrap (a0.qDomains - 1)))) (-1) (IntKind.i64.wrap (1 + (IntKind.i64.wrap (a1 * (IntKind.i64.wrap (1 + (if (a0.qBuckets : Int) > 2 then a0.qBuckets else 2))))))))))
theorem kindG_ok (a0 : Pl) (a1 : Int) : Ck n_plan_Plan_Kind [(.agg a0.cs), (I a1)] (I (kindG a0 a1)) := by
  unfold kindG
  cases h0 : (!(formedG a0)) with
  | false =>
    cases h1 : (decide ((a1 : Int) < 0)) with
    | false =>
      cases h2 : (decide ((a1 : Int) > (IntKind.i64.wrap (a0.qDomains - 1)))) with
      | false =>
        exact rOk1 [.o, .o, .s, .o, .o, .o, .o, .o, .o, .o, .s] (obsE h0 (obsE h0 (obsE h1 (obsE h1 (obsE h1 (obsE h1 (obsE h1 (obsE h1 (obsE h2 (obsE h0 (obsE h0 obsN))))))))))) rfl rfl (by kernel_rfl)
      | true =>
        exact rOk1 [.o, .o, .s] (obsE h0 (obsE h0 (obsE h1 (obsE h1 (obsE h1 (obsE h1 (obsE h1 (obsE h1 (obsE h2 (obsE h0 (obsE h0 obsN))))))))))) rfl rfl (by kernel_rfl)
    | true =>
      exact rOk1 [.o, .o, .s, .o, .o, .o, .o, .o, .o, .s] (obsE h0 (obsE h0 (obsE h1 (obsE h1 (obsE h1 (obsE h1 (obsE h1 (obsE h1 (obsE h0 (obsE h0 obsN)))))))))) rfl rfl (by kernel_rfl)
  | true =>
    exact rOk1 [] (obsE h0 (obsE h0 (obsE h0 (obsE h0 obsN)))) rfl rfl (by kernel_rfl)
def e_kindG : List DV → Option DV
  | [.agg [.int .i64 y0, .int .i64 y1, .int .i64 y2, .int .i64 y3, .int .i64 y4, .int .i64 y5], .int .i64 y6] => some (I (kindG ⟨y0, y1, y2, y3, y4, y5⟩ y6))
  | _ => none
theorem e_kindG_ok : ∀ args d, e_kindG args = some d → Ck n_plan_Plan_Kind args d := by
  intro args d h
  unfold e_kindG at h
  split at h
  · rename_i y0 y1 y2 y3 y4 y5 y6; cases h; exact kindG_ok ⟨y0, y1, y2, y3, y4, y5⟩ y6
  · cases h
def cellG (a0 : Pl) (a1 : Int) (a2 : Int) : Int := (cond (!(formedG a0)) (-1) (cond (decide ((a1 : Int) < 0)) (-1) (cond (decide ((a1 : Int) > (IntKind.i64.wrap (a0.qDomains - 1)))) (-1) (cond (decide ((a2 : Int) < 0)) (-1) (cond (decide ((a2 : Int) > (IntKind.i64.wrap ((if (a0.qBuckets : Int) > 2 then a0.qBuckets else 2) - 1)))) (-1) (IntKind.i64.wrap ((IntKind.i64.wrap (2 + (IntKind.i64.wrap (a1 * (IntKind.i64.wrap (1 + (if (a0.qBuckets : Int) > 2 then a0.qBuckets else 2))))))) + a2)))))))
theorem cellG_ok (a0 : Pl) (a1 : Int) (a2 : Int) : Ck n_plan_Plan_Cell [(.agg a0.cs), (I a1), (I a2)] (I (cellG a0 a1 a2)) := by
  unfold cellG
  cases h0 : (!(formedG a0)) with
  | false =>
    cases h1 : (decide ((a1 : Int) < 0)) with
    | false =>
      cases h2 : (decide ((a1 : Int) > (IntKind.i64.wrap (a0.qDomains - 1)))) with
      | false =>
        cases h3 : (decide ((a2 : Int) < 0)) with
        | false =>
          cases h4 : (decide ((a2 : Int) > (IntKind.i64.wrap ((if (a0.qBuckets : Int) > 2 then a0.qBuckets else 2) - 1)))) with
          | false =>
            exact rOk1 [.o, .o, .s, .o, .o, .o, .o, .o, .o, .o, .s, .o, .o, .o, .o, .o, .o, .o, .s] (obsE h0 (obsE h0 (obsE h1 (obsE h1 (obsE h1 (obsE h1 (obsE h1 (obsE h1 (obsE h2 (obsE h3 (obsE h3 (obsE h3 (obsE h3 (obsE h3 (obsE h3 (obsE h4 (obsE h0 (obsE h0 obsN)))))))))))))))))) rfl rfl (by kernel_rfl)
          | true =>
            exact rOk1 [.o, .o, .s, .o, .o, .o, .o, .o, .o, .o, .s] (obsE h0 (obsE h0 (obsE h1 (obsE h1 (obsE h1 (obsE h1 (obsE h1 (obsE h1 (obsE h2 (obsE h3 (obsE h3 (obsE h3 (obsE h3 (obsE h3 (obsE h3 (obsE h4 (obsE h0 (obsE h0 obsN)))))))))))))))))) rfl rfl (by kernel_rfl)
        | true =>
          exact rOk1 [.o, .o, .s, .o, .o, .o, .o, .o, .o, .o, .s, .o, .o, .o, .o, .o, .o, .s] (obsE h0 (obsE h0 (obsE h1 (obsE h1 (obsE h1 (obsE h1 (obsE h1 (obsE h1 (obsE h2 (obsE h3 (obsE h3 (obsE h3 (obsE h3 (obsE h3 (obsE h3 (obsE h0 (obsE h0 obsN))))))))))))))))) rfl rfl (by kernel_rfl)
      | true =>
        exact rOk1 [.o, .o, .s] (obsE h0 (obsE h0 (obsE h1 (obsE h1 (obsE h1 (obsE h1 (obsE h1 (obsE h1 (obsE h2 (obsE h0 (obsE h0 obsN))))))))))) rfl rfl (by kernel_rfl)
    | true =>
      exact rOk1 [.o, .o, .s, .o, .o, .o, .o, .o, .o, .s] (obsE h0 (obsE h0 (obsE h1 (obsE h1 (obsE h1 (obsE h1 (obsE h1 (obsE h1 (obsE h0 (obsE h0 obsN)))))))))) rfl rfl (by kernel_rfl)
  | true =>
    exact rOk1 [] (obsE h0 (obsE h0 (obsE h0 (obsE h0 obsN)))) rfl rfl (by kernel_rfl)
def e_cellG : List DV → Option DV
  | [.agg [.int .i64 y0, .int .i64 y1, .int .i64 y2, .int .i64 y3, .int .i64 y4, .int .i64 y5], .int .i64 y6, .int .i64 y7] => some (I (cellG ⟨y0, y1, y2, y3, y4, y5⟩ y6 y7))
  | _ => none
theorem e_cellG_ok : ∀ args d, e_cellG args = some d → Ck n_plan_Plan_Cell args d := by
  intro args d h
  unfold e_cellG at h
  split at h
  · rename_i y0 y1 y2 y3 y4 y5 y6 y7; cases h; exact cellG_ok ⟨y0, y1, y2, y3, y4, y5⟩ y6 y7
  · cases h
def hazardG (a0 : Pl) (a1 : Int) (a2 : Int) : Int := (cond (!(formedG a0)) (-1) (cond (decide ((a1 : Int) < 0)) (-1) (cond (decide ((a1 : Int) > (IntKind.i64.wrap (a0.qThreads - 1)))) (-1) (cond (decide ((a2 : Int) < 0)) (-1) (cond (decide ((a2 : Int) > 2)) (-1) (IntKind.i64.wrap ((IntKind.i64.wrap ((IntKind.i64.wrap (1 + (IntKind.i64.wrap (a0.qDomains * (IntKind.i64.wrap (1 + (if (a0.qBuckets : Int) > 2 then a0.qBuckets else 2))))))) + (IntKind.i64.wrap (a1 * 3)))) + a2)))))))
theorem hazardG_ok (a0 : Pl) (a1 : Int) (a2 : Int) : Ck n_plan_Plan_Hazard [(.agg a0.cs), (I a1), (I a2)] (I (hazardG a0 a1 a2)) := by
  unfold hazardG
  cases h0 : (!(formedG a0)) with
  | false =>
    cases h1 : (decide ((a1 : Int) < 0)) with
    | false =>
      cases h2 : (decide ((a1 : Int) > (IntKind.i64.wrap (a0.qThreads - 1)))) with
      | false =>
        cases h3 : (decide ((a2 : Int) < 0)) with
        | false =>
          cases h4 : (decide ((a2 : Int) > 2)) with
          | false =>
            exact rOk1 [.o, .o, .s, .o, .o, .o, .o, .o, .o, .o, .s, .o, .o, .o, .o, .o, .o, .o, .s] (obsE h0 (obsE h0 (obsE h1 (obsE h1 (obsE h1 (obsE h1 (obsE h1 (obsE h1 (obsE h2 (obsE h3 (obsE h3 (obsE h3 (obsE h3 (obsE h3 (obsE h3 (obsE h4 (obsE h0 (obsE h0 obsN)))))))))))))))))) rfl rfl (by kernel_rfl)
          | true =>
            exact rOk1 [.o, .o, .s, .o, .o, .o, .o, .o, .o, .o, .s] (obsE h0 (obsE h0 (obsE h1 (obsE h1 (obsE h1 (obsE h1 (obsE h1 (obsE h1 (obsE h2 (obsE h3 (obsE h3 (obsE h3 (obsE h3 (obsE h3 (obsE h3 (obsE h4 (obsE h0 (obsE h0 obsN)))))))))))))))))) rfl rfl (by kernel_rfl)
        | true =>
          exact rOk1 [.o, .o, .s, .o, .o, .o, .o, .o, .o, .o, .s, .o, .o, .o, .o, .o, .o, .s] (obsE h0 (obsE h0 (obsE h1 (obsE h1 (obsE h1 (obsE h1 (obsE h1 (obsE h1 (obsE h2 (obsE h3 (obsE h3 (obsE h3 (obsE h3 (obsE h3 (obsE h3 (obsE h0 (obsE h0 obsN))))))))))))))))) rfl rfl (by kernel_rfl)
      | true =>
        exact rOk1 [.o, .o, .s] (obsE h0 (obsE h0 (obsE h1 (obsE h1 (obsE h1 (obsE h1 (obsE h1 (obsE h1 (obsE h2 (obsE h0 (obsE h0 obsN))))))))))) rfl rfl (by kernel_rfl)
    | true =>
      exact rOk1 [.o, .o, .s, .o, .o, .o, .o, .o, .o, .s] (obsE h0 (obsE h0 (obsE h1 (obsE h1 (obsE h1 (obsE h1 (obsE h1 (obsE h1 (obsE h0 (obsE h0 obsN)))))))))) rfl rfl (by kernel_rfl)
  | true =>
    exact rOk1 [] (obsE h0 (obsE h0 (obsE h0 (obsE h0 obsN)))) rfl rfl (by kernel_rfl)
def e_hazardG : List DV → Option DV
  | [.agg [.int .i64 y0, .int .i64 y1, .int .i64 y2, .int .i64 y3, .int .i64 y4, .int .i64 y5], .int .i64 y6, .int .i64 y7] => some (I (hazardG ⟨y0, y1, y2, y3, y4, y5⟩ y6 y7))
  | _ => none
theorem e_hazardG_ok : ∀ args d, e_hazardG args = some d → Ck n_plan_Plan_Hazard args d := by
  intro args d h
  unfold e_hazardG at h
  split at h
  · rename_i y0 y1 y2 y3 y4 y5 y6 y7; cases h; exact hazardG_ok ⟨y0, y1, y2, y3, y4, y5⟩ y6 y7
  · cases h
def countG (a0 : Pl) (a1 : Int) : Int := (cond (!(formedG a0)) (-1) (cond (decide ((a1 : Int) < 0)) (-1) (cond (decide ((a1 : Int) > (IntKind.i64.wrap (a0.qThreads - 1)))) (-1) (IntKind.i64.wrap ((IntKind.i64.wrap ((IntKind.i64.wrap (1 + (IntKind.i64.wrap (a0.qDomains * (IntKind.i64.wrap (1 + (if (a0.qBuckets : Int) > 2 then a0.qBuckets else 2))))))) + (IntKind.i64.wrap (a0.qThreads * 3)))) + (IntKind.i64.wrap (a1 * (IntKind.i64.wrap (1 + a0.qRetire)))))))))
theorem countG_ok (a0 : Pl) (a1 : Int) : Ck n_plan_Plan_Count [(.agg a0.cs), (I a1)] (I (countG a0 a1)) := by
  unfold countG
  cases h0 : (!(formedG a0)) with
  | false =>
    cases h1 : (decide ((a1 : Int) < 0)) with
    | false =>
      cases h2 : (decide ((a1 : Int) > (IntKind.i64.wrap (a0.qThreads - 1)))) with
      | false =>
        exact rOk1 [.o, .o, .s, .o, .o, .o, .o, .o, .o, .o, .s] (obsE h0 (obsE h0 (obsE h1 (obsE h1 (obsE h1 (obsE h1 (obsE h1 (obsE h1 (obsE h2 (obsE h0 (obsE h0 obsN))))))))))) rfl rfl (by kernel_rfl)
      | true =>
        exact rOk1 [.o, .o, .s] (obsE h0 (obsE h0 (obsE h1 (obsE h1 (obsE h1 (obsE h1 (obsE h1 (obsE h1 (obsE h2 (obsE h0 (obsE h0 obsN))))))))))) rfl rfl (by kernel_rfl)
    | true =>
      exact rOk1 [.o, .o, .s, .o, .o, .o, .o, .o, .o, .s] (obsE h0 (obsE h0 (obsE h1 (obsE h1 (obsE h1 (obsE h1 (obsE h1 (obsE h1 (obsE h0 (obsE h0 obsN)))))))))) rfl rfl (by kernel_rfl)
  | true =>
    exact rOk1 [] (obsE h0 (obsE h0 (obsE h0 (obsE h0 obsN)))) rfl rfl (by kernel_rfl)
def e_countG : List DV → Option DV
  | [.agg [.int .i64 y0, .int .i64 y1, .int .i64 y2, .int .i64 y3, .int .i64 y4, .int .i64 y5], .int .i64 y6] => some (I (countG ⟨y0, y1, y2, y3, y4, y5⟩ y6))
  | _ => none
theorem e_countG_ok : ∀ args d, e_countG args = some d → Ck n_plan_Plan_Count args d := by
  intro args d h
  unfold e_countG at h
  split at h
  · rename_i y0 y1 y2 y3 y4 y5 y6; cases h; exact countG_ok ⟨y0, y1, y2, y3, y4, y5⟩ y6
  · cases h
def retiredG (a0 : Pl) (a1 : Int) (a2 : Int) : Int := (cond (!(formedG a0)) (-1) (cond (decide ((a1 : Int) < 0)) (-1) (cond (decide ((a1 : Int) > (IntKind.i64.wrap (a0.qThreads - 1)))) (-1) (cond (decide ((a2 : Int) < 0)) (-1) (cond (decide ((a2 : Int) > (IntKind.i64.wrap (a0.qRetire - 1)))) (-1) (IntKind.i64.wrap ((IntKind.i64.wrap ((IntKind.i64.wrap ((IntKind.i64.wrap ((IntKind.i64.wrap (1 + (IntKind.i64.wrap (a0.qDomains * (IntKind.i64.wrap (1 + (if (a0.qBuckets : Int) > 2 then a0.qBuckets else 2))))))) + (IntKind.i64.wrap (a0.qThreads * 3)))) + (IntKind.i64.wrap (a1 * (IntKind.i64.wrap (1 + a0.qRetire)))))) + 1)) + a2)))))))
theorem retiredG_ok (a0 : Pl) (a1 : Int) (a2 : Int) : Ck n_plan_Plan_Retired [(.agg a0.cs), (I a1), (I a2)] (I (retiredG a0 a1 a2)) := by
  unfold retiredG
  cases h0 : (!(formedG a0)) with
  | false =>
    cases h1 : (decide ((a1 : Int) < 0)) with
    | false =>
      cases h2 : (decide ((a1 : Int) > (IntKind.i64.wrap (a0.qThreads - 1)))) with
      | false =>
        cases h3 : (decide ((a2 : Int) < 0)) with
        | false =>
          cases h4 : (decide ((a2 : Int) > (IntKind.i64.wrap (a0.qRetire - 1)))) with
          | false =>
            exact rOk1 [.o, .o, .s, .o, .o, .o, .o, .o, .o, .o, .s, .o, .o, .o, .o, .o, .o, .o, .s] (obsE h0 (obsE h0 (obsE h1 (obsE h1 (obsE h1 (obsE h1 (obsE h1 (obsE h1 (obsE h2 (obsE h3 (obsE h3 (obsE h3 (obsE h3 (obsE h3 (obsE h3 (obsE h4 (obsE h0 (obsE h0 obsN)))))))))))))))))) rfl rfl (by kernel_rfl)
          | true =>
            exact rOk1 [.o, .o, .s, .o, .o, .o, .o, .o, .o, .o, .s] (obsE h0 (obsE h0 (obsE h1 (obsE h1 (obsE h1 (obsE h1 (obsE h1 (obsE h1 (obsE h2 (obsE h3 (obsE h3 (obsE h3 (obsE h3 (obsE h3 (obsE h3 (obsE h4 (obsE h0 (obsE h0 obsN)))))))))))))))))) rfl rfl (by kernel_rfl)
        | true =>
          exact rOk1 [.o, .o, .s, .o, .o, .o, .o, .o, .o, .o, .s, .o, .o, .o, .o, .o, .o, .s] (obsE h0 (obsE h0 (obsE h1 (obsE h1 (obsE h1 (obsE h1 (obsE h1 (obsE h1 (obsE h2 (obsE h3 (obsE h3 (obsE h3 (obsE h3 (obsE h3 (obsE h3 (obsE h0 (obsE h0 obsN))))))))))))))))) rfl rfl (by kernel_rfl)
      | true =>
        exact rOk1 [.o, .o, .s] (obsE h0 (obsE h0 (obsE h1 (obsE h1 (obsE h1 (obsE h1 (obsE h1 (obsE h1 (obsE h2 (obsE h0 (obsE h0 obsN))))))))))) rfl rfl (by kernel_rfl)
    | true =>
      exact rOk1 [.o, .o, .s, .o, .o, .o, .o, .o, .o, .s] (obsE h0 (obsE h0 (obsE h1 (obsE h1 (obsE h1 (obsE h1 (obsE h1 (obsE h1 (obsE h0 (obsE h0 obsN)))))))))) rfl rfl (by kernel_rfl)
  | true =>
    exact rOk1 [] (obsE h0 (obsE h0 (obsE h0 (obsE h0 obsN)))) rfl rfl (by kernel_rfl)
def e_retiredG : List DV → Option DV
  | [.agg [.int .i64 y0, .int .i64 y1, .int .i64 y2, .int .i64 y3, .int .i64 y4, .int .i64 y5], .int .i64 y6, .int .i64 y7] => some (I (retiredG ⟨y0, y1, y2, y3, y4, y5⟩ y6 y7))
  | _ => none
theorem e_retiredG_ok : ∀ args d, e_retiredG args = some d → Ck n_plan_Plan_Retired args d := by
  intro args d h
  unfold e_retiredG at h
  split at h
  · rename_i y0 y1 y2 y3 y4 y5 y6 y7; cases h; exact retiredG_ok ⟨y0, y1, y2, y3, y4, y5⟩ y6 y7
  · cases h
def stateG (a0 : Pl) (a1 : Int) : Int := (cond (!(formedG a0)) (-1) (cond (decide ((a1 : Int) < 0)) (-1) (cond (decide ((a1 : Int) > (IntKind.i64.wrap (a0.qNodes - 1)))) (-1) (IntKind.i64.wrap ((IntKind.i64.wrap ((IntKind.i64.wrap ((IntKind.i64.wrap (1 + (IntKind.i64.wrap (a0.qDomains * (IntKind.i64.wrap (1 + (if (a0.qBuckets : Int) > 2 then a0.qBuckets else 2))))))) + (IntKind.i64.wrap (a0.qThreads * 3)))) + (IntKind.i64.wrap (a0.qThreads * (IntKind.i64.wrap (1 + a0.qRetire)))))) + (IntKind.i64.wrap (a1 * 5)))))))
theorem stateG_ok (a0 : Pl) (a1 : Int) : Ck n_plan_Plan_State [(.agg a0.cs), (I a1)] (I (stateG a0 a1)) := by
  unfold stateG
  cases h0 : (!(formedG a0)) with
  | false =>
    cases h1 : (decide ((a1 : Int) < 0)) with
    | false =>
      cases h2 : (decide ((a1 : Int) > (IntKind.i64.wrap (a0.qNodes - 1)))) with
      | false =>
        exact rOk1 [.o, .o, .s, .o, .o, .o, .o, .o, .o, .o, .s] (obsE h0 (obsE h0 (obsE h1 (obsE h1 (obsE h1 (obsE h1 (obsE h1 (obsE h1 (obsE h2 (obsE h0 (obsE h0 obsN))))))))))) rfl rfl (by kernel_rfl)
      | true =>
        exact rOk1 [.o, .o, .s] (obsE h0 (obsE h0 (obsE h1 (obsE h1 (obsE h1 (obsE h1 (obsE h1 (obsE h1 (obsE h2 (obsE h0 (obsE h0 obsN))))))))))) rfl rfl (by kernel_rfl)
    | true =>
      exact rOk1 [.o, .o, .s, .o, .o, .o, .o, .o, .o, .s] (obsE h0 (obsE h0 (obsE h1 (obsE h1 (obsE h1 (obsE h1 (obsE h1 (obsE h1 (obsE h0 (obsE h0 obsN)))))))))) rfl rfl (by kernel_rfl)
  | true =>
    exact rOk1 [] (obsE h0 (obsE h0 (obsE h0 (obsE h0 obsN)))) rfl rfl (by kernel_rfl)
def e_stateG : List DV → Option DV
  | [.agg [.int .i64 y0, .int .i64 y1, .int .i64 y2, .int .i64 y3, .int .i64 y4, .int .i64 y5], .int .i64 y6] => some (I (stateG ⟨y0, y1, y2, y3, y4, y5⟩ y6))
  | _ => none
theorem e_stateG_ok : ∀ args d, e_stateG args = some d → Ck n_plan_Plan_State args d := by
  intro args d h
  unfold e_stateG at h
  split at h
  · rename_i y0 y1 y2 y3 y4 y5 y6; cases h; exact stateG_ok ⟨y0, y1, y2, y3, y4, y5⟩ y6
  · cases h
def nextG (a0 : Pl) (a1 : Int) : Int := (cond (!(formedG a0)) (-1) (cond (decide ((a1 : Int) < 0)) (-1) (cond (decide ((a1 : Int) > (IntKind.i64.wrap (a0.qNodes - 1)))) (-1) (IntKind.i64.wrap ((IntKind.i64.wrap ((IntKind.i64.wrap ((IntKind.i64.wrap ((IntKind.i64.wrap (1 + (IntKind.i64.wrap (a0.qDomains * (IntKind.i64.wrap (1 + (if (a0.qBuckets : Int) > 2 then a0.qBuckets else 2))))))) + (IntKind.i64.wrap (a0.qThreads * 3)))) + (IntKind.i64.wrap (a0.qThreads * (IntKind.i64.wrap (1 + a0.qRetire)))))) + (IntKind.i64.wrap (a1 * 5)))) + 1)))))
theorem nextG_ok (a0 : Pl) (a1 : Int) : Ck n_plan_Plan_Next [(.agg a0.cs), (I a1)] (I (nextG a0 a1)) := by
  unfold nextG
  cases h0 : (!(formedG a0)) with
  | false =>
    cases h1 : (decide ((a1 : Int) < 0)) with
    | false =>
      cases h2 : (decide ((a1 : Int) > (IntKind.i64.wrap (a0.qNodes - 1)))) with
      | false =>
        exact rOk1 [.o, .o, .s, .o, .o, .o, .o, .o, .o, .o, .s] (obsE h0 (obsE h0 (obsE h1 (obsE h1 (obsE h1 (obsE h1 (obsE h1 (obsE h1 (obsE h2 (obsE h0 (obsE h0 obsN))))))))))) rfl rfl (by kernel_rfl)
      | true =>
        exact rOk1 [.o, .o, .s] (obsE h0 (obsE h0 (obsE h1 (obsE h1 (obsE h1 (obsE h1 (obsE h1 (obsE h1 (obsE h2 (obsE h0 (obsE h0 obsN))))))))))) rfl rfl (by kernel_rfl)
    | true =>
      exact rOk1 [.o, .o, .s, .o, .o, .o, .o, .o, .o, .s] (obsE h0 (obsE h0 (obsE h1 (obsE h1 (obsE h1 (obsE h1 (obsE h1 (obsE h1 (obsE h0 (obsE h0 obsN)))))))))) rfl rfl (by kernel_rfl)
  | true =>
    exact rOk1 [] (obsE h0 (obsE h0 (obsE h0 (obsE h0 obsN)))) rfl rfl (by kernel_rfl)
def e_nextG : List DV → Option DV
  | [.agg [.int .i64 y0, .int .i64 y1, .int .i64 y2, .int .i64 y3, .int .i64 y4, .int .i64 y5], .int .i64 y6] => some (I (nextG ⟨y0, y1, y2, y3, y4, y5⟩ y6))
  | _ => none
theorem e_nextG_ok : ∀ args d, e_nextG args = some d → Ck n_plan_Plan_Next args d := by
  intro args d h
  unfold e_nextG at h
  split at h
  · rename_i y0 y1 y2 y3 y4 y5 y6; cases h; exact nextG_ok ⟨y0, y1, y2, y3, y4, y5⟩ y6
  · cases h
def fieldG (a0 : Pl) (a1 : Int) (a2 : Int) : Int := (cond (!(formedG a0)) (-1) (cond (decide ((a1 : Int) < 0)) (-1) (cond (decide ((a1 : Int) > (IntKind.i64.wrap (a0.qNodes - 1)))) (-1) (cond (decide ((a2 : Int) < 0)) (-1) (cond (decide ((a2 : Int) > 2)) (-1) (IntKind.i64.wrap ((IntKind.i64.wrap ((IntKind.i64.wrap ((IntKind.i64.wrap ((IntKind.i64.wrap ((IntKind.i64.wrap (1 + (IntKind.i64.wrap (a0.qDomains * (IntKind.i64.wrap (1 + (if (a0.qBuckets : Int) > 2 then a0.qBuckets else 2))))))) + (IntKind.i64.wrap (a0.qThreads * 3)))) + (IntKind.i64.wrap (a0.qThreads * (IntKind.i64.wrap (1 + a0.qRetire)))))) + (IntKind.i64.wrap (a1 * 5)))) + 2)) + a2)))))))
theorem fieldG_ok (a0 : Pl) (a1 : Int) (a2 : Int) : Ck n_plan_Plan_Field [(.agg a0.cs), (I a1), (I a2)] (I (fieldG a0 a1 a2)) := by
  unfold fieldG
  cases h0 : (!(formedG a0)) with
  | false =>
    cases h1 : (decide ((a1 : Int) < 0)) with
    | false =>
      cases h2 : (decide ((a1 : Int) > (IntKind.i64.wrap (a0.qNodes - 1)))) with
      | false =>
        cases h3 : (decide ((a2 : Int) < 0)) with
        | false =>
          cases h4 : (decide ((a2 : Int) > 2)) with
          | false =>
            exact rOk1 [.o, .o, .s, .o, .o, .o, .o, .o, .o, .o, .s, .o, .o, .o, .o, .o, .o, .o, .s] (obsE h0 (obsE h0 (obsE h1 (obsE h1 (obsE h1 (obsE h1 (obsE h1 (obsE h1 (obsE h2 (obsE h3 (obsE h3 (obsE h3 (obsE h3 (obsE h3 (obsE h3 (obsE h4 (obsE h0 (obsE h0 obsN)))))))))))))))))) rfl rfl (by kernel_rfl)
          | true =>
            exact rOk1 [.o, .o, .s, .o, .o, .o, .o, .o, .o, .o, .s] (obsE h0 (obsE h0 (obsE h1 (obsE h1 (obsE h1 (obsE h1 (obsE h1 (obsE h1 (obsE h2 (obsE h3 (obsE h3 (obsE h3 (obsE h3 (obsE h3 (obsE h3 (obsE h4 (obsE h0 (obsE h0 obsN)))))))))))))))))) rfl rfl (by kernel_rfl)
        | true =>
          exact rOk1 [.o, .o, .s, .o, .o, .o, .o, .o, .o, .o, .s, .o, .o, .o, .o, .o, .o, .s] (obsE h0 (obsE h0 (obsE h1 (obsE h1 (obsE h1 (obsE h1 (obsE h1 (obsE h1 (obsE h2 (obsE h3 (obsE h3 (obsE h3 (obsE h3 (obsE h3 (obsE h3 (obsE h0 (obsE h0 obsN))))))))))))))))) rfl rfl (by kernel_rfl)
      | true =>
        exact rOk1 [.o, .o, .s] (obsE h0 (obsE h0 (obsE h1 (obsE h1 (obsE h1 (obsE h1 (obsE h1 (obsE h1 (obsE h2 (obsE h0 (obsE h0 obsN))))))))))) rfl rfl (by kernel_rfl)
    | true =>
      exact rOk1 [.o, .o, .s, .o, .o, .o, .o, .o, .o, .s] (obsE h0 (obsE h0 (obsE h1 (obsE h1 (obsE h1 (obsE h1 (obsE h1 (obsE h1 (obsE h0 (obsE h0 obsN)))))))))) rfl rfl (by kernel_rfl)
  | true =>
    exact rOk1 [] (obsE h0 (obsE h0 (obsE h0 (obsE h0 obsN)))) rfl rfl (by kernel_rfl)
def e_fieldG : List DV → Option DV
  | [.agg [.int .i64 y0, .int .i64 y1, .int .i64 y2, .int .i64 y3, .int .i64 y4, .int .i64 y5], .int .i64 y6, .int .i64 y7] => some (I (fieldG ⟨y0, y1, y2, y3, y4, y5⟩ y6 y7))
  | _ => none
theorem e_fieldG_ok : ∀ args d, e_fieldG args = some d → Ck n_plan_Plan_Field args d := by
  intro args d h
  unfold e_fieldG at h
  split at h
  · rename_i y0 y1 y2 y3 y4 y5 y6 y7; cases h; exact fieldG_ok ⟨y0, y1, y2, y3, y4, y5⟩ y6 y7
  · cases h
def stOfG (a0 : Int) : Sta × Bool := (cond (((IntKind.u64.wrap (BitVec.ofInt (IntKind.u64.bits) (IntKind.u64.wrap (BitVec.ofInt (IntKind.u64.bits) (IntKind.u64.wrap (BitVec.ofInt (IntKind.u64.bits) a0 &&& ~~~ BitVec.ofInt (IntKind.u64.bits) 1073741823).toNat) &&& ~~~ BitVec.ofInt (IntKind.u64.bits) 3221225472).toNat) &&& ~~~ BitVec.ofInt (IntKind.u64.bits) 12884901888).toNat) : Int) != 0) ((⟨0, 0, 0⟩ : Sta), false) (cond (decide (((IntKind.i64.wrap (IntKind.u64.wrap (BitVec.ofInt (IntKind.u64.bits) (Int.fdiv a0 (2 ^ (min (0 : Int).toNat IntKind.u64.bits))) &&& BitVec.ofInt (IntKind.u64.bits) 1073741823).toNat)) : Int) ≥ 0)) (cond (decide (((IntKind.i64.wrap (IntKind.u64.wrap (BitVec.ofInt (IntKind.u64.bits) (Int.fdiv a0 (2 ^ (min (0 : Int).toNat IntKind.u64.bits))) &&& BitVec.ofInt (IntKind.u64.bits) 1073741823).toNat)) : Int) ≤ 1073741823)) (cond (decide (((IntKind.i64.wrap (IntKind.u64.wrap (BitVec.ofInt (IntKind.u64.bits) (Int.fdiv a0 (2 ^ (min (30 : Int).toNat IntKind.u64.bits))) &&& BitVec.ofInt (IntKind.u64.bits) 3).toNat)) : Int) ≥ 0)) (cond (decide (((IntKind.i64.wrap (IntKind.u64.wrap (BitVec.ofInt (IntKind.u64.bits) (Int.fdiv a0 (2 ^ (min (30 : Int).toNat IntKind.u64.bits))) &&& BitVec.ofInt (IntKind.u64.bits) 3).toNat)) : Int) ≤ 3)) (cond (decide (((IntKind.i64.wrap (IntKind.u64.wrap (BitVec.ofInt (IntKind.u64.bits) (Int.fdiv a0 (2 ^ (min (32 : Int).toNat IntKind.u64.bits))) &&& BitVec.ofInt (IntKind.u64.bits) 3).toNat)) : Int) ≥ 0)) (cond (!(decide (((IntKind.i64.wrap (IntKind.u64.wrap (BitVec.ofInt (IntKind.u64.bits) (Int.fdiv a0 (2 ^ (min (32 : Int).toNat IntKind.u64.bits))) &&& BitVec.ofInt (IntKind.u64.bits) 3).toNat)) : Int) ≤ 2))) ((⟨0, 0, 0⟩ : Sta), false) ((⟨(IntKind.i64.wrap (IntKind.u64.wrap (BitVec.ofInt (IntKind.u64.bits) (Int.fdiv a0 (2 ^ (min (0 : Int).toNat IntKind.u64.bits))) &&& BitVec.ofInt (IntKind.u64.bits) 1073741823).toNat)), (IntKind.i64.wrap (IntKind.u64.wrap (BitVec.ofInt (IntKind.u64.bits) (Int.fdiv a0 (2 ^ (min (30 : Int).toNat IntKind.u64.bits))) &&& BitVec.ofInt (IntKind.u64.bits) 3).toNat)), (IntKind.i64.wrap (IntKind.u64.wrap (BitVec.ofInt (IntKind.u64.bits) (Int.fdiv a0 (2 ^ (min (32 : Int).toNat IntKind.u64.bits))) &&& BitVec.ofInt (IntKind.u64.bits) 3).toNat))⟩ : Sta), true)) ((⟨0, 0, 0⟩ : Sta), false)) ((⟨0, 0, 0⟩ : Sta), false)) ((⟨0, 0, 0⟩ : Sta), false)) ((⟨0, 0, 0⟩ : Sta), false)) ((⟨0, 0, 0⟩ : Sta), false)))
theorem stOfG_ok (a0 : Int) : Ck n_state_Of [(U a0)] (.tup [(.agg ((stOfG a0).1).cs), (.bool (stOfG a0).2)]) := by
  unfold stOfG
  cases h0 : (((IntKind.u64.wrap (BitVec.ofInt (IntKind.u64.bits) (IntKind.u64.wrap (BitVec.ofInt (IntKind.u64.bits) (IntKind.u64.wrap (BitVec.ofInt (IntKind.u64.bits) a0 &&& ~~~ BitVec.ofInt (IntKind.u64.bits) 1073741823).toNat) &&& ~~~ BitVec.ofInt (IntKind.u64.bits) 3221225472).toNat) &&& ~~~ BitVec.ofInt (IntKind.u64.bits) 12884901888).toNat) : Int) != 0) with
  | false =>
    cases h1 : (decide (((IntKind.i64.wrap (IntKind.u64.wrap (BitVec.ofInt (IntKind.u64.bits) (Int.fdiv a0 (2 ^ (min (0 : Int).toNat IntKind.u64.bits))) &&& BitVec.ofInt (IntKind.u64.bits) 1073741823).toNat)) : Int) ≥ 0)) with
    | false =>
      exact rOk1 [.s, .s, .s, .s, .s, .s, .s, .s, .s, .s, .s, .s, .s, .s, .s, .s, .s, .s, .s, .s, .s, .s, .s, .s, .s, .s, .s, .s, .s, .s, .s, .s, .s, .s, .s, .s, .s, .s, .s, .s, .s, .s, .s, .s, .s, .s, .s, .s, .s, .s, .s, .s, .s, .s, .s, .s, .s, .s, .s, .s, .s, .s, .s, .s, .s, .s, .s, .s, .s, .s, .s, .s, .s, .s, .s, .s, .s, .s, .s, .s, .s, .s, .s, .s, .s, .s, .s, .s, .s, .s, .s, .s, .s, .s, .s, .s, .s, .s, .s, .s, .s, .s, .s, .s, .s, .s, .s, .s, .s, .s, .s, .s, .s, .s, .s, .s, .s, .s, .s, .s, .s, .s, .s, .s, .s, .s, .s, .s, .s, .s, .s, .s, .s, .s, .s, .s, .s, .s, .s, .s, .s, .s, .s, .s, .s, .s, .s, .s, .s, .s, .s, .s, .s, .s, .s, .s, .s, .s, .s, .s, .s, .s, .s, .s, .s, .s, .s, .s, .s, .s, .s, .s, .s, .s, .s, .s, .s, .s, .s, .s, .s, .s, .s, .s, .s, .s, .s, .s, .s, .s, .s, .s, .s, .s, .s, .s, .s, .s, .s, .s, .s, .s, .s, .s, .s, .s, .s, .s, .s, .s, .s, .s, .s, .s, .s, .s, .s, .s, .s, .s, .s, .s, .s, .s, .s, .s, .s, .s, .s, .s, .s, .s, .s, .s, .s, .s, .s, .s, .s, .s, .s, .s, .s, .s, .s, .s, .s, .s, .s, .s, .s, .s, .s, .s, .s, .s, .s, .s, .s, .s, .s, .s, .s, .s, .s, .s, .s, .s, .s, .s, .s, .s, .s, .s, .s, .s, .s, .s, .s, .s, .s, .s, .s, .s, .s, .s, .s, .s, .s, .s, .s, .s, .s, .s, .s, .s, .s, .s, .s, .s, .s, .s, .s, .s, .s, .s, .s, .s, .s, .s, .s, .s, .s, .s, .s, .s, .s, .s, .s, .s, .s, .s, .s, .s, .s, .s, .s, .s, .s, .s, .s, .s, .s, .s, .s, .s, .s, .s, .s, .s, .s, .s, .s, .s, .s, .s, .s, .s, .s, .s, .s, .s, .s, .s, .s, .s, .s, .s, .s, .s, .s, .s, .s, .s, .s, .s, .s, .s, .s, .s, .s, .s, .s, .s, .s, .s, .s, .s, .s, .s, .s, .s, .s, .s, .s, .s, .s, .s, .s, .s, .s, .s, .s, .s, .s, .s, .s, .s, .s, .s, .s, .s, .s, .s, .s, .s, .s, .s, .s, .s, .s, .s, .s, .s, .s, .s, .s, .s, .s, .s, .s, .s, .s, .s, .s, .s, .s, .s, .s, .s, .s, .s, .s, .s, .s, .s, .s, .s, .s, .s, .s, .s, .s, .s, .s, .s, .s, .s, .s, .s, .s, .s, .s, .s, .s, .s, .s, .s, .s, .s, .s, .s, .s, .s, .s, .s, .s, .s, .s, .s, .s, .o, .s] (obsE h0 (obsE h1 (obsE h1 (obsE h1 (obsE h1 obsN))))) rfl rfl (by kernel_rfl)
    | true =>
      cases h2 : (decide (((IntKind.i64.wrap (IntKind.u64.wrap (BitVec.ofInt (IntKind.u64.bits) (Int.fdiv a0 (2 ^ (min (0 : Int).toNat IntKind.u64.bits))) &&& BitVec.ofInt (IntKind.u64.bits) 1073741823).toNat)) : Int) ≤ 1073741823)) with
      | false =>
        exact rOk1 [.s, .s, .s, .s, .s, .s, .s, .s, .s, .s, .s, .s, .s, .s, .s, .s, .s, .s, .s, .s, .s, .s, .s, .s, .s, .s, .s, .s, .s, .s, .s, .s, .s, .s, .s, .s, .s, .s, .s, .s, .s, .s, .s, .s, .s, .s, .s, .s, .s, .s, .s, .s, .s, .s, .s, .s, .s, .s, .s, .s, .s, .s, .s, .s, .s, .s, .s, .s, .s, .s, .s, .s, .s, .s, .s, .s, .s, .s, .s, .s, .s, .s, .s, .s, .s, .s, .s, .s, .s, .s, .s, .s, .s, .s, .s, .s, .s, .s, .s, .s, .s, .s, .s, .s, .s, .s, .s, .s, .s, .s, .s, .s, .s, .s, .s, .s, .s, .s, .s, .s, .s, .s, .s, .s, .s, .s, .s, .s, .s, .s, .s, .s, .s, .s, .s, .s, .s, .s, .s, .s, .s, .s, .s, .s, .s, .s, .s, .s, .s, .s, .s, .s, .s, .s, .s, .s, .s, .s, .s, .s, .s, .s, .s, .s, .s, .s, .s, .s, .s, .s, .s, .s, .s, .s, .s, .s, .s, .s, .s, .s, .s, .s, .s, .s, .s, .s, .s, .s, .s, .s, .s, .s, .s, .s, .s, .s, .s, .s, .s, .s, .s, .s, .s, .s, .s, .s, .s, .s, .s, .s, .s, .s, .s, .s, .s, .s, .s, .s, .s, .s, .s, .s, .s, .s, .s, .s, .s, .s, .s, .s, .s, .s, .s, .s, .s, .s, .s, .s, .s, .s, .s, .s, .s, .s, .s, .s, .s, .s, .s, .s, .s, .s, .s, .s, .s, .s, .s, .s, .s, .s, .s, .s, .s, .s, .s, .s, .s, .s, .s, .s, .s, .s, .s, .s, .s, .s, .s, .s, .s, .s, .s, .s, .s, .s, .s, .s, .s, .s, .s, .s, .s, .s, .s, .s, .s, .s, .s, .s, .s, .s, .s, .s, .s, .s, .s, .s, .s, .s, .s, .s, .s, .s, .s, .s, .s, .s, .s, .s, .s, .s, .s, .s, .s, .s, .s, .s, .s, .s, .s, .s, .s, .s, .s, .s, .s, .s, .s, .s, .s, .s, .s, .s, .s, .s, .s, .s, .s, .s, .s, .s, .s, .s, .s, .s, .s, .s, .s, .s, .s, .s, .s, .s, .s, .s, .s, .s, .s, .s, .s, .s, .s, .s, .s, .s, .s, .s, .s, .s, .s, .s, .s, .s, .s, .s, .s, .s, .s, .s, .s, .s, .s, .s, .s, .s, .s, .s, .s, .s, .s, .s, .s, .s, .s, .s, .s, .s, .s, .s, .s, .s, .s, .s, .s, .s, .s, .s, .s, .s, .s, .s, .s, .s, .s, .s, .s, .s, .s, .s, .s, .s, .s, .s, .s, .s, .s, .s, .s, .s, .s, .s, .s, .s, .s, .s, .s, .s, .s, .s, .s, .s, .s, .s, .s, .s, .s, .s, .s, .s, .s, .s, .s, .s, .s, .s, .s, .s, .s, .s, .s, .s, .s, .o, .s] (obsE h0 (obsE h1 (obsE h1 (obsE h1 (obsE h1 (obsE h2 (obsE h2 (obsE h2 (obsE h2 obsN))))))))) rfl rfl (by kernel_rfl)
      | true =>
        cases h3 : (decide (((IntKind.i64.wrap (IntKind.u64.wrap (BitVec.ofInt (IntKind.u64.bits) (Int.fdiv a0 (2 ^ (min (30 : Int).toNat IntKind.u64.bits))) &&& BitVec.ofInt (IntKind.u64.bits) 3).toNat)) : Int) ≥ 0)) with
        | false =>
          exact rOk1 [.s, .s, .s, .s, .s, .s, .s, .s, .s, .s, .s, .s, .s, .s, .s, .s, .s, .s, .s, .s, .s, .s, .s, .s, .s, .s, .s, .s, .s, .s, .s, .s, .s, .s, .s, .s, .s, .s, .s, .s, .s, .s, .s, .s, .s, .s, .s, .s, .s, .s, .s, .s, .s, .s, .s, .s, .s, .s, .s, .s, .s, .s, .s, .s, .s, .s, .s, .s, .s, .s, .s, .s, .s, .s, .s, .s, .s, .s, .s, .s, .s, .s, .s, .s, .s, .s, .s, .s, .s, .s, .s, .s, .s, .s, .s, .s, .s, .s, .s, .s, .s, .s, .s, .s, .s, .s, .s, .s, .s, .s, .s, .s, .s, .s, .s, .s, .s, .s, .s, .s, .s, .s, .s, .s, .s, .s, .s, .s, .s, .s, .s, .s, .s, .s, .s, .s, .s, .s, .s, .s, .s, .s, .s, .s, .s, .s, .s, .s, .s, .s, .s, .s, .s, .s, .s, .s, .s, .s, .s, .s, .s, .s, .s, .s, .s, .s, .s, .s, .s, .s, .s, .s, .s, .s, .s, .s, .s, .s, .s, .s, .s, .s, .s, .s, .s, .s, .s, .s, .s, .s, .s, .s, .s, .s, .s, .s, .s, .s, .s, .s, .s, .s, .s, .s, .s, .s, .s, .s, .s, .s, .s, .s, .s, .s, .s, .s, .s, .s, .s, .s, .s, .s, .s, .s, .s, .s, .s, .s, .s, .s, .s, .s, .s, .s, .s, .s, .s, .s, .s, .s, .s, .s, .s, .s, .s, .s, .s, .s, .s, .s, .s, .s, .s, .s, .s, .s, .s, .s, .s, .s, .s, .s, .s, .s, .s, .s, .s, .s, .s, .s, .s, .s, .s, .s, .s, .s, .s, .s, .s, .s, .s, .s, .s, .s, .s, .s, .s, .s, .s, .s, .s, .s, .s, .s, .s, .s, .s, .s, .s, .s, .s, .s, .s, .s, .s, .s, .s, .s, .s, .s, .s, .s, .s, .s, .s, .s, .s, .s, .s, .s, .s, .s, .s, .s, .s, .s, .s, .s, .s, .s, .s, .s, .s, .s, .s, .s, .s, .s, .s, .s, .s, .s, .s, .s, .s, .s, .s, .s, .s, .s, .s, .s, .s, .s, .s, .s, .s, .s, .s, .s, .s, .s, .s, .s, .s, .s, .s, .s, .s, .s, .s, .s, .s, .s, .s, .s, .s, .s, .s, .s, .s, .s, .s, .s, .s, .s, .s, .s, .s, .s, .s, .s, .s, .s, .s, .s, .s, .s, .s, .s, .s, .s, .s, .s, .s, .s, .s, .s, .s, .s, .s, .s, .s, .s, .s, .s, .s, .s, .s, .s, .s, .s, .s, .s, .s, .s, .s, .s, .s, .s, .s, .s, .s, .s, .s, .s, .s, .s, .s, .s, .s, .s, .s, .s, .s, .s, .s, .s, .s, .s, .s, .s, .s, .s, .s, .s, .s, .s, .s, .s, .s, .s, .s, .s, .s, .s, .s, .s, .s, .s, .s, .o, .s] (obsE h0 (obsE h1 (obsE h1 (obsE h1 (obsE h1 (obsE h2 (obsE h2 (obsE h2 (obsE h2 (obsE h3 (obsE h3 (obsE h3 (obsE h3 obsN))))))))))))) rfl rfl (by kernel_rfl)
        | true =>
          cases h4 : (decide (((IntKind.i64.wrap (IntKind.u64.wrap (BitVec.ofInt (IntKind.u64.bits) (Int.fdiv a0 (2 ^ (min (30 : Int).toNat IntKind.u64.bits))) &&& BitVec.ofInt (IntKind.u64.bits) 3).toNat)) : Int) ≤ 3)) with
          | false =>
            exact rOk1 [.s, .s, .s, .s, .s, .s, .s, .s, .s, .s, .s, .s, .s, .s, .s, .s, .s, .s, .s, .s, .s, .s, .s, .s, .s, .s, .s, .s, .s, .s, .s, .s, .s, .s, .s, .s, .s, .s, .s, .s, .s, .s, .s, .s, .s, .s, .s, .s, .s, .s, .s, .s, .s, .s, .s, .s, .s, .s, .s, .s, .s, .s, .s, .s, .s, .s, .s, .s, .s, .s, .s, .s, .s, .s, .s, .s, .s, .s, .s, .s, .s, .s, .s, .s, .s, .s, .s, .s, .s, .s, .s, .s, .s, .s, .s, .s, .s, .s, .s, .s, .s, .s, .s, .s, .s, .s, .s, .s, .s, .s, .s, .s, .s, .s, .s, .s, .s, .s, .s, .s, .s, .s, .s, .s, .s, .s, .s, .s, .s, .s, .s, .s, .s, .s, .s, .s, .s, .s, .s, .s, .s, .s, .s, .s, .s, .s, .s, .s, .s, .s, .s, .s, .s, .s, .s, .s, .s, .s, .s, .s, .s, .s, .s, .s, .s, .s, .s, .s, .s, .s, .s, .s, .s, .s, .s, .s, .s, .s, .s, .s, .s, .s, .s, .s, .s, .s, .s, .s, .s, .s, .s, .s, .s, .s, .s, .s, .s, .s, .s, .s, .s, .s, .s, .s, .s, .s, .s, .s, .s, .s, .s, .s, .s, .s, .s, .s, .s, .s, .s, .s, .s, .s, .s, .s, .s, .s, .s, .s, .s, .s, .s, .s, .s, .s, .s, .s, .s, .s, .s, .s, .s, .s, .s, .s, .s, .s, .s, .s, .s, .s, .s, .s, .s, .s, .s, .s, .s, .s, .s, .s, .s, .s, .s, .s, .s, .s, .s, .s, .s, .s, .s, .s, .s, .s, .s, .s, .s, .s, .s, .s, .s, .s, .s, .s, .s, .s, .s, .s, .s, .s, .s, .s, .s, .s, .s, .s, .s, .s, .s, .s, .s, .s, .s, .s, .s, .s, .s, .s, .s, .s, .s, .s, .s, .s, .s, .s, .s, .s, .s, .s, .s, .s, .s, .s, .s, .s, .s, .s, .s, .s, .s, .s, .s, .s, .s, .s, .s, .s, .s, .s, .s, .s, .s, .s, .s, .s, .s, .s, .s, .s, .s, .s, .s, .s, .s, .s, .s, .s, .s, .s, .s, .s, .s, .s, .s, .s, .s, .s, .s, .s, .s, .s, .s, .s, .s, .s, .s, .s, .s, .s, .s, .s, .s, .s, .s, .s, .s, .s, .s, .s, .s, .s, .s, .s, .s, .s, .s, .s, .s, .s, .s, .s, .s, .s, .s, .s, .s, .s, .s, .s, .s, .s, .s, .s, .s, .s, .s, .s, .s, .s, .s, .s, .s, .s, .s, .s, .s, .s, .s, .s, .s, .s, .s, .s, .s, .s, .s, .s, .s, .s, .s, .s, .s, .s, .s, .s, .s, .s, .s, .s, .s, .s, .s, .s, .s, .s, .s, .s, .s, .s, .s, .s, .s, .s, .s, .s, .s, .s, .s, .s, .s, .o, .s] (obsE h0 (obsE h1 (obsE h1 (obsE h1 (obsE h1 (obsE h2 (obsE h2 (obsE h2 (obsE h2 (obsE h3 (obsE h3 (obsE h3 (obsE h3 (obsE h4 (obsE h4 (obsE h4 (obsE h4 obsN))))))))))))))))) rfl rfl (by kernel_rfl)
          | true =>
            cases h5 : (decide (((IntKind.i64.wrap (IntKind.u64.wrap (BitVec.ofInt (IntKind.u64.bits) (Int.fdiv a0 (2 ^ (min (32 : Int).toNat IntKind.u64.bits))) &&& BitVec.ofInt (IntKind.u64.bits) 3).toNat)) : Int) ≥ 0)) with
            | false =>
              exact rOk1 [.s, .s, .s, .s, .s, .s, .s, .s, .s, .s, .s, .s, .s, .s, .s, .s, .s, .s, .s, .s, .s, .s, .s, .s, .s, .s, .s, .s, .s, .s, .s, .s, .s, .s, .s, .s, .s, .s, .s, .s, .s, .s, .s, .s, .s, .s, .s, .s, .s, .s, .s, .s, .s, .s, .s, .s, .s, .s, .s, .s, .s, .s, .s, .s, .s, .s, .s, .s, .s, .s, .s, .s, .s, .s, .s, .s, .s, .s, .s, .s, .s, .s, .s, .s, .s, .s, .s, .s, .s, .s, .s, .s, .s, .s, .s, .s, .s, .s, .s, .s, .s, .s, .s, .s, .s, .s, .s, .s, .s, .s, .s, .s, .s, .s, .s, .s, .s, .s, .s, .s, .s, .s, .s, .s, .s, .s, .s, .s, .s, .s, .s, .s, .s, .s, .s, .s, .s, .s, .s, .s, .s, .s, .s, .s, .s, .s, .s, .s, .s, .s, .s, .s, .s, .s, .s, .s, .s, .s, .s, .s, .s, .s, .s, .s, .s, .s, .s, .s, .s, .s, .s, .s, .s, .s, .s, .s, .s, .s, .s, .s, .s, .s, .s, .s, .s, .s, .s, .s, .s, .s, .s, .s, .s, .s, .s, .s, .s, .s, .s, .s, .s, .s, .s, .s, .s, .s, .s, .s, .s, .s, .s, .s, .s, .s, .s, .s, .s, .s, .s, .s, .s, .s, .s, .s, .s, .s, .s, .s, .s, .s, .s, .s, .s, .s, .s, .s, .s, .s, .s, .s, .s, .s, .s, .s, .s, .s, .s, .s, .s, .s, .s, .s, .s, .s, .s, .s, .s, .s, .s, .s, .s, .s, .s, .s, .s, .s, .s, .s, .s, .s, .s, .s, .s, .s, .s, .s, .s, .s, .s, .s, .s, .s, .s, .s, .s, .s, .s, .s, .s, .s, .s, .s, .s, .s, .s, .s, .s, .s, .s, .s, .s, .s, .s, .s, .s, .s, .s, .s, .s, .s, .s, .s, .s, .s, .s, .s, .s, .s, .s, .s, .s, .s, .s, .s, .s, .s, .s, .s, .s, .s, .s, .s, .s, .s, .s, .s, .s, .s, .s, .s, .s, .s, .s, .s, .s, .s, .s, .s, .s, .s, .s, .s, .s, .s, .s, .s, .s, .s, .s, .s, .s, .s, .s, .s, .s, .s, .s, .s, .s, .s, .s, .s, .s, .s, .s, .s, .s, .s, .s, .s, .s, .s, .s, .s, .s, .s, .s, .s, .s, .s, .s, .s, .s, .s, .s, .s, .s, .s, .s, .s, .s, .s, .s, .s, .s, .s, .s, .s, .s, .s, .s, .s, .s, .s, .s, .s, .s, .s, .s, .s, .s, .s, .s, .s, .s, .s, .s, .s, .s, .s, .s, .s, .s, .s, .s, .s, .s, .s, .s, .s, .s, .s, .s, .s, .s, .s, .s, .s, .s, .s, .s, .s, .s, .s, .s, .s, .s, .s, .s, .s, .s, .s, .s, .s, .s, .s, .s, .s, .s, .s, .s, .o, .s] (obsE h0 (obsE h1 (obsE h1 (obsE h1 (obsE h1 (obsE h2 (obsE h2 (obsE h2 (obsE h2 (obsE h3 (obsE h3 (obsE h3 (obsE h3 (obsE h4 (obsE h4 (obsE h4 (obsE h4 (obsE h5 (obsE h5 (obsE h5 (obsE h5 obsN))))))))))))))))))))) rfl rfl (by kernel_rfl)
            | true =>
              cases h6 : (!(decide (((IntKind.i64.wrap (IntKind.u64.wrap (BitVec.ofInt (IntKind.u64.bits) (Int.fdiv a0 (2 ^ (min (32 : Int).toNat IntKind.u64.bits))) &&& BitVec.ofInt (IntKind.u64.bits) 3).toNat)) : Int) ≤ 2))) with
              | false =>
                exact rOk1 [.s, .s, .s, .s, .s, .s, .s, .s, .s, .s, .s, .s, .s, .s, .s, .s, .s, .s, .s, .s, .s, .s, .s, .s, .s, .s, .s, .s, .s, .s, .s, .s, .s, .s, .s, .s, .s, .s, .s, .s, .s, .s, .s, .s, .s, .s, .s, .s, .s, .s, .s, .s, .s, .s, .s, .s, .s, .s, .s, .s, .s, .s, .s, .s, .s, .s, .s, .s, .s, .s, .s, .s, .s, .s, .s, .s, .s, .s, .s, .s, .s, .s, .s, .s, .s, .s, .s, .s, .s, .s, .s, .s, .s, .s, .s, .s, .s, .s, .s, .s, .s, .s, .s, .s, .s, .s, .s, .s, .s, .s, .s, .s, .s, .s, .s, .s, .s, .s, .s, .s, .s, .s, .s, .s, .s, .s, .s, .s, .s, .s, .s, .s, .s, .s, .s, .s, .s, .s, .s, .s, .s, .s, .s, .s, .s, .s, .s, .s, .s, .s, .s, .s, .s, .s, .s, .s, .s, .s, .s, .s, .s, .s, .s, .s, .s, .s, .s, .s, .s, .s, .s, .s, .s, .s, .s, .s, .s, .s, .s, .s, .s, .s, .s, .s, .s, .s, .s, .s, .s, .s, .s, .s, .s, .s, .s, .s, .s, .s, .s, .s, .s, .s, .s, .s, .s, .s, .s, .s, .s, .s, .s, .s, .s, .s, .s, .s, .s, .s, .s, .s, .s, .s, .s, .s, .s, .s, .s, .s, .s, .s, .s, .s, .s, .s, .s, .s, .s, .s, .s, .s, .s, .s, .s, .s, .s, .s, .s, .s, .s, .s, .s, .s, .s, .s, .s, .s, .s, .s, .s, .s, .s, .s, .s, .s, .s, .s, .s, .s, .s, .s, .s, .s, .s, .s, .s, .s, .s, .s, .s, .s, .s, .s, .s, .s, .s, .s, .s, .s, .s, .s, .s, .s, .s, .s, .s, .s, .s, .s, .s, .s, .s, .s, .s, .s, .s, .s, .s, .s, .s, .s, .s, .s, .s, .s, .s, .s, .s, .s, .s, .s, .s, .s, .s, .s, .s, .s, .s, .s, .s, .s, .s, .s, .s, .s, .s, .s, .s, .s, .s, .s, .s, .s, .s, .s, .s, .s, .s, .s, .s, .s, .s, .s, .s, .s, .s, .s, .s, .s, .s, .s, .s, .s, .s, .s, .s, .s, .s, .s, .s, .s, .s, .s, .s, .s, .s, .s, .s, .s, .s, .s, .s, .s, .s, .s, .s, .s, .s, .s, .s, .s, .s, .s, .s, .s, .s, .s, .s, .s, .s, .s, .s, .s, .s, .s, .s, .s, .s, .s, .s, .s, .s, .s, .s, .s, .s, .s, .s, .s, .s, .s, .s, .s, .s, .s, .s, .s, .s, .s, .s, .s, .s, .s, .s, .s, .s, .s, .s, .s, .s, .s, .s, .s, .s, .s, .s, .s, .s, .s, .s, .s, .s, .s, .s, .s, .s, .s, .s, .s, .s, .s, .s, .s, .s, .s, .s, .s, .s, .s, .s, .s, .s, .o, .s] (obsE h0 (obsE h1 (obsE h1 (obsE h1 (obsE h1 (obsE h2 (obsE h2 (obsE h2 (obsE h2 (obsE h3 (obsE h3 (obsE h3 (obsE h3 (obsE h4 (obsE h4 (obsE h4 (obsE h4 (obsE h5 (obsE h5 (obsE h5 (obsE h5 (obsE h6 obsN)))))))))))))))))))))) rfl rfl (by kernel_rfl)
              | true =>
                exact rOk1 [.s, .s, .s, .s, .s, .s, .s, .s, .s, .s, .s, .s, .s, .s, .s, .s, .s, .s, .s, .s, .s, .s, .s, .s, .s, .s, .s, .s, .s, .s, .s, .s, .s, .s, .s, .s, .s, .s, .s, .s, .s, .s, .s, .s, .s, .s, .s, .s, .s, .s, .s, .s, .s, .s, .s, .s, .s, .s, .s, .s, .s, .s, .s, .s, .s, .s, .s, .s, .s, .s, .s, .s, .s, .s, .s, .s, .s, .s, .s, .s, .s, .s, .s, .s, .s, .s, .s, .s, .s, .s, .s, .s, .s, .s, .s, .s, .s, .s, .s, .s, .s, .s, .s, .s, .s, .s, .s, .s, .s, .s, .s, .s, .s, .s, .s, .s, .s, .s, .s, .s, .s, .s, .s, .s, .s, .s, .s, .s, .s, .s, .s, .s, .s, .s, .s, .s, .s, .s, .s, .s, .s, .s, .s, .s, .s, .s, .s, .s, .s, .s, .s, .s, .s, .s, .s, .s, .s, .s, .s, .s, .s, .s, .s, .s, .s, .s, .s, .s, .s, .s, .s, .s, .s, .s, .s, .s, .s, .s, .s, .s, .s, .s, .s, .s, .s, .s, .s, .s, .s, .s, .s, .s, .s, .s, .s, .s, .s, .s, .s, .s, .s, .s, .s, .s, .s, .s, .s, .s, .s, .s, .s, .s, .s, .s, .s, .s, .s, .s, .s, .s, .s, .s, .s, .s, .s, .s, .s, .s, .s, .s, .s, .s, .s, .s, .s, .s, .s, .s, .s, .s, .s, .s, .s, .s, .s, .s, .s, .s, .s, .s, .s, .s, .s, .s, .s, .s, .s, .s, .s, .s, .s, .s, .s, .s, .s, .s, .s, .s, .s, .s, .s, .s, .s, .s, .s, .s, .s, .s, .s, .s, .s, .s, .s, .s, .s, .s, .s, .s, .s, .s, .s, .s, .s, .s, .s, .s, .s, .s, .s, .s, .s, .s, .s, .s, .s, .s, .s, .s, .s, .s, .s, .s, .s, .s, .s, .s, .s, .s, .s, .s, .s, .s, .s, .s, .s, .s, .s, .s, .s, .s, .s, .s, .s, .s, .s, .s, .s, .s, .s, .s, .s, .s, .s, .s, .s, .s, .s, .s, .s, .s, .s, .s, .s, .s, .s, .s, .s, .s, .s, .s, .s, .s, .s, .s, .s, .s, .s, .s, .s, .s, .s, .s, .s, .s, .s, .s, .s, .s, .s, .s, .s, .s, .s, .s, .s, .s, .s, .s, .s, .s, .s, .s, .s, .s, .s, .s, .s, .s, .s, .s, .s, .s, .s, .s, .s, .s, .s, .s, .s, .s, .s, .s, .s, .s, .s, .s, .s, .s, .s, .s, .s, .s, .s, .s, .s, .s, .s, .s, .s, .s, .s, .s, .s, .s, .s, .s, .s, .s, .s, .s, .s, .s, .s, .s, .s, .s, .s, .s, .s, .s, .s, .s, .s, .s, .s, .s, .s, .s, .s, .s, .s, .s, .s, .s, .s, .s, .s, .s, .s, .s, .s, .o, .s] (obsE h0 (obsE h1 (obsE h1 (obsE h1 (obsE h1 (obsE h2 (obsE h2 (obsE h2 (obsE h2 (obsE h3 (obsE h3 (obsE h3 (obsE h3 (obsE h4 (obsE h4 (obsE h4 (obsE h4 (obsE h5 (obsE h5 (obsE h5 (obsE h5 (obsE h6 obsN)))))))))))))))))))))) rfl rfl (by kernel_rfl)
  | true =>
    exact rOk1 [.s, .s, .s, .s, .s, .s, .s, .s, .s, .s, .s, .s, .s, .s, .s, .s, .s, .s, .s, .s, .s, .s, .s, .s, .s, .s, .s, .s, .s, .s, .s, .s, .s, .s, .s, .s, .s, .s, .s, .s, .s, .s, .s, .s, .s, .s, .s, .s, .s, .s, .s, .s, .s, .s, .s, .s, .s, .s, .s, .s, .s, .s, .s, .s, .s, .s, .s, .s, .s, .s, .s, .s, .s, .s, .s, .s, .s, .s, .s, .s, .s, .s, .s, .s, .s, .s, .s, .s, .s, .s, .s, .s, .s, .s, .s, .s, .s, .s, .s, .s, .s, .s, .s, .s, .s, .s, .s, .s, .s, .s, .s, .s, .s, .s, .s, .s, .s, .s, .s, .s, .s, .s, .s, .s, .s, .s, .s, .s, .s, .s, .s, .s, .s, .s, .s, .s, .s, .s, .s, .s, .s, .s, .s, .s, .s, .s, .s, .s, .s, .s, .s, .s, .s, .s, .s, .s, .s, .s, .s, .s, .s, .s, .s, .s, .s, .s, .s, .s, .s, .s, .s, .s, .s, .s, .s, .s, .s, .s, .s, .s, .s, .s, .s, .s, .s, .s, .s, .s, .s, .s, .s, .s, .s, .s, .s, .s, .s, .s, .s, .s, .s, .s, .s, .s, .s, .s, .s, .s, .s, .s, .s, .s, .s, .s, .s, .s, .s, .s, .s, .s, .s, .s, .s, .s, .s, .s, .s, .s, .s, .s, .s, .s, .s, .s, .s, .s, .s, .s, .s, .s, .s, .s, .s, .s, .s, .s, .s, .s, .s, .s, .s, .s, .s, .s, .s, .s, .s, .s, .s, .s, .s, .s, .s, .s, .s, .s, .s, .s, .s, .s, .s, .s, .s, .s, .s, .s, .s, .s, .s, .s, .s, .s, .s, .s, .s, .s, .s, .s, .s, .s, .s, .s, .s, .s, .s, .s, .s, .s, .s, .s, .s, .s, .s, .s, .s, .s, .s, .s, .s, .s, .s, .s, .s, .s, .s, .s, .s, .s, .s, .s, .s, .s, .s, .s, .s, .s, .s, .s, .s, .s, .s, .s, .s, .s, .s, .s, .s, .s, .s, .s, .s, .s, .s, .s, .s, .s, .s, .s, .s, .s, .s, .s, .s, .s, .s, .s, .s, .s, .s, .s, .s, .s, .s, .s, .s, .s, .s, .s, .s, .s, .s, .s, .s, .s, .s, .s, .s, .s, .s, .s, .s, .s, .s, .s, .s, .s, .s, .s, .s, .s, .s, .s, .s, .s, .s, .s, .s, .s, .s, .s, .s, .s, .s, .s, .s, .s, .s, .s, .s, .s, .s, .s, .s, .s, .s, .s, .s, .s, .s, .s, .s, .s, .s, .s, .s, .s, .s, .s, .s, .s, .s, .s, .s, .s, .s, .s, .s, .s, .s, .s, .s, .s, .s, .s, .s, .s, .s, .s, .s, .s, .s, .s, .s, .s, .s, .s, .s, .s, .s, .s, .s, .s, .s, .s, .s, .s, .s, .s, .s, .s, .s] (obsE h0 obsN) rfl rfl (by kernel_rfl)
def e_stOfG : List DV → Option DV
  | [.int .u64 y0] => some (.tup [(.agg ((stOfG y0).1).cs), (.bool (stOfG y0).2)])
  | _ => none
theorem e_stOfG_ok : ∀ args d, e_stOfG args = some d → Ck n_state_Of args d := by
  intro args d h
  unfold e_stOfG at h
  split at h
  · rename_i y0; cases h; exact stOfG_ok y0
  · cases h
def stWordG (a0 : Sta) : Int := (cond (decide ((a0.qGen : Int) ≥ 0)) (cond (decide ((a0.qGen : Int) ≤ 1073741823)) (cond (decide ((a0.qMode : Int) ≥ 0)) (cond (decide ((a0.qMode : Int) ≤ 3)) (cond (decide ((a0.qKind : Int) ≥ 0)) (cond (!(decide ((a0.qKind : Int) ≤ 2))) 0 (cond (decide (((IntKind.u64.wrap a0.qGen) : Int) > 1073741823)) 0 (cond (decide (((IntKind.u64.wrap a0.qMode) : Int) > 3)) 0 (cond (decide (((IntKind.u64.wrap a0.qKind) : Int) > 3)) 0 (IntKind.u64.wrap (BitVec.ofInt (IntKind.u64.bits) (IntKind.u64.wrap (BitVec.ofInt (IntKind.u64.bits) (IntKind.u64.wrap (BitVec.ofInt (IntKind.u64.bits) (IntKind.u64.wrap (BitVec.ofInt (IntKind.u64.bits) (IntKind.u64.wrap (BitVec.ofInt (IntKind.u64.bits) 0 ||| BitVec.ofInt (IntKind.u64.bits) (IntKind.u64.wrap ((IntKind.u64.wrap (BitVec.ofInt (IntKind.u64.bits) (IntKind.u64.wrap a0.qGen) &&& BitVec.ofInt (IntKind.u64.bits) 1073741823).toNat) * 2 ^ (min (0 : Int).toNat IntKind.u64.bits)))).toNat) &&& ~~~ BitVec.ofInt (IntKind.u64.bits) 3221225472).toNat) ||| BitVec.ofInt (IntKind.u64.bits) (IntKind.u64.wrap ((IntKind.u64.wrap (BitVec.ofInt (IntKind.u64.bits) (IntKind.u64.wrap a0.qMode) &&& BitVec.ofInt (IntKind.u64.bits) 3).toNat) * 2 ^ (min (30 : Int).toNat IntKind.u64.bits)))).toNat) &&& ~~~ BitVec.ofInt (IntKind.u64.bits) 12884901888).toNat) ||| BitVec.ofInt (IntKind.u64.bits) (IntKind.u64.wrap ((IntKind.u64.wrap (BitVec.ofInt (IntKind.u64.bits) (IntKind.u64.wrap a0.qKind) &&& BitVec.ofInt (IntKind.u64.bits) 3).toNat) * 2 ^ (min (32 : Int).toNat IntKind.u64.bits)))).toNat))))) 0) 0) 0) 0) 0)
theorem stWordG_ok (a0 : Sta) : Ck n_state_State_Word [(.agg a0.cs)] (U (stWordG a0)) := by
  unfold stWordG
  cases h0 : (decide ((a0.qGen : Int) ≥ 0)) with
  | false =>
    exact rOk1 [] (obsE h0 (obsE h0 (obsE h0 (obsE h0 obsN)))) rfl rfl (by kernel_rfl)
  | true =>
    cases h1 : (decide ((a0.qGen : Int) ≤ 1073741823)) with
    | false =>
      exact rOk1 [] (obsE h0 (obsE h0 (obsE h0 (obsE h0 (obsE h1 (obsE h1 (obsE h1 (obsE h1 obsN)))))))) rfl rfl (by kernel_rfl)
    | true =>
      cases h2 : (decide ((a0.qMode : Int) ≥ 0)) with
      | false =>
        exact rOk1 [] (obsE h0 (obsE h0 (obsE h0 (obsE h0 (obsE h1 (obsE h1 (obsE h1 (obsE h1 (obsE h2 (obsE h2 (obsE h2 (obsE h2 obsN)))))))))))) rfl rfl (by kernel_rfl)
      | true =>
        cases h3 : (decide ((a0.qMode : Int) ≤ 3)) with
        | false =>
          exact rOk1 [] (obsE h0 (obsE h0 (obsE h0 (obsE h0 (obsE h1 (obsE h1 (obsE h1 (obsE h1 (obsE h2 (obsE h2 (obsE h2 (obsE h2 (obsE h3 (obsE h3 (obsE h3 (obsE h3 obsN)))))))))))))))) rfl rfl (by kernel_rfl)
        | true =>
          cases h4 : (decide ((a0.qKind : Int) ≥ 0)) with
          | false =>
            exact rOk1 [] (obsE h0 (obsE h0 (obsE h0 (obsE h0 (obsE h1 (obsE h1 (obsE h1 (obsE h1 (obsE h2 (obsE h2 (obsE h2 (obsE h2 (obsE h3 (obsE h3 (obsE h3 (obsE h3 (obsE h4 (obsE h4 (obsE h4 (obsE h4 obsN)))))))))))))))))))) rfl rfl (by kernel_rfl)
          | true =>
            cases h5 : (!(decide ((a0.qKind : Int) ≤ 2))) with
            | false =>
              cases h6 : (decide (((IntKind.u64.wrap a0.qGen) : Int) > 1073741823)) with
              | false =>
                cases h7 : (decide (((IntKind.u64.wrap a0.qMode) : Int) > 3)) with
                | false =>
                  cases h8 : (decide (((IntKind.u64.wrap a0.qKind) : Int) > 3)) with
                  | false =>
                    exact rOk1 [.o, .o, .o, .o, .o, .o, .o, .o, .o, .o, .o, .o, .o, .o, .o, .o, .o, .o, .o, .o, .o, .s, .s, .s, .s, .s, .s, .s, .s, .s, .s, .s, .s, .s, .s, .s, .s, .s, .s, .s, .s, .s, .s, .s, .s, .s, .s, .s, .s, .s, .s, .s, .s, .s, .s, .s, .s, .s, .s, .s, .s, .s, .s, .s, .s, .s, .s, .s, .s, .s, .s, .s, .s, .s, .s, .s, .s, .s, .s, .s, .s, .s, .s, .s, .s, .s, .s, .s, .s, .s, .s, .s, .s, .s, .s, .s, .s, .s, .s, .s, .s, .s, .s, .s, .s, .s, .s, .s, .s, .s, .s, .s, .s, .s, .s, .s, .s, .s, .s, .s, .s, .s, .s, .s, .s, .s, .s, .s, .s, .s, .s, .s, .s, .s, .s, .s, .s, .s, .s, .s, .s, .s, .s, .s, .s, .s, .s, .s, .s, .s, .s, .s, .s, .s, .s, .s, .s, .s, .s, .s, .s, .s, .s, .s, .s, .s, .s, .s, .s, .s, .s, .s, .s, .s, .s, .s, .s, .s, .s, .s, .s, .s, .s, .s, .s, .s, .s, .s, .s, .s, .s, .s, .s, .s, .s, .s, .s, .s, .s, .s, .s, .s, .s, .s, .s, .s, .s, .s, .s, .s, .s, .s, .s, .s, .s, .s, .s, .s, .s, .s, .s, .s, .s, .s, .s, .s, .s, .s, .s, .s, .s, .s, .s, .s, .s, .s, .s, .s, .s, .s, .s, .s, .s, .s, .s, .s, .s, .s, .s, .s, .s, .s, .s, .s, .s, .s, .s, .s, .s, .s, .s, .s, .s, .s, .s, .s, .s, .s, .s, .s, .s, .s, .s, .s, .s, .s, .s, .s, .s, .s, .s, .s, .s, .s, .s, .s, .s, .s, .s, .s, .s, .s, .s, .s, .s, .s, .s, .s, .s, .s, .s, .s, .s, .s, .s, .s, .s, .s, .s, .s, .s, .s, .s, .s, .o, .s, .s, .s, .s, .s, .s, .s, .s, .s, .s, .s, .s, .s, .s, .s, .s, .s, .s, .s, .s, .s, .s, .s, .s, .s, .s, .s, .s, .s, .s, .s, .s, .s, .s, .s, .s, .s, .s, .s, .s, .s, .s, .s, .s, .s, .s, .s, .s, .s, .s, .s, .s, .s, .s, .s, .s, .s, .s, .s, .s, .s, .s, .s, .s, .s, .s, .s, .s, .s, .s, .s, .s, .s, .s, .s, .s, .s, .s, .s, .s, .s, .s, .s, .s, .o, .s, .s, .s, .s, .s, .s, .s, .s, .s, .s, .s, .s, .s, .s, .s, .s, .s, .s, .s, .s, .s, .s, .s, .s, .s, .s, .s, .s, .s, .s, .s, .s, .s, .s, .s, .s, .s, .s, .s, .s, .s, .s, .s, .s, .s, .s, .s, .s, .s, .s, .s, .s, .s, .s, .s, .s, .s, .s, .s, .s, .s, .s, .s, .s, .s, .s, .s, .s, .s, .s, .s, .s, .s, .s, .s, .s, .s, .s, .s, .s, .s, .s, .s, .s] (obsE h0 (obsE h0 (obsE h0 (obsE h0 (obsE h1 (obsE h1 (obsE h1 (obsE h1 (obsE h2 (obsE h2 (obsE h2 (obsE h2 (obsE h3 (obsE h3 (obsE h3 (obsE h3 (obsE h4 (obsE h4 (obsE h4 (obsE h4 (obsE h5 (obsE h6 (obsE h7 (obsE h8 obsN)))))))))))))))))))))))) rfl rfl (by kernel_rfl)
                  | true =>
                    exact rOk1 [.o, .o, .o, .o, .o, .o, .o, .o, .o, .o, .o, .o, .o, .o, .o, .o, .o, .o, .o, .o, .o, .s, .s, .s, .s, .s, .s, .s, .s, .s, .s, .s, .s, .s, .s, .s, .s, .s, .s, .s, .s, .s, .s, .s, .s, .s, .s, .s, .s, .s, .s, .s, .s, .s, .s, .s, .s, .s, .s, .s, .s, .s, .s, .s, .s, .s, .s, .s, .s, .s, .s, .s, .s, .s, .s, .s, .s, .s, .s, .s, .s, .s, .s, .s, .s, .s, .s, .s, .s, .s, .s, .s, .s, .s, .s, .s, .s, .s, .s, .s, .s, .s, .s, .s, .s, .s, .s, .s, .s, .s, .s, .s, .s, .s, .s, .s, .s, .s, .s, .s, .s, .s, .s, .s, .s, .s, .s, .s, .s, .s, .s, .s, .s, .s, .s, .s, .s, .s, .s, .s, .s, .s, .s, .s, .s, .s, .s, .s, .s, .s, .s, .s, .s, .s, .s, .s, .s, .s, .s, .s, .s, .s, .s, .s, .s, .s, .s, .s, .s, .s, .s, .s, .s, .s, .s, .s, .s, .s, .s, .s, .s, .s, .s, .s, .s, .s, .s, .s, .s, .s, .s, .s, .s, .s, .s, .s, .s, .s, .s, .s, .s, .s, .s, .s, .s, .s, .s, .s, .s, .s, .s, .s, .s, .s, .s, .s, .s, .s, .s, .s, .s, .s, .s, .s, .s, .s, .s, .s, .s, .s, .s, .s, .s, .s, .s, .s, .s, .s, .s, .s, .s, .s, .s, .s, .s, .s, .s, .s, .s, .s, .s, .s, .s, .s, .s, .s, .s, .s, .s, .s, .s, .s, .s, .s, .s, .s, .s, .s, .s, .s, .s, .s, .s, .s, .s, .s, .s, .s, .s, .s, .s, .s, .s, .s, .s, .s, .s, .s, .s, .s, .s, .s, .s, .s, .s, .s, .s, .s, .s, .s, .s, .s, .s, .s, .s, .s, .s, .s, .s, .s, .s, .s, .s, .s, .o, .s, .s, .s, .s, .s, .s, .s, .s, .s, .s, .s, .s, .s, .s, .s, .s, .s, .s, .s, .s, .s, .s, .s, .s, .s, .s, .s, .s, .s, .s, .s, .s, .s, .s, .s, .s, .s, .s, .s, .s, .s, .s, .s, .s, .s, .s, .s, .s, .s, .s, .s, .s, .s, .s, .s, .s, .s, .s, .s, .s, .s, .s, .s, .s, .s, .s, .s, .s, .s, .s, .s, .s, .s, .s, .s, .s, .s, .s, .s, .s, .s, .s, .s, .s, .o, .s, .s, .s, .s, .s, .s, .s, .s, .s, .s, .s, .s, .s, .s, .s, .s, .s, .s, .s, .s, .s, .s, .s, .s, .s, .s, .s, .s, .s, .s, .s, .s, .s, .s, .s, .s, .s, .s, .s, .s, .s, .s, .s, .s, .s, .s, .s, .s, .s, .s, .s, .s, .s, .s, .s, .s, .s, .s, .s, .s, .s, .s, .s, .s, .s, .s, .s, .s, .s, .s, .s, .s, .s, .s, .s, .s, .s, .s, .s, .s, .s, .s, .s, .s] (obsE h0 (obsE h0 (obsE h0 (obsE h0 (obsE h1 (obsE h1 (obsE h1 (obsE h1 (obsE h2 (obsE h2 (obsE h2 (obsE h2 (obsE h3 (obsE h3 (obsE h3 (obsE h3 (obsE h4 (obsE h4 (obsE h4 (obsE h4 (obsE h5 (obsE h6 (obsE h7 (obsE h8 obsN)))))))))))))))))))))))) rfl rfl (by kernel_rfl)
                | true =>
                  exact rOk1 [.o, .o, .o, .o, .o, .o, .o, .o, .o, .o, .o, .o, .o, .o, .o, .o, .o, .o, .o, .o, .o, .s, .s, .s, .s, .s, .s, .s, .s, .s, .s, .s, .s, .s, .s, .s, .s, .s, .s, .s, .s, .s, .s, .s, .s, .s, .s, .s, .s, .s, .s, .s, .s, .s, .s, .s, .s, .s, .s, .s, .s, .s, .s, .s, .s, .s, .s, .s, .s, .s, .s, .s, .s, .s, .s, .s, .s, .s, .s, .s, .s, .s, .s, .s, .s, .s, .s, .s, .s, .s, .s, .s, .s, .s, .s, .s, .s, .s, .s, .s, .s, .s, .s, .s, .s, .s, .s, .s, .s, .s, .s, .s, .s, .s, .s, .s, .s, .s, .s, .s, .s, .s, .s, .s, .s, .s, .s, .s, .s, .s, .s, .s, .s, .s, .s, .s, .s, .s, .s, .s, .s, .s, .s, .s, .s, .s, .s, .s, .s, .s, .s, .s, .s, .s, .s, .s, .s, .s, .s, .s, .s, .s, .s, .s, .s, .s, .s, .s, .s, .s, .s, .s, .s, .s, .s, .s, .s, .s, .s, .s, .s, .s, .s, .s, .s, .s, .s, .s, .s, .s, .s, .s, .s, .s, .s, .s, .s, .s, .s, .s, .s, .s, .s, .s, .s, .s, .s, .s, .s, .s, .s, .s, .s, .s, .s, .s, .s, .s, .s, .s, .s, .s, .s, .s, .s, .s, .s, .s, .s, .s, .s, .s, .s, .s, .s, .s, .s, .s, .s, .s, .s, .s, .s, .s, .s, .s, .s, .s, .s, .s, .s, .s, .s, .s, .s, .s, .s, .s, .s, .s, .s, .s, .s, .s, .s, .s, .s, .s, .s, .s, .s, .s, .s, .s, .s, .s, .s, .s, .s, .s, .s, .s, .s, .s, .s, .s, .s, .s, .s, .s, .s, .s, .s, .s, .s, .s, .s, .s, .s, .s, .s, .s, .s, .s, .s, .s, .s, .s, .s, .s, .s, .s, .s, .s, .o, .s, .s, .s, .s, .s, .s, .s, .s, .s, .s, .s, .s, .s, .s, .s, .s, .s, .s, .s, .s, .s, .s, .s, .s, .s, .s, .s, .s, .s, .s, .s, .s, .s, .s, .s, .s, .s, .s, .s, .s, .s, .s, .s, .s, .s, .s, .s, .s, .s, .s, .s, .s, .s, .s, .s, .s, .s, .s, .s, .s, .s, .s, .s, .s, .s, .s, .s, .s, .s, .s, .s, .s, .s, .s, .s, .s, .s, .s, .s, .s, .s, .s, .s, .s] (obsE h0 (obsE h0 (obsE h0 (obsE h0 (obsE h1 (obsE h1 (obsE h1 (obsE h1 (obsE h2 (obsE h2 (obsE h2 (obsE h2 (obsE h3 (obsE h3 (obsE h3 (obsE h3 (obsE h4 (obsE h4 (obsE h4 (obsE h4 (obsE h5 (obsE h6 (obsE h7 obsN))))))))))))))))))))))) rfl rfl (by kernel_rfl)
              | true =>
                exact rOk1 [.o, .o, .o, .o, .o, .o, .o, .o, .o, .o, .o, .o, .o, .o, .o, .o, .o, .o, .o, .o, .o, .s, .s, .s, .s, .s, .s, .s, .s, .s, .s, .s, .s, .s, .s, .s, .s, .s, .s, .s, .s, .s, .s, .s, .s, .s, .s, .s, .s, .s, .s, .s, .s, .s, .s, .s, .s, .s, .s, .s, .s, .s, .s, .s, .s, .s, .s, .s, .s, .s, .s, .s, .s, .s, .s, .s, .s, .s, .s, .s, .s, .s, .s, .s, .s, .s, .s, .s, .s, .s, .s, .s, .s, .s, .s, .s, .s, .s, .s, .s, .s, .s, .s, .s, .s, .s, .s, .s, .s, .s, .s, .s, .s, .s, .s, .s, .s, .s, .s, .s, .s, .s, .s, .s, .s, .s, .s, .s, .s, .s, .s, .s, .s, .s, .s, .s, .s, .s, .s, .s, .s, .s, .s, .s, .s, .s, .s, .s, .s, .s, .s, .s, .s, .s, .s, .s, .s, .s, .s, .s, .s, .s, .s, .s, .s, .s, .s, .s, .s, .s, .s, .s, .s, .s, .s, .s, .s, .s, .s, .s, .s, .s, .s, .s, .s, .s, .s, .s, .s, .s, .s, .s, .s, .s, .s, .s, .s, .s, .s, .s, .s, .s, .s, .s, .s, .s, .s, .s, .s, .s, .s, .s, .s, .s, .s, .s, .s, .s, .s, .s, .s, .s, .s, .s, .s, .s, .s, .s, .s, .s, .s, .s, .s, .s, .s, .s, .s, .s, .s, .s, .s, .s, .s, .s, .s, .s, .s, .s, .s, .s, .s, .s, .s, .s, .s, .s, .s, .s, .s, .s, .s, .s, .s, .s, .s, .s, .s, .s, .s, .s, .s, .s, .s, .s, .s, .s, .s, .s, .s, .s, .s, .s, .s, .s, .s, .s, .s, .s, .s, .s, .s, .s, .s, .s, .s, .s, .s, .s, .s, .s, .s, .s, .s, .s, .s, .s, .s, .s, .s, .s, .s, .s, .s, .s] (obsE h0 (obsE h0 (obsE h0 (obsE h0 (obsE h1 (obsE h1 (obsE h1 (obsE h1 (obsE h2 (obsE h2 (obsE h2 (obsE h2 (obsE h3 (obsE h3 (obsE h3 (obsE h3 (obsE h4 (obsE h4 (obsE h4 (obsE h4 (obsE h5 (obsE h6 obsN)))))))))))))))))))))) rfl rfl (by kernel_rfl)
            | true =>
              exact rOk1 [] (obsE h0 (obsE h0 (obsE h0 (obsE h0 (obsE h1 (obsE h1 (obsE h1 (obsE h1 (obsE h2 (obsE h2 (obsE h2 (obsE h2 (obsE h3 (obsE h3 (obsE h3 (obsE h3 (obsE h4 (obsE h4 (obsE h4 (obsE h4 (obsE h5 obsN))))))))))))))))))))) rfl rfl (by kernel_rfl)
def e_stWordG : List DV → Option DV
  | [.agg [.int .i64 y0, .int .i64 y1, .int .i64 y2]] => some (U (stWordG ⟨y0, y1, y2⟩))
  | _ => none
theorem e_stWordG_ok : ∀ args d, e_stWordG args = some d → Ck n_state_State_Word args d := by
  intro args d h
  unfold e_stWordG at h
  split at h
  · rename_i y0 y1 y2; cases h; exact stWordG_ok ⟨y0, y1, y2⟩
  · cases h
def freedG (a0 : Sta) (a1 : Int) : Sta := (cond (decide ((a0.qGen : Int) ≥ a1)) (⟨a0.qGen, 3, 0⟩ : Sta) (⟨(IntKind.i64.wrap (a0.qGen + 1)), 0, 0⟩ : Sta))
theorem freedG_ok (a0 : Sta) (a1 : Int) : Ck n_state_State_Freed [(.agg a0.cs), (I a1)] (.agg (freedG a0 a1).cs) := by
  unfold freedG
  cases h0 : (decide ((a0.qGen : Int) ≥ a1)) with
  | false =>
    exact rOk1 [] (obsE h0 obsN) rfl rfl (by kernel_rfl)
  | true =>
    exact rOk1 [] (obsE h0 obsN) rfl rfl (by kernel_rfl)
def e_freedG : List DV → Option DV
  | [.agg [.int .i64 y0, .int .i64 y1, .int .i64 y2], .int .i64 y3] => some (.agg (freedG ⟨y0, y1, y2⟩ y3).cs)
  | _ => none
theorem e_freedG_ok : ∀ args d, e_freedG args = some d → Ck n_state_State_Freed args d := by
  intro args d h
  unfold e_freedG at h
  split at h
  · rename_i y0 y1 y2 y3; cases h; exact freedG_ok ⟨y0, y1, y2⟩ y3
  · cases h
def haWordG (a0 : Ha) : Int := (cond (decide ((a0.qIndex : Int) ≥ 0)) (cond (decide ((a0.qIndex : Int) < 1048576)) (cond (decide ((a0.qGen : Int) ≥ 0)) (cond (decide ((a0.qGen : Int) ≤ 1073741823)) (cond (decide ((a0.qTenant : Int) ≥ 0)) (cond (!(decide ((a0.qTenant : Int) < 64))) 0 (cond (decide (((IntKind.u64.wrap a0.qIndex) : Int) > 1048575)) 0 (cond (decide (((IntKind.u64.wrap a0.qGen) : Int) > 1073741823)) 0 (cond (decide (((IntKind.u64.wrap a0.qTenant) : Int) > 63)) 0 (IntKind.u64.wrap (BitVec.ofInt (IntKind.u64.bits) (IntKind.u64.wrap (BitVec.ofInt (IntKind.u64.bits) (IntKind.u64.wrap (BitVec.ofInt (IntKind.u64.bits) (IntKind.u64.wrap (BitVec.ofInt (IntKind.u64.bits) (IntKind.u64.wrap (BitVec.ofInt (IntKind.u64.bits) (IntKind.u64.wrap (BitVec.ofInt (IntKind.u64.bits) (IntKind.u64.wrap (BitVec.ofInt (IntKind.u64.bits) 0 ||| BitVec.ofInt (IntKind.u64.bits) (IntKind.u64.wrap ((IntKind.u64.wrap (BitVec.ofInt (IntKind.u64.bits) (IntKind.u64.wrap a0.qIndex) &&& BitVec.ofInt (IntKind.u64.bits) 1048575).toNat) * 2 ^ (min (0 : Int).toNat IntKind.u64.bits)))).toNat) &&& ~~~ BitVec.ofInt (IntKind.u64.bits) 1125899905794048).toNat) ||| BitVec.ofInt (IntKind.u64.bits) (IntKind.u64.wrap ((IntKind.u64.wrap (BitVec.ofInt (IntKind.u64.bits) (IntKind.u64.wrap a0.qGen) &&& BitVec.ofInt (IntKind.u64.bits) 1073741823).toNat) * 2 ^ (min (20 : Int).toNat IntKind.u64.bits)))).toNat) &&& ~~~ BitVec.ofInt (IntKind.u64.bits) 70931694131085312).toNat) ||| BitVec.ofInt (IntKind.u64.bits) (IntKind.u64.wrap ((IntKind.u64.wrap (BitVec.ofInt (IntKind.u64.bits) (IntKind.u64.wrap a0.qTenant) &&& BitVec.ofInt (IntKind.u64.bits) 63).toNat) * 2 ^ (min (50 : Int).toNat IntKind.u64.bits)))).toNat) &&& ~~~ BitVec.ofInt (IntKind.u64.bits) 18158513697557839872).toNat) ||| BitVec.ofInt (IntKind.u64.bits) 12105675798371893248).toNat))))) 0) 0) 0) 0) 0)
theorem haWordG_ok (a0 : Ha) : Ck n_handle_Handle_Word [(.agg a0.cs)] (U (haWordG a0)) := by
  unfold haWordG
  cases h0 : (decide ((a0.qIndex : Int) ≥ 0)) with
  | false =>
    exact rOk1 [] (obsE h0 (obsE h0 (obsE h0 (obsE h0 obsN)))) rfl rfl (by kernel_rfl)
  | true =>
    cases h1 : (decide ((a0.qIndex : Int) < 1048576)) with
    | false =>
      exact rOk1 [] (obsE h0 (obsE h0 (obsE h0 (obsE h0 (obsE h1 (obsE h1 (obsE h1 (obsE h1 obsN)))))))) rfl rfl (by kernel_rfl)
    | true =>
      cases h2 : (decide ((a0.qGen : Int) ≥ 0)) with
      | false =>
        exact rOk1 [] (obsE h0 (obsE h0 (obsE h0 (obsE h0 (obsE h1 (obsE h1 (obsE h1 (obsE h1 (obsE h2 (obsE h2 (obsE h2 (obsE h2 obsN)))))))))))) rfl rfl (by kernel_rfl)
      | true =>
        cases h3 : (decide ((a0.qGen : Int) ≤ 1073741823)) with
        | false =>
          exact rOk1 [] (obsE h0 (obsE h0 (obsE h0 (obsE h0 (obsE h1 (obsE h1 (obsE h1 (obsE h1 (obsE h2 (obsE h2 (obsE h2 (obsE h2 (obsE h3 (obsE h3 (obsE h3 (obsE h3 obsN)))))))))))))))) rfl rfl (by kernel_rfl)
        | true =>
          cases h4 : (decide ((a0.qTenant : Int) ≥ 0)) with
          | false =>
            exact rOk1 [] (obsE h0 (obsE h0 (obsE h0 (obsE h0 (obsE h1 (obsE h1 (obsE h1 (obsE h1 (obsE h2 (obsE h2 (obsE h2 (obsE h2 (obsE h3 (obsE h3 (obsE h3 (obsE h3 (obsE h4 (obsE h4 (obsE h4 (obsE h4 obsN)))))))))))))))))))) rfl rfl (by kernel_rfl)
          | true =>
            cases h5 : (!(decide ((a0.qTenant : Int) < 64))) with
            | false =>
              cases h6 : (decide (((IntKind.u64.wrap a0.qIndex) : Int) > 1048575)) with
              | false =>
                cases h7 : (decide (((IntKind.u64.wrap a0.qGen) : Int) > 1073741823)) with
                | false =>
                  cases h8 : (decide (((IntKind.u64.wrap a0.qTenant) : Int) > 63)) with
                  | false =>
                    exact rOk1 [.o, .o, .o, .o, .o, .o, .o, .o, .o, .o, .o, .o, .o, .o, .o, .o, .o, .o, .o, .o, .o, .s, .s, .s, .s, .s, .s, .s, .s, .s, .s, .s, .s, .s, .s, .s, .s, .s, .s, .s, .s, .s, .s, .s, .s, .s, .s, .s, .s, .s, .s, .s, .s, .s, .s, .s, .s, .s, .s, .s, .s, .s, .s, .s, .s, .s, .s, .s, .s, .s, .s, .s, .s, .s, .s, .s, .s, .s, .s, .s, .s, .s, .s, .s, .s, .s, .s, .s, .s, .s, .s, .s, .s, .s, .s, .s, .s, .s, .s, .s, .s, .s, .s, .s, .s, .s, .s, .s, .s, .s, .s, .s, .s, .s, .s, .s, .s, .s, .s, .s, .s, .s, .s, .s, .s, .s, .s, .s, .s, .s, .s, .s, .s, .s, .s, .s, .s, .s, .s, .s, .s, .s, .s, .s, .s, .s, .s, .s, .s, .s, .s, .s, .s, .s, .s, .s, .s, .s, .s, .s, .s, .s, .s, .s, .s, .s, .s, .s, .s, .s, .s, .s, .s, .s, .s, .s, .s, .s, .s, .s, .s, .s, .s, .s, .s, .s, .s, .s, .s, .s, .s, .s, .s, .s, .s, .s, .s, .s, .s, .s, .s, .s, .s, .s, .s, .s, .s, .s, .s, .s, .s, .s, .s, .s, .s, .s, .s, .s, .s, .s, .s, .s, .s, .s, .s, .s, .s, .s, .s, .s, .s, .s, .s, .s, .s, .s, .s, .s, .s, .s, .s, .s, .s, .s, .s, .s, .s, .s, .s, .s, .s, .s, .s, .s, .s, .s, .s, .s, .s, .s, .s, .s, .s, .s, .s, .s, .s, .s, .s, .s, .s, .s, .s, .s, .s, .s, .s, .s, .s, .s, .s, .s, .s, .s, .s, .s, .s, .s, .s, .s, .s, .s, .s, .s, .s, .s, .s, .s, .s, .s, .s, .s, .s, .s, .s, .s, .s, .s, .s, .s, .s, .s, .s, .s, .s, .s, .s, .s, .s, .s, .s, .s, .s, .s, .s, .s, .s, .s, .s, .s, .s, .s, .s, .s, .s, .s, .s, .s, .s, .s, .s, .s, .s, .s, .s, .s, .s, .s, .s, .s, .s, .s, .s, .s, .s, .s, .s, .s, .s, .s, .s, .s, .s, .s, .s, .s, .s, .s, .s, .s, .s, .s, .s, .s, .s, .s, .s, .s, .s, .s, .s, .s, .s, .s, .s, .s, .s, .s, .s, .s, .s, .s, .s, .s, .s, .s, .s, .s, .s, .s, .s, .s, .s, .o, .s, .s, .s, .s, .s, .s, .s, .s, .s, .s, .s, .s, .s, .s, .s, .s, .s, .s, .s, .s, .s, .s, .s, .s, .s, .s, .s, .s, .s, .s, .s, .s, .s, .s, .s, .s, .s, .s, .s, .s, .s, .s, .s, .s, .s, .s, .s, .s, .s, .s, .s, .s, .s, .s, .s, .s, .s, .s, .s, .s, .s, .s, .s, .s, .s, .s, .s, .s, .s, .s, .s, .s, .s, .s, .s, .s, .s, .s, .s, .s, .s, .s, .s, .s, .o, .s, .s, .s, .s, .s, .s, .s, .s, .s, .s, .s, .s, .s, .s, .s, .s, .s, .s, .s, .s, .s, .s, .s, .s, .s, .s, .s, .s, .s, .s, .s, .s, .s, .s, .s, .s, .s, .s, .s, .s, .s, .s, .s, .s, .s, .s, .s, .s, .s, .s, .s, .s, .s, .s, .s, .s, .s, .s, .s, .s, .s, .s, .s, .s, .s, .s, .s, .s, .s, .s, .s, .s, .s, .s, .s, .s, .s, .s, .s, .s, .s, .s, .s, .s] (obsE h0 (obsE h0 (obsE h0 (obsE h0 (obsE h1 (obsE h1 (obsE h1 (obsE h1 (obsE h2 (obsE h2 (obsE h2 (obsE h2 (obsE h3 (obsE h3 (obsE h3 (obsE h3 (obsE h4 (obsE h4 (obsE h4 (obsE h4 (obsE h5 (obsE h6 (obsE h7 (obsE h8 obsN)))))))))))))))))))))))) rfl rfl (by kernel_rfl)
                  | true =>
                    exact rOk1 [.o, .o, .o, .o, .o, .o, .o, .o, .o, .o, .o, .o, .o, .o, .o, .o, .o, .o, .o, .o, .o, .s, .s, .s, .s, .s, .s, .s, .s, .s, .s, .s, .s, .s, .s, .s, .s, .s, .s, .s, .s, .s, .s, .s, .s, .s, .s, .s, .s, .s, .s, .s, .s, .s, .s, .s, .s, .s, .s, .s, .s, .s, .s, .s, .s, .s, .s, .s, .s, .s, .s, .s, .s, .s, .s, .s, .s, .s, .s, .s, .s, .s, .s, .s, .s, .s, .s, .s, .s, .s, .s, .s, .s, .s, .s, .s, .s, .s, .s, .s, .s, .s, .s, .s, .s, .s, .s, .s, .s, .s, .s, .s, .s, .s, .s, .s, .s, .s, .s, .s, .s, .s, .s, .s, .s, .s, .s, .s, .s, .s, .s, .s, .s, .s, .s, .s, .s, .s, .s, .s, .s, .s, .s, .s, .s, .s, .s, .s, .s, .s, .s, .s, .s, .s, .s, .s, .s, .s, .s, .s, .s, .s, .s, .s, .s, .s, .s, .s, .s, .s, .s, .s, .s, .s, .s, .s, .s, .s, .s, .s, .s, .s, .s, .s, .s, .s, .s, .s, .s, .s, .s, .s, .s, .s, .s, .s, .s, .s, .s, .s, .s, .s, .s, .s, .s, .s, .s, .s, .s, .s, .s, .s, .s, .s, .s, .s, .s, .s, .s, .s, .s, .s, .s, .s, .s, .s, .s, .s, .s, .s, .s, .s, .s, .s, .s, .s, .s, .s, .s, .s, .s, .s, .s, .s, .s, .s, .s, .s, .s, .s, .s, .s, .s, .s, .s, .s, .s, .s, .s, .s, .s, .s, .s, .s, .s, .s, .s, .s, .s, .s, .s, .s, .s, .s, .s, .s, .s, .s, .s, .s, .s, .s, .s, .s, .s, .s, .s, .s, .s, .s, .s, .s, .s, .s, .s, .s, .s, .s, .s, .s, .s, .s, .s, .s, .s, .s, .s, .s, .s, .s, .s, .s, .s, .s, .s, .s, .s, .s, .s, .s, .s, .s, .s, .s, .s, .s, .s, .s, .s, .s, .s, .s, .s, .s, .s, .s, .s, .s, .s, .s, .s, .s, .s, .s, .s, .s, .s, .s, .s, .s, .s, .s, .s, .s, .s, .s, .s, .s, .s, .s, .s, .s, .s, .s, .s, .s, .s, .s, .s, .s, .s, .s, .s, .s, .s, .s, .s, .s, .s, .s, .s, .s, .s, .s, .s, .s, .s, .s, .s, .s, .s, .s, .s, .s, .s, .s, .s, .s, .s, .s, .s, .s, .s, .o, .s, .s, .s, .s, .s, .s, .s, .s, .s, .s, .s, .s, .s, .s, .s, .s, .s, .s, .s, .s, .s, .s, .s, .s, .s, .s, .s, .s, .s, .s, .s, .s, .s, .s, .s, .s, .s, .s, .s, .s, .s, .s, .s, .s, .s, .s, .s, .s, .s, .s, .s, .s, .s, .s, .s, .s, .s, .s, .s, .s, .s, .s, .s, .s, .s, .s, .s, .s, .s, .s, .s, .s, .s, .s, .s, .s, .s, .s, .s, .s, .s, .s, .s, .s, .o, .s, .s, .s, .s, .s, .s, .s, .s, .s, .s, .s, .s, .s, .s, .s, .s, .s, .s, .s, .s, .s, .s, .s, .s, .s, .s, .s, .s, .s, .s, .s, .s, .s, .s, .s, .s, .s, .s, .s, .s, .s, .s, .s, .s, .s, .s, .s, .s, .s, .s, .s, .s, .s, .s, .s, .s, .s, .s, .s, .s, .s, .s, .s, .s, .s, .s, .s, .s, .s, .s, .s, .s, .s, .s, .s, .s, .s, .s, .s, .s, .s, .s, .s, .s] (obsE h0 (obsE h0 (obsE h0 (obsE h0 (obsE h1 (obsE h1 (obsE h1 (obsE h1 (obsE h2 (obsE h2 (obsE h2 (obsE h2 (obsE h3 (obsE h3 (obsE h3 (obsE h3 (obsE h4 (obsE h4 (obsE h4 (obsE h4 (obsE h5 (obsE h6 (obsE h7 (obsE h8 obsN)))))))))))))))))))))))) rfl rfl (by kernel_rfl)
                | true =>
                  exact rOk1 [.o, .o, .o, .o, .o, .o, .o, .o, .o, .o, .o, .o, .o, .o, .o, .o, .o, .o, .o, .o, .o, .s, .s, .s, .s, .s, .s, .s, .s, .s, .s, .s, .s, .s, .s, .s, .s, .s, .s, .s, .s, .s, .s, .s, .s, .s, .s, .s, .s, .s, .s, .s, .s, .s, .s, .s, .s, .s, .s, .s, .s, .s, .s, .s, .s, .s, .s, .s, .s, .s, .s, .s, .s, .s, .s, .s, .s, .s, .s, .s, .s, .s, .s, .s, .s, .s, .s, .s, .s, .s, .s, .s, .s, .s, .s, .s, .s, .s, .s, .s, .s, .s, .s, .s, .s, .s, .s, .s, .s, .s, .s, .s, .s, .s, .s, .s, .s, .s, .s, .s, .s, .s, .s, .s, .s, .s, .s, .s, .s, .s, .s, .s, .s, .s, .s, .s, .s, .s, .s, .s, .s, .s, .s, .s, .s, .s, .s, .s, .s, .s, .s, .s, .s, .s, .s, .s, .s, .s, .s, .s, .s, .s, .s, .s, .s, .s, .s, .s, .s, .s, .s, .s, .s, .s, .s, .s, .s, .s, .s, .s, .s, .s, .s, .s, .s, .s, .s, .s, .s, .s, .s, .s, .s, .s, .s, .s, .s, .s, .s, .s, .s, .s, .s, .s, .s, .s, .s, .s, .s, .s, .s, .s, .s, .s, .s, .s, .s, .s, .s, .s, .s, .s, .s, .s, .s, .s, .s, .s, .s, .s, .s, .s, .s, .s, .s, .s, .s, .s, .s, .s, .s, .s, .s, .s, .s, .s, .s, .s, .s, .s, .s, .s, .s, .s, .s, .s, .s, .s, .s, .s, .s, .s, .s, .s, .s, .s, .s, .s, .s, .s, .s, .s, .s, .s, .s, .s, .s, .s, .s, .s, .s, .s, .s, .s, .s, .s, .s, .s, .s, .s, .s, .s, .s, .s, .s, .s, .s, .s, .s, .s, .s, .s, .s, .s, .s, .s, .s, .s, .s, .s, .s, .s, .s, .s, .s, .s, .s, .s, .s, .s, .s, .s, .s, .s, .s, .s, .s, .s, .s, .s, .s, .s, .s, .s, .s, .s, .s, .s, .s, .s, .s, .s, .s, .s, .s, .s, .s, .s, .s, .s, .s, .s, .s, .s, .s, .s, .s, .s, .s, .s, .s, .s, .s, .s, .s, .s, .s, .s, .s, .s, .s, .s, .s, .s, .s, .s, .s, .s, .s, .s, .s, .s, .s, .s, .s, .s, .s, .s, .s, .s, .s, .s, .s, .s, .s, .s, .s, .s, .s, .s, .s, .s, .s, .o, .s, .s, .s, .s, .s, .s, .s, .s, .s, .s, .s, .s, .s, .s, .s, .s, .s, .s, .s, .s, .s, .s, .s, .s, .s, .s, .s, .s, .s, .s, .s, .s, .s, .s, .s, .s, .s, .s, .s, .s, .s, .s, .s, .s, .s, .s, .s, .s, .s, .s, .s, .s, .s, .s, .s, .s, .s, .s, .s, .s, .s, .s, .s, .s, .s, .s, .s, .s, .s, .s, .s, .s, .s, .s, .s, .s, .s, .s, .s, .s, .s, .s, .s, .s] (obsE h0 (obsE h0 (obsE h0 (obsE h0 (obsE h1 (obsE h1 (obsE h1 (obsE h1 (obsE h2 (obsE h2 (obsE h2 (obsE h2 (obsE h3 (obsE h3 (obsE h3 (obsE h3 (obsE h4 (obsE h4 (obsE h4 (obsE h4 (obsE h5 (obsE h6 (obsE h7 obsN))))))))))))))))))))))) rfl rfl (by kernel_rfl)
              | true =>
                exact rOk1 [.o, .o, .o, .o, .o, .o, .o, .o, .o, .o, .o, .o, .o, .o, .o, .o, .o, .o, .o, .o, .o, .s, .s, .s, .s, .s, .s, .s, .s, .s, .s, .s, .s, .s, .s, .s, .s, .s, .s, .s, .s, .s, .s, .s, .s, .s, .s, .s, .s, .s, .s, .s, .s, .s, .s, .s, .s, .s, .s, .s, .s, .s, .s, .s, .s, .s, .s, .s, .s, .s, .s, .s, .s, .s, .s, .s, .s, .s, .s, .s, .s, .s, .s, .s, .s, .s, .s, .s, .s, .s, .s, .s, .s, .s, .s, .s, .s, .s, .s, .s, .s, .s, .s, .s, .s, .s, .s, .s, .s, .s, .s, .s, .s, .s, .s, .s, .s, .s, .s, .s, .s, .s, .s, .s, .s, .s, .s, .s, .s, .s, .s, .s, .s, .s, .s, .s, .s, .s, .s, .s, .s, .s, .s, .s, .s, .s, .s, .s, .s, .s, .s, .s, .s, .s, .s, .s, .s, .s, .s, .s, .s, .s, .s, .s, .s, .s, .s, .s, .s, .s, .s, .s, .s, .s, .s, .s, .s, .s, .s, .s, .s, .s, .s, .s, .s, .s, .s, .s, .s, .s, .s, .s, .s, .s, .s, .s, .s, .s, .s, .s, .s, .s, .s, .s, .s, .s, .s, .s, .s, .s, .s, .s, .s, .s, .s, .s, .s, .s, .s, .s, .s, .s, .s, .s, .s, .s, .s, .s, .s, .s, .s, .s, .s, .s, .s, .s, .s, .s, .s, .s, .s, .s, .s, .s, .s, .s, .s, .s, .s, .s, .s, .s, .s, .s, .s, .s, .s, .s, .s, .s, .s, .s, .s, .s, .s, .s, .s, .s, .s, .s, .s, .s, .s, .s, .s, .s, .s, .s, .s, .s, .s, .s, .s, .s, .s, .s, .s, .s, .s, .s, .s, .s, .s, .s, .s, .s, .s, .s, .s, .s, .s, .s, .s, .s, .s, .s, .s, .s, .s, .s, .s, .s, .s, .s, .s, .s, .s, .s, .s, .s, .s, .s, .s, .s, .s, .s, .s, .s, .s, .s, .s, .s, .s, .s, .s, .s, .s, .s, .s, .s, .s, .s, .s, .s, .s, .s, .s, .s, .s, .s, .s, .s, .s, .s, .s, .s, .s, .s, .s, .s, .s, .s, .s, .s, .s, .s, .s, .s, .s, .s, .s, .s, .s, .s, .s, .s, .s, .s, .s, .s, .s, .s, .s, .s, .s, .s, .s, .s, .s, .s, .s, .s, .s, .s, .s, .s, .s, .s, .s, .s, .s, .s, .s] (obsE h0 (obsE h0 (obsE h0 (obsE h0 (obsE h1 (obsE h1 (obsE h1 (obsE h1 (obsE h2 (obsE h2 (obsE h2 (obsE h2 (obsE h3 (obsE h3 (obsE h3 (obsE h3 (obsE h4 (obsE h4 (obsE h4 (obsE h4 (obsE h5 (obsE h6 obsN)))))))))))))))))))))) rfl rfl (by kernel_rfl)
            | true =>
              exact rOk1 [] (obsE h0 (obsE h0 (obsE h0 (obsE h0 (obsE h1 (obsE h1 (obsE h1 (obsE h1 (obsE h2 (obsE h2 (obsE h2 (obsE h2 (obsE h3 (obsE h3 (obsE h3 (obsE h3 (obsE h4 (obsE h4 (obsE h4 (obsE h4 (obsE h5 obsN))))))))))))))))))))) rfl rfl (by kernel_rfl)
def e_haWordG : List DV → Option DV
  | [.agg [.int .i64 y0, .int .i64 y1, .int .i64 y2]] => some (U (haWordG ⟨y0, y1, y2⟩))
  | _ => none
theorem e_haWordG_ok : ∀ args d, e_haWordG args = some d → Ck n_handle_Handle_Word args d := by
  intro args d h
  unfold e_haWordG at h
  split at h
  · rename_i y0 y1 y2; cases h; exact haWordG_ok ⟨y0, y1, y2⟩
  · cases h
def mineG (a0 : Int) (a1 : Int) (a2 : Int) : Ha × Bool := (cond (((IntKind.u64.wrap (BitVec.ofInt (IntKind.u64.bits) (IntKind.u64.wrap (BitVec.ofInt (IntKind.u64.bits) (IntKind.u64.wrap (BitVec.ofInt (IntKind.u64.bits) (IntKind.u64.wrap (BitVec.ofInt (IntKind.u64.bits) a0 &&& ~~~ BitVec.ofInt (IntKind.u64.bits) 1048575).toNat) &&& ~~~ BitVec.ofInt (IntKind.u64.bits) 1125899905794048).toNat) &&& ~~~ BitVec.ofInt (IntKind.u64.bits) 70931694131085312).toNat) &&& ~~~ BitVec.ofInt (IntKind.u64.bits) 18158513697557839872).toNat) : Int) != 0) ((⟨0, 0, 0⟩ : Ha), false) (cond (((IntKind.u64.wrap (BitVec.ofInt (IntKind.u64.bits) (Int.fdiv a0 (2 ^ (min (58 : Int).toNat IntKind.u64.bits))) &&& BitVec.ofInt (IntKind.u64.bits) 63).toNat) : Int) != 42) ((⟨0, 0, 0⟩ : Ha), false) (cond (((IntKind.i64.wrap (IntKind.u64.wrap (BitVec.ofInt (IntKind.u64.bits) (Int.fdiv a0 (2 ^ (min (50 : Int).toNat IntKind.u64.bits))) &&& BitVec.ofInt (IntKind.u64.bits) 63).toNat)) : Int) != a1) ((⟨0, 0, 0⟩ : Ha), false) (cond (decide (((IntKind.i64.wrap (IntKind.u64.wrap (BitVec.ofInt (IntKind.u64.bits) (Int.fdiv a0 (2 ^ (min (0 : Int).toNat IntKind.u64.bits))) &&& BitVec.ofInt (IntKind.u64.bits) 1048575).toNat)) : Int) ≥ a2)) ((⟨0, 0, 0⟩ : Ha), false) ((⟨(IntKind.i64.wrap (IntKind.u64.wrap (BitVec.ofInt (IntKind.u64.bits) (Int.fdiv a0 (2 ^ (min (0 : Int).toNat IntKind.u64.bits))) &&& BitVec.ofInt (IntKind.u64.bits) 1048575).toNat)), (IntKind.i64.wrap (IntKind.u64.wrap (BitVec.ofInt (IntKind.u64.bits) (Int.fdiv a0 (2 ^ (min (20 : Int).toNat IntKind.u64.bits))) &&& BitVec.ofInt (IntKind.u64.bits) 1073741823).toNat)), (IntKind.i64.wrap (IntKind.u64.wrap (BitVec.ofInt (IntKind.u64.bits) (Int.fdiv a0 (2 ^ (min (50 : Int).toNat IntKind.u64.bits))) &&& BitVec.ofInt (IntKind.u64.bits) 63).toNat))⟩ : Ha), true)))))
theorem mineG_ok (a0 : Int) (a1 : Int) (a2 : Int) : Ck n_handle_Mine [(U a0), (I a1), (I a2)] (.tup [(.agg ((mineG a0 a1 a2).1).cs), (.bool (mineG a0 a1 a2).2)]) := by
  unfold mineG
  cases h0 : (((IntKind.u64.wrap (BitVec.ofInt (IntKind.u64.bits) (IntKind.u64.wrap (BitVec.ofInt (IntKind.u64.bits) (IntKind.u64.wrap (BitVec.ofInt (IntKind.u64.bits) (IntKind.u64.wrap (BitVec.ofInt (IntKind.u64.bits) a0 &&& ~~~ BitVec.ofInt (IntKind.u64.bits) 1048575).toNat) &&& ~~~ BitVec.ofInt (IntKind.u64.bits) 1125899905794048).toNat) &&& ~~~ BitVec.ofInt (IntKind.u64.bits) 70931694131085312).toNat) &&& ~~~ BitVec.ofInt (IntKind.u64.bits) 18158513697557839872).toNat) : Int) != 0) with
  | false =>
    cases h1 : (((IntKind.u64.wrap (BitVec.ofInt (IntKind.u64.bits) (Int.fdiv a0 (2 ^ (min (58 : Int).toNat IntKind.u64.bits))) &&& BitVec.ofInt (IntKind.u64.bits) 63).toNat) : Int) != 42) with
    | false =>
      cases h2 : (((IntKind.i64.wrap (IntKind.u64.wrap (BitVec.ofInt (IntKind.u64.bits) (Int.fdiv a0 (2 ^ (min (50 : Int).toNat IntKind.u64.bits))) &&& BitVec.ofInt (IntKind.u64.bits) 63).toNat)) : Int) != a1) with
      | false =>
        cases h3 : (decide (((IntKind.i64.wrap (IntKind.u64.wrap (BitVec.ofInt (IntKind.u64.bits) (Int.fdiv a0 (2 ^ (min (0 : Int).toNat IntKind.u64.bits))) &&& BitVec.ofInt (IntKind.u64.bits) 1048575).toNat)) : Int) ≥ a2)) with
        | false =>
          exact rOk1 [.s, .s, .s, .s, .s, .s, .s, .s, .s, .s, .s, .s, .s, .s, .s, .s, .s, .s, .s, .s, .s, .s, .s, .s, .s, .s, .s, .s, .s, .s, .s, .s, .s, .s, .s, .s, .s, .s, .s, .s, .s, .s, .s, .s, .s, .s, .s, .s, .s, .s, .s, .s, .s, .s, .s, .s, .s, .s, .s, .s, .s, .s, .s, .s, .s, .s, .s, .s, .s, .s, .s, .s, .s, .s, .s, .s, .s, .s, .s, .s, .s, .s, .s, .s, .s, .s, .s, .s, .s, .s, .s, .s, .s, .s, .s, .s, .s, .s, .s, .s, .s, .s, .s, .s, .s, .s, .s, .s, .s, .s, .s, .s, .s, .s, .s, .s, .s, .s, .s, .s, .s, .s, .s, .s, .s, .s, .s, .s, .s, .s, .s, .s, .s, .s, .s, .s, .s, .s, .s, .s, .s, .s, .s, .s, .s, .s, .s, .s, .s, .s, .s, .s, .s, .s, .s, .s, .s, .s, .s, .s, .s, .s, .s, .s, .s, .s, .s, .s, .s, .s, .s, .s, .s, .s, .s, .s, .s, .s, .s, .s, .s, .s, .s, .s, .s, .s, .s, .s, .s, .s, .s, .s, .s, .s, .s, .s, .s, .s, .s, .s, .s, .s, .s, .s, .s, .s, .s, .s, .s, .s, .s, .s, .s, .s, .s, .s, .s, .s, .s, .s, .s, .s, .s, .s, .s, .s, .s, .s, .s, .s, .s, .s, .s, .s, .s, .s, .s, .s, .s, .s, .s, .s, .s, .s, .s, .s, .s, .s, .s, .s, .s, .s, .s, .s, .s, .s, .s, .s, .s, .s, .s, .s, .s, .s, .s, .s, .s, .s, .s, .s, .s, .s, .s, .s, .s, .s, .s, .s, .s, .s, .s, .s, .s, .s, .s, .s, .s, .s, .s, .s, .s, .s, .s, .s, .s, .s, .s, .s, .s, .s, .s, .s, .s, .s, .s, .s, .s, .s, .s, .s, .s, .s, .s, .s, .s, .s, .s, .s, .s, .s, .s, .s, .s, .s, .s, .s, .s, .s, .s, .s, .s, .s, .s, .s, .s, .s, .s, .s, .s, .s, .s, .s, .s, .s, .s, .s, .s, .s, .s, .s, .s, .s, .s, .s, .s, .s, .s, .s, .s, .s, .s, .s, .s, .s, .s, .s, .s, .s, .s, .s, .s, .s, .s, .s, .s, .s, .s, .s, .s, .s, .s, .s, .s, .s, .s, .s, .s, .s, .s, .s, .s, .s, .s, .s, .s, .s, .s, .s, .s, .s, .s, .s, .s, .s, .s, .s, .s, .s, .s, .s, .s, .s, .s, .s, .s, .s, .s, .s, .s, .s, .s, .s, .s, .s, .s, .s, .s, .s, .s, .s, .s, .s, .s, .s, .s, .s, .s, .s, .s, .s, .s, .s, .s, .s, .s, .s, .s, .s, .s, .s, .s, .s, .s, .s, .s, .s, .s, .s, .s, .s, .s, .s, .s, .s, .s, .s, .s, .s, .s, .s, .s, .s, .s, .s, .s, .s, .s, .s, .s, .s, .s, .s, .s, .s, .s, .s, .s, .s, .s, .s, .s, .s, .s, .s, .s, .s, .s, .s, .s, .s, .s, .s, .s, .s, .s, .s, .s, .s, .s, .s, .s, .s, .s, .s, .s, .s, .s, .s, .s, .s, .s, .s, .s, .s, .s, .s, .s, .s, .s, .s, .s, .s, .s, .s, .s, .s, .s, .s, .s, .s, .s, .s, .s, .s, .s, .s, .s, .s, .s, .s, .s, .s, .s, .s, .s, .s, .s, .s, .s, .s, .s, .s, .s, .s, .s, .s, .s, .s, .s, .s, .s, .s, .s, .s, .s, .s, .s, .s, .s, .s, .s, .s, .s, .s, .s, .s, .s, .s, .s, .s, .s, .s, .s, .s, .s, .s, .s, .s, .s, .s, .s, .s, .s, .s, .s, .s, .s, .s, .s, .s, .s, .s, .s, .s, .s, .s, .s, .s, .s, .s, .s, .s, .s, .s, .s, .s, .s, .o, .s, .s, .s, .s, .s, .o, .s, .s, .s, .s, .s] (obsE h0 (obsE h1 (obsE h2 (obsE h2 (obsE h2 (obsE h2 (obsE h2 (obsE h3 obsN)))))))) rfl rfl (by kernel_rfl)
        | true =>
          exact rOk1 [.s, .s, .s, .s, .s, .s, .s, .s, .s, .s, .s, .s, .s, .s, .s, .s, .s, .s, .s, .s, .s, .s, .s, .s, .s, .s, .s, .s, .s, .s, .s, .s, .s, .s, .s, .s, .s, .s, .s, .s, .s, .s, .s, .s, .s, .s, .s, .s, .s, .s, .s, .s, .s, .s, .s, .s, .s, .s, .s, .s, .s, .s, .s, .s, .s, .s, .s, .s, .s, .s, .s, .s, .s, .s, .s, .s, .s, .s, .s, .s, .s, .s, .s, .s, .s, .s, .s, .s, .s, .s, .s, .s, .s, .s, .s, .s, .s, .s, .s, .s, .s, .s, .s, .s, .s, .s, .s, .s, .s, .s, .s, .s, .s, .s, .s, .s, .s, .s, .s, .s, .s, .s, .s, .s, .s, .s, .s, .s, .s, .s, .s, .s, .s, .s, .s, .s, .s, .s, .s, .s, .s, .s, .s, .s, .s, .s, .s, .s, .s, .s, .s, .s, .s, .s, .s, .s, .s, .s, .s, .s, .s, .s, .s, .s, .s, .s, .s, .s, .s, .s, .s, .s, .s, .s, .s, .s, .s, .s, .s, .s, .s, .s, .s, .s, .s, .s, .s, .s, .s, .s, .s, .s, .s, .s, .s, .s, .s, .s, .s, .s, .s, .s, .s, .s, .s, .s, .s, .s, .s, .s, .s, .s, .s, .s, .s, .s, .s, .s, .s, .s, .s, .s, .s, .s, .s, .s, .s, .s, .s, .s, .s, .s, .s, .s, .s, .s, .s, .s, .s, .s, .s, .s, .s, .s, .s, .s, .s, .s, .s, .s, .s, .s, .s, .s, .s, .s, .s, .s, .s, .s, .s, .s, .s, .s, .s, .s, .s, .s, .s, .s, .s, .s, .s, .s, .s, .s, .s, .s, .s, .s, .s, .s, .s, .s, .s, .s, .s, .s, .s, .s, .s, .s, .s, .s, .s, .s, .s, .s, .s, .s, .s, .s, .s, .s, .s, .s, .s, .s, .s, .s, .s, .s, .s, .s, .s, .s, .s, .s, .s, .s, .s, .s, .s, .s, .s, .s, .s, .s, .s, .s, .s, .s, .s, .s, .s, .s, .s, .s, .s, .s, .s, .s, .s, .s, .s, .s, .s, .s, .s, .s, .s, .s, .s, .s, .s, .s, .s, .s, .s, .s, .s, .s, .s, .s, .s, .s, .s, .s, .s, .s, .s, .s, .s, .s, .s, .s, .s, .s, .s, .s, .s, .s, .s, .s, .s, .s, .s, .s, .s, .s, .s, .s, .s, .s, .s, .s, .s, .s, .s, .s, .s, .s, .s, .s, .s, .s, .s, .s, .s, .s, .s, .s, .s, .s, .s, .s, .s, .s, .s, .s, .s, .s, .s, .s, .s, .s, .s, .s, .s, .s, .s, .s, .s, .s, .s, .s, .s, .s, .s, .s, .s, .s, .s, .s, .s, .s, .s, .s, .s, .s, .s, .s, .s, .s, .s, .s, .s, .s, .s, .s, .s, .s, .s, .s, .s, .s, .s, .s, .s, .s, .s, .s, .s, .s, .s, .s, .s, .s, .s, .s, .s, .s, .s, .s, .s, .s, .s, .s, .s, .s, .s, .s, .s, .s, .s, .s, .s, .s, .s, .s, .s, .s, .s, .s, .s, .s, .s, .s, .s, .s, .s, .s, .s, .s, .s, .s, .s, .s, .s, .s, .s, .s, .s, .s, .s, .s, .s, .s, .s, .s, .s, .s, .s, .s, .s, .s, .s, .s, .s, .s, .s, .s, .s, .s, .s, .s, .s, .s, .s, .s, .s, .s, .s, .s, .s, .s, .s, .s, .s, .s, .s, .s, .s, .s, .s, .s, .s, .s, .s, .s, .s, .s, .s, .s, .s, .s, .s, .s, .s, .s, .s, .s, .s, .s, .s, .s, .s, .s, .s, .s, .s, .s, .s, .s, .s, .s, .s, .s, .s, .s, .s, .s, .s, .s, .s, .s, .s, .s, .s, .s, .s, .s, .s, .s, .s, .s, .s, .s, .s, .s, .s, .s, .s, .s, .s, .s, .s, .o, .s, .s, .s, .s, .s, .o, .s, .s, .s, .s, .s] (obsE h0 (obsE h1 (obsE h2 (obsE h2 (obsE h2 (obsE h2 (obsE h2 (obsE h3 obsN)))))))) rfl rfl (by kernel_rfl)
      | true =>
        exact rOk1 [.s, .s, .s, .s, .s, .s, .s, .s, .s, .s, .s, .s, .s, .s, .s, .s, .s, .s, .s, .s, .s, .s, .s, .s, .s, .s, .s, .s, .s, .s, .s, .s, .s, .s, .s, .s, .s, .s, .s, .s, .s, .s, .s, .s, .s, .s, .s, .s, .s, .s, .s, .s, .s, .s, .s, .s, .s, .s, .s, .s, .s, .s, .s, .s, .s, .s, .s, .s, .s, .s, .s, .s, .s, .s, .s, .s, .s, .s, .s, .s, .s, .s, .s, .s, .s, .s, .s, .s, .s, .s, .s, .s, .s, .s, .s, .s, .s, .s, .s, .s, .s, .s, .s, .s, .s, .s, .s, .s, .s, .s, .s, .s, .s, .s, .s, .s, .s, .s, .s, .s, .s, .s, .s, .s, .s, .s, .s, .s, .s, .s, .s, .s, .s, .s, .s, .s, .s, .s, .s, .s, .s, .s, .s, .s, .s, .s, .s, .s, .s, .s, .s, .s, .s, .s, .s, .s, .s, .s, .s, .s, .s, .s, .s, .s, .s, .s, .s, .s, .s, .s, .s, .s, .s, .s, .s, .s, .s, .s, .s, .s, .s, .s, .s, .s, .s, .s, .s, .s, .s, .s, .s, .s, .s, .s, .s, .s, .s, .s, .s, .s, .s, .s, .s, .s, .s, .s, .s, .s, .s, .s, .s, .s, .s, .s, .s, .s, .s, .s, .s, .s, .s, .s, .s, .s, .s, .s, .s, .s, .s, .s, .s, .s, .s, .s, .s, .s, .s, .s, .s, .s, .s, .s, .s, .s, .s, .s, .s, .s, .s, .s, .s, .s, .s, .s, .s, .s, .s, .s, .s, .s, .s, .s, .s, .s, .s, .s, .s, .s, .s, .s, .s, .s, .s, .s, .s, .s, .s, .s, .s, .s, .s, .s, .s, .s, .s, .s, .s, .s, .s, .s, .s, .s, .s, .s, .s, .s, .s, .s, .s, .s, .s, .s, .s, .s, .s, .s, .s, .s, .s, .s, .s, .s, .s, .s, .s, .s, .s, .s, .s, .s, .s, .s, .s, .s, .s, .s, .s, .s, .s, .s, .s, .s, .s, .s, .s, .s, .s, .s, .s, .s, .s, .s, .s, .s, .s, .s, .s, .s, .s, .s, .s, .s, .s, .s, .s, .s, .s, .s, .s, .s, .s, .s, .s, .s, .s, .s, .s, .s, .s, .s, .s, .s, .s, .s, .s, .s, .s, .s, .s, .s, .s, .s, .s, .s, .s, .s, .s, .s, .s, .s, .s, .s, .s, .s, .s, .s, .s, .s, .s, .s, .s, .s, .s, .s, .s, .s, .s, .s, .s, .s, .s, .s, .s, .s, .s, .s, .s, .s, .s, .s, .s, .s, .s, .s, .s, .s, .s, .s, .s, .s, .s, .s, .s, .s, .s, .s, .s, .s, .s, .s, .s, .s, .s, .s, .s, .s, .s, .s, .s, .s, .s, .s, .s, .s, .s, .s, .s, .s, .s, .s, .s, .s, .s, .s, .s, .s, .s, .s, .s, .s, .s, .s, .s, .s, .s, .s, .s, .s, .s, .s, .s, .s, .s, .s, .s, .s, .s, .s, .s, .s, .s, .s, .s, .s, .s, .s, .s, .s, .s, .s, .s, .s, .s, .s, .s, .s, .s, .s, .s, .s, .s, .s, .s, .s, .s, .s, .s, .s, .s, .s, .s, .s, .s, .s, .s, .s, .s, .s, .s, .s, .s, .s, .s, .s, .s, .s, .s, .s, .s, .s, .s, .s, .s, .s, .s, .s, .s, .s, .s, .s, .s, .s, .s, .s, .s, .s, .s, .s, .s, .s, .s, .s, .s, .s, .s, .s, .s, .s, .s, .s, .s, .s, .s, .s, .s, .s, .s, .s, .s, .s, .s, .s, .s, .s, .s, .s, .s, .s, .s, .s, .s, .s, .s, .s, .s, .s, .s, .s, .s, .s, .s, .s, .s, .s, .s, .s, .s, .s, .s, .s, .s, .s, .s, .s, .s, .s, .s, .s, .s, .s, .s, .s, .s, .s, .s, .s, .s, .o, .s, .s, .s, .s, .s, .o, .s, .s, .s, .s, .s] (obsE h0 (obsE h1 (obsE h2 (obsE h2 (obsE h2 (obsE h2 (obsE h2 obsN))))))) rfl rfl (by kernel_rfl)
    | true =>
      exact rOk1 [.s, .s, .s, .s, .s, .s, .s, .s, .s, .s, .s, .s, .s, .s, .s, .s, .s, .s, .s, .s, .s, .s, .s, .s, .s, .s, .s, .s, .s, .s, .s, .s, .s, .s, .s, .s, .s, .s, .s, .s, .s, .s, .s, .s, .s, .s, .s, .s, .s, .s, .s, .s, .s, .s, .s, .s, .s, .s, .s, .s, .s, .s, .s, .s, .s, .s, .s, .s, .s, .s, .s, .s, .s, .s, .s, .s, .s, .s, .s, .s, .s, .s, .s, .s, .s, .s, .s, .s, .s, .s, .s, .s, .s, .s, .s, .s, .s, .s, .s, .s, .s, .s, .s, .s, .s, .s, .s, .s, .s, .s, .s, .s, .s, .s, .s, .s, .s, .s, .s, .s, .s, .s, .s, .s, .s, .s, .s, .s, .s, .s, .s, .s, .s, .s, .s, .s, .s, .s, .s, .s, .s, .s, .s, .s, .s, .s, .s, .s, .s, .s, .s, .s, .s, .s, .s, .s, .s, .s, .s, .s, .s, .s, .s, .s, .s, .s, .s, .s, .s, .s, .s, .s, .s, .s, .s, .s, .s, .s, .s, .s, .s, .s, .s, .s, .s, .s, .s, .s, .s, .s, .s, .s, .s, .s, .s, .s, .s, .s, .s, .s, .s, .s, .s, .s, .s, .s, .s, .s, .s, .s, .s, .s, .s, .s, .s, .s, .s, .s, .s, .s, .s, .s, .s, .s, .s, .s, .s, .s, .s, .s, .s, .s, .s, .s, .s, .s, .s, .s, .s, .s, .s, .s, .s, .s, .s, .s, .s, .s, .s, .s, .s, .s, .s, .s, .s, .s, .s, .s, .s, .s, .s, .s, .s, .s, .s, .s, .s, .s, .s, .s, .s, .s, .s, .s, .s, .s, .s, .s, .s, .s, .s, .s, .s, .s, .s, .s, .s, .s, .s, .s, .s, .s, .s, .s, .s, .s, .s, .s, .s, .s, .s, .s, .s, .s, .s, .s, .s, .s, .s, .s, .s, .s, .s, .s, .s, .s, .s, .s, .s, .s, .s, .s, .s, .s, .s, .s, .s, .s, .s, .s, .s, .s, .s, .s, .s, .s, .s, .s, .s, .s, .s, .s, .s, .s, .s, .s, .s, .s, .s, .s, .s, .s, .s, .s, .s, .s, .s, .s, .s, .s, .s, .s, .s, .s, .s, .s, .s, .s, .s, .s, .s, .s, .s, .s, .s, .s, .s, .s, .s, .s, .s, .s, .s, .s, .s, .s, .s, .s, .s, .s, .s, .s, .s, .s, .s, .s, .s, .s, .s, .s, .s, .s, .s, .s, .s, .s, .s, .s, .s, .s, .s, .s, .s, .s, .s, .s, .s, .s, .s, .s, .s, .s, .s, .s, .s, .s, .s, .s, .s, .s, .s, .s, .s, .s, .s, .s, .s, .s, .s, .s, .s, .s, .s, .s, .s, .s, .s, .s, .s, .s, .s, .s, .s, .s, .s, .s, .s, .s, .s, .s, .s, .s, .s, .s, .s, .s, .s, .s, .s, .s, .s, .s, .s, .s, .s, .s, .s, .s, .s, .s, .s, .s, .s, .s, .s, .s, .s, .s, .s, .s, .s, .s, .s, .s, .s, .s, .s, .s, .s, .s, .s, .s, .s, .s, .s, .s, .s, .s, .s, .s, .s, .s, .s, .s, .s, .s, .s, .s, .s, .s, .s, .s, .s, .s, .s, .s, .s, .s, .s, .s, .s, .s, .s, .s, .s, .s, .s, .s, .s, .s, .s, .s, .s, .s, .s, .s, .s, .s, .s, .s, .s, .s, .s, .s, .s, .s, .s, .s, .s, .s, .s, .s, .s, .s, .s, .s, .s, .s, .s, .s, .s, .s, .s, .s, .s, .s, .s, .s, .s, .s, .s, .s, .s, .s, .s, .s, .s, .s, .s, .s, .s, .s, .s, .s, .s, .s, .s, .s, .s, .s, .s, .s, .s, .s, .s, .s, .s, .s, .s, .s, .s, .s, .s, .s, .s, .s, .s, .s, .s, .s, .s, .s, .s, .s, .s, .s, .s, .o, .s, .s, .s, .s, .s] (obsE h0 (obsE h1 obsN)) rfl rfl (by kernel_rfl)
  | true =>
    exact rOk1 [.s, .s, .s, .s, .s, .s, .s, .s, .s, .s, .s, .s, .s, .s, .s, .s, .s, .s, .s, .s, .s, .s, .s, .s, .s, .s, .s, .s, .s, .s, .s, .s, .s, .s, .s, .s, .s, .s, .s, .s, .s, .s, .s, .s, .s, .s, .s, .s, .s, .s, .s, .s, .s, .s, .s, .s, .s, .s, .s, .s, .s, .s, .s, .s, .s, .s, .s, .s, .s, .s, .s, .s, .s, .s, .s, .s, .s, .s, .s, .s, .s, .s, .s, .s, .s, .s, .s, .s, .s, .s, .s, .s, .s, .s, .s, .s, .s, .s, .s, .s, .s, .s, .s, .s, .s, .s, .s, .s, .s, .s, .s, .s, .s, .s, .s, .s, .s, .s, .s, .s, .s, .s, .s, .s, .s, .s, .s, .s, .s, .s, .s, .s, .s, .s, .s, .s, .s, .s, .s, .s, .s, .s, .s, .s, .s, .s, .s, .s, .s, .s, .s, .s, .s, .s, .s, .s, .s, .s, .s, .s, .s, .s, .s, .s, .s, .s, .s, .s, .s, .s, .s, .s, .s, .s, .s, .s, .s, .s, .s, .s, .s, .s, .s, .s, .s, .s, .s, .s, .s, .s, .s, .s, .s, .s, .s, .s, .s, .s, .s, .s, .s, .s, .s, .s, .s, .s, .s, .s, .s, .s, .s, .s, .s, .s, .s, .s, .s, .s, .s, .s, .s, .s, .s, .s, .s, .s, .s, .s, .s, .s, .s, .s, .s, .s, .s, .s, .s, .s, .s, .s, .s, .s, .s, .s, .s, .s, .s, .s, .s, .s, .s, .s, .s, .s, .s, .s, .s, .s, .s, .s, .s, .s, .s, .s, .s, .s, .s, .s, .s, .s, .s, .s, .s, .s, .s, .s, .s, .s, .s, .s, .s, .s, .s, .s, .s, .s, .s, .s, .s, .s, .s, .s, .s, .s, .s, .s, .s, .s, .s, .s, .s, .s, .s, .s, .s, .s, .s, .s, .s, .s, .s, .s, .s, .s, .s, .s, .s, .s, .s, .s, .s, .s, .s, .s, .s, .s, .s, .s, .s, .s, .s, .s, .s, .s, .s, .s, .s, .s, .s, .s, .s, .s, .s, .s, .s, .s, .s, .s, .s, .s, .s, .s, .s, .s, .s, .s, .s, .s, .s, .s, .s, .s, .s, .s, .s, .s, .s, .s, .s, .s, .s, .s, .s, .s, .s, .s, .s, .s, .s, .s, .s, .s, .s, .s, .s, .s, .s, .s, .s, .s, .s, .s, .s, .s, .s, .s, .s, .s, .s, .s, .s, .s, .s, .s, .s, .s, .s, .s, .s, .s, .s, .s, .s, .s, .s, .s, .s, .s, .s, .s, .s, .s, .s, .s, .s, .s, .s, .s, .s, .s, .s, .s, .s, .s, .s, .s, .s, .s, .s, .s, .s, .s, .s, .s, .s, .s, .s, .s, .s, .s, .s, .s, .s, .s, .s, .s, .s, .s, .s, .s, .s, .s, .s, .s, .s, .s, .s, .s, .s, .s, .s, .s, .s, .s, .s, .s, .s, .s, .s, .s, .s, .s, .s, .s, .s, .s, .s, .s, .s, .s, .s, .s, .s, .s, .s, .s, .s, .s, .s, .s, .s, .s, .s, .s, .s, .s, .s, .s, .s, .s, .s, .s, .s, .s, .s, .s, .s, .s, .s, .s, .s, .s, .s, .s, .s, .s, .s, .s, .s, .s, .s, .s, .s, .s, .s, .s, .s, .s, .s, .s, .s, .s, .s, .s, .s, .s, .s, .s, .s, .s, .s, .s, .s, .s, .s, .s, .s, .s, .s, .s, .s, .s, .s, .s, .s, .s, .s, .s, .s, .s, .s, .s, .s, .s, .s, .s, .s, .s, .s, .s, .s, .s, .s, .s, .s, .s, .s, .s, .s, .s, .s, .s, .s, .s, .s, .s, .s, .s, .s, .s, .s, .s, .s, .s, .s, .s, .s, .s, .s, .s, .s, .s, .s, .s, .s, .s, .s, .s, .s, .s, .s, .s, .s, .s, .s, .s, .s] (obsE h0 obsN) rfl rfl (by kernel_rfl)
def e_mineG : List DV → Option DV
  | [.int .u64 y0, .int .i64 y1, .int .i64 y2] => some (.tup [(.agg ((mineG y0 y1 y2).1).cs), (.bool (mineG y0 y1 y2).2)])
  | _ => none
theorem e_mineG_ok : ∀ args d, e_mineG args = some d → Ck n_handle_Mine args d := by
  intro args d h
  unfold e_mineG at h
  split at h
  · rename_i y0 y1 y2; cases h; exact mineG_ok y0 y1 y2
  · cases h
def turnedG (a0 : Int) (a1 : Int) : Int := (IntKind.u64.wrap (BitVec.ofInt (IntKind.u64.bits) (IntKind.u64.wrap (BitVec.ofInt (IntKind.u64.bits) (IntKind.u64.wrap (BitVec.ofInt (IntKind.u64.bits) 0 ||| BitVec.ofInt (IntKind.u64.bits) (IntKind.u64.wrap ((IntKind.u64.wrap (BitVec.ofInt (IntKind.u64.bits) a1 &&& BitVec.ofInt (IntKind.u64.bits) 2097151).toNat) * 2 ^ (min (0 : Int).toNat IntKind.u64.bits)))).toNat) &&& ~~~ BitVec.ofInt (IntKind.u64.bits) 18446744073707454464).toNat) ||| BitVec.ofInt (IntKind.u64.bits) (IntKind.u64.wrap ((IntKind.u64.wrap (BitVec.ofInt (IntKind.u64.bits) (IntKind.u64.wrap ((IntKind.u64.wrap (BitVec.ofInt (IntKind.u64.bits) (Int.fdiv a0 (2 ^ (min (21 : Int).toNat IntKind.u64.bits))) &&& BitVec.ofInt (IntKind.u64.bits) 8796093022207).toNat) + 1)) &&& BitVec.ofInt (IntKind.u64.bits) 8796093022207).toNat) * 2 ^ (min (21 : Int).toNat IntKind.u64.bits)))).toNat)
theorem turnedG_ok (a0 : Int) (a1 : Int) : Ck n_free_turned [(U a0), (U a1)] (U (turnedG a0 a1)) := by
  unfold turnedG
  exact rOk1 [] obsN rfl rfl (by kernel_rfl)
def e_turnedG : List DV → Option DV
  | [.int .u64 y0, .int .u64 y1] => some (U (turnedG y0 y1))
  | _ => none
theorem e_turnedG_ok : ∀ args d, e_turnedG args = some d → Ck n_free_turned args d := by
  intro args d h
  unfold e_turnedG at h
  split at h
  · rename_i y0 y1; cases h; exact turnedG_ok y0 y1
  · cases h
def nodeG (a1 : Int) : Int := (IntKind.u64.wrap (BitVec.ofInt (IntKind.u64.bits) (Int.fdiv a1 (2 ^ (min (0 : Int).toNat IntKind.u64.bits))) &&& BitVec.ofInt (IntKind.u64.bits) 2097151).toNat)
theorem nodeG_ok (a1 : Int) : Ck n_field_Field_Get [.agg [.int .i64 0, .int .i64 21], (U a1)] (U (nodeG a1)) := by
  unfold nodeG
  exact rOk1 [] obsN rfl rfl (by kernel_rfl)
def e_nodeG : List DV → Option DV
  | [.agg [.int .i64 0, .int .i64 21], .int .u64 y2] => some (U (nodeG y2))
  | _ => none
theorem e_nodeG_ok : ∀ args d, e_nodeG args = some d → Ck n_field_Field_Get args d := by
  intro args d h
  unfold e_nodeG at h
  split at h
  · rename_i y2; cases h; exact nodeG_ok y2
  · cases h
def opG1 (a0 : Ope) : Bool := (cond (decide ((a0.qD : Int) < 0)) false (cond (decide ((a0.qD : Int) > 255)) false (cond (decide ((a0.qF : Int) < 0)) false (cond (decide ((a0.qF : Int) ≥ 3)) false (cond ((a0.qH : Int) == 0) (cond ((a0.qD : Int) == 0) (cond ((a0.qF : Int) == 0) (cond ((a0.qA : Int) == 0) ((a0.qB : Int) == 0) false) false) false) false)))))
theorem opG1_ok (a0 : Ope) : Ck n_decode_Formed [.agg [.int .i64 1, .int .i64 a0.qD, .int .i64 a0.qF, .int .u64 a0.qH, .int .u64 a0.qA, .int .u64 a0.qB]] (.bool (opG1 a0)) := by
  unfold opG1
  cases h0 : (decide ((a0.qD : Int) < 0)) with
  | false =>
    cases h1 : (decide ((a0.qD : Int) > 255)) with
    | false =>
      cases h2 : (decide ((a0.qF : Int) < 0)) with
      | false =>
        cases h3 : (decide ((a0.qF : Int) ≥ 3)) with
        | false =>
          cases h4 : ((a0.qH : Int) == 0) with
          | false =>
            exact rOk1 [.s, .s, .s, .s, .s, .s, .s, .o, .o, .o, .o, .o, .o, .o, .o, .o, .o, .o, .o, .o, .s, .s, .s, .s] (obsE h0 (obsE h0 (obsE h0 (obsE h0 (obsE h1 (obsE h1 (obsE h1 (obsE h1 (obsE h2 (obsE h2 (obsE h2 (obsE h2 (obsE h3 (obsE h4 (obsE h4 (obsE h4 (obsE h4 (obsE h4 obsN)))))))))))))))))) rfl rfl (by kernel_rfl)
          | true =>
            cases h5 : ((a0.qD : Int) == 0) with
            | false =>
              exact rOk1 [.s, .s, .s, .s, .s, .s, .s, .o, .o, .o, .o, .o, .o, .o, .o, .o, .o, .o, .o, .o, .s, .s, .s, .s, .o, .o, .o, .s, .s, .s, .o, .s] (obsE h0 (obsE h0 (obsE h0 (obsE h0 (obsE h1 (obsE h1 (obsE h1 (obsE h1 (obsE h2 (obsE h2 (obsE h2 (obsE h2 (obsE h3 (obsE h4 (obsE h4 (obsE h4 (obsE h4 (obsE h4 (obsE h5 (obsE h5 (obsE h5 (obsE h5 (obsE h5 obsN))))))))))))))))))))))) rfl rfl (by kernel_rfl)
            | true =>
              cases h6 : ((a0.qF : Int) == 0) with
              | false =>
                exact rOk1 [.s, .s, .s, .s, .s, .s, .s, .o, .o, .o, .o, .o, .o, .o, .o, .o, .o, .o, .o, .o, .s, .s, .s, .s, .o, .o, .o, .s, .s, .s, .o, .s, .o, .o, .o, .o, .s, .s, .s, .o, .s] (obsE h0 (obsE h0 (obsE h0 (obsE h0 (obsE h1 (obsE h1 (obsE h1 (obsE h1 (obsE h2 (obsE h2 (obsE h2 (obsE h2 (obsE h3 (obsE h4 (obsE h4 (obsE h4 (obsE h4 (obsE h4 (obsE h5 (obsE h5 (obsE h5 (obsE h5 (obsE h5 (obsE h6 (obsE h6 (obsE h6 (obsE h6 (obsE h6 obsN)))))))))))))))))))))))))))) rfl rfl (by kernel_rfl)
              | true =>
                cases h7 : ((a0.qA : Int) == 0) with
                | false =>
                  exact rOk1 [.s, .s, .s, .s, .s, .s, .s, .o, .o, .o, .o, .o, .o, .o, .o, .o, .o, .o, .o, .o, .s, .s, .s, .s, .o, .o, .o, .s, .s, .s, .o, .s, .o, .o, .o, .o, .s, .s, .s, .o, .s, .o, .o, .o, .o, .s, .s, .s, .o, .s] (obsE h0 (obsE h0 (obsE h0 (obsE h0 (obsE h1 (obsE h1 (obsE h1 (obsE h1 (obsE h2 (obsE h2 (obsE h2 (obsE h2 (obsE h3 (obsE h4 (obsE h4 (obsE h4 (obsE h4 (obsE h4 (obsE h5 (obsE h5 (obsE h5 (obsE h5 (obsE h5 (obsE h6 (obsE h6 (obsE h6 (obsE h6 (obsE h6 (obsE h7 (obsE h7 (obsE h7 (obsE h7 (obsE h7 obsN))))))))))))))))))))))))))))))))) rfl rfl (by kernel_rfl)
                | true =>
                  exact rOk1 [.s, .s, .s, .s, .s, .s, .s, .o, .o, .o, .o, .o, .o, .o, .o, .o, .o, .o, .o, .o, .s, .s, .s, .s, .o, .o, .o, .s, .s, .s, .o, .s, .o, .o, .o, .o, .s, .s, .s, .o, .s, .o, .o, .o, .o, .s, .s, .s, .o, .s, .o, .o, .o, .o, .s, .s, .s, .o, .s] (obsE h0 (obsE h0 (obsE h0 (obsE h0 (obsE h1 (obsE h1 (obsE h1 (obsE h1 (obsE h2 (obsE h2 (obsE h2 (obsE h2 (obsE h3 (obsE h4 (obsE h4 (obsE h4 (obsE h4 (obsE h4 (obsE h5 (obsE h5 (obsE h5 (obsE h5 (obsE h5 (obsE h6 (obsE h6 (obsE h6 (obsE h6 (obsE h6 (obsE h7 (obsE h7 (obsE h7 (obsE h7 (obsE h7 obsN))))))))))))))))))))))))))))))))) rfl rfl (by kernel_rfl)
        | true =>
          exact rOk1 [.s, .s, .s, .s, .s, .s, .s] (obsE h0 (obsE h0 (obsE h0 (obsE h0 (obsE h1 (obsE h1 (obsE h1 (obsE h1 (obsE h2 (obsE h2 (obsE h2 (obsE h2 (obsE h3 obsN))))))))))))) rfl rfl (by kernel_rfl)
      | true =>
        exact rOk1 [.s, .s, .s, .s, .s, .s, .s] (obsE h0 (obsE h0 (obsE h0 (obsE h0 (obsE h1 (obsE h1 (obsE h1 (obsE h1 (obsE h2 (obsE h2 (obsE h2 (obsE h2 obsN)))))))))))) rfl rfl (by kernel_rfl)
    | true =>
      exact rOk1 [.s, .s, .s, .s, .s, .s, .s] (obsE h0 (obsE h0 (obsE h0 (obsE h0 (obsE h1 (obsE h1 (obsE h1 (obsE h1 obsN)))))))) rfl rfl (by kernel_rfl)
  | true =>
    exact rOk1 [.s, .s, .s, .s, .s, .s, .s] (obsE h0 (obsE h0 (obsE h0 (obsE h0 obsN)))) rfl rfl (by kernel_rfl)
def opG2 (a0 : Ope) : Bool := (cond (decide ((a0.qD : Int) < 0)) false (cond (decide ((a0.qD : Int) > 255)) false (cond (decide ((a0.qF : Int) < 0)) false (cond (decide ((a0.qF : Int) ≥ 3)) false (cond ((a0.qD : Int) == 0) (cond ((a0.qF : Int) == 0) (cond ((a0.qA : Int) == 0) ((a0.qB : Int) == 0) false) false) false)))))
theorem opG2_ok (a0 : Ope) : Ck n_decode_Formed [.agg [.int .i64 2, .int .i64 a0.qD, .int .i64 a0.qF, .int .u64 a0.qH, .int .u64 a0.qA, .int .u64 a0.qB]] (.bool (opG2 a0)) := by
  unfold opG2
  cases h0 : (decide ((a0.qD : Int) < 0)) with
  | false =>
    cases h1 : (decide ((a0.qD : Int) > 255)) with
    | false =>
      cases h2 : (decide ((a0.qF : Int) < 0)) with
      | false =>
        cases h3 : (decide ((a0.qF : Int) ≥ 3)) with
        | false =>
          cases h4 : ((a0.qD : Int) == 0) with
          | false =>
            exact rOk1 [.s, .s, .s, .s, .s, .s, .s, .o, .o, .o, .o, .o, .o, .o, .o, .o, .o, .o, .o, .o, .s, .s, .s, .s, .s, .s, .s, .s, .s, .s, .s, .s, .s] (obsE h0 (obsE h0 (obsE h0 (obsE h0 (obsE h1 (obsE h1 (obsE h1 (obsE h1 (obsE h2 (obsE h2 (obsE h2 (obsE h2 (obsE h3 (obsE h4 (obsE h4 (obsE h4 (obsE h4 (obsE h4 obsN)))))))))))))))))) rfl rfl (by kernel_rfl)
          | true =>
            cases h5 : ((a0.qF : Int) == 0) with
            | false =>
              exact rOk1 [.s, .s, .s, .s, .s, .s, .s, .o, .o, .o, .o, .o, .o, .o, .o, .o, .o, .o, .o, .o, .s, .s, .s, .s, .s, .s, .s, .s, .s, .s, .s, .s, .s, .o, .o, .o, .s, .s, .s, .o, .s] (obsE h0 (obsE h0 (obsE h0 (obsE h0 (obsE h1 (obsE h1 (obsE h1 (obsE h1 (obsE h2 (obsE h2 (obsE h2 (obsE h2 (obsE h3 (obsE h4 (obsE h4 (obsE h4 (obsE h4 (obsE h4 (obsE h5 (obsE h5 (obsE h5 (obsE h5 (obsE h5 obsN))))))))))))))))))))))) rfl rfl (by kernel_rfl)
            | true =>
              cases h6 : ((a0.qA : Int) == 0) with
              | false =>
                exact rOk1 [.s, .s, .s, .s, .s, .s, .s, .o, .o, .o, .o, .o, .o, .o, .o, .o, .o, .o, .o, .o, .s, .s, .s, .s, .s, .s, .s, .s, .s, .s, .s, .s, .s, .o, .o, .o, .s, .s, .s, .o, .s, .o, .o, .o, .o, .s, .s, .s, .o, .s] (obsE h0 (obsE h0 (obsE h0 (obsE h0 (obsE h1 (obsE h1 (obsE h1 (obsE h1 (obsE h2 (obsE h2 (obsE h2 (obsE h2 (obsE h3 (obsE h4 (obsE h4 (obsE h4 (obsE h4 (obsE h4 (obsE h5 (obsE h5 (obsE h5 (obsE h5 (obsE h5 (obsE h6 (obsE h6 (obsE h6 (obsE h6 (obsE h6 obsN)))))))))))))))))))))))))))) rfl rfl (by kernel_rfl)
              | true =>
                exact rOk1 [.s, .s, .s, .s, .s, .s, .s, .o, .o, .o, .o, .o, .o, .o, .o, .o, .o, .o, .o, .o, .s, .s, .s, .s, .s, .s, .s, .s, .s, .s, .s, .s, .s, .o, .o, .o, .s, .s, .s, .o, .s, .o, .o, .o, .o, .s, .s, .s, .o, .s, .o, .o, .o, .o, .s, .s, .s, .o, .s] (obsE h0 (obsE h0 (obsE h0 (obsE h0 (obsE h1 (obsE h1 (obsE h1 (obsE h1 (obsE h2 (obsE h2 (obsE h2 (obsE h2 (obsE h3 (obsE h4 (obsE h4 (obsE h4 (obsE h4 (obsE h4 (obsE h5 (obsE h5 (obsE h5 (obsE h5 (obsE h5 (obsE h6 (obsE h6 (obsE h6 (obsE h6 (obsE h6 obsN)))))))))))))))))))))))))))) rfl rfl (by kernel_rfl)
        | true =>
          exact rOk1 [.s, .s, .s, .s, .s, .s, .s] (obsE h0 (obsE h0 (obsE h0 (obsE h0 (obsE h1 (obsE h1 (obsE h1 (obsE h1 (obsE h2 (obsE h2 (obsE h2 (obsE h2 (obsE h3 obsN))))))))))))) rfl rfl (by kernel_rfl)
      | true =>
        exact rOk1 [.s, .s, .s, .s, .s, .s, .s] (obsE h0 (obsE h0 (obsE h0 (obsE h0 (obsE h1 (obsE h1 (obsE h1 (obsE h1 (obsE h2 (obsE h2 (obsE h2 (obsE h2 obsN)))))))))))) rfl rfl (by kernel_rfl)
    | true =>
      exact rOk1 [.s, .s, .s, .s, .s, .s, .s] (obsE h0 (obsE h0 (obsE h0 (obsE h0 (obsE h1 (obsE h1 (obsE h1 (obsE h1 obsN)))))))) rfl rfl (by kernel_rfl)
  | true =>
    exact rOk1 [.s, .s, .s, .s, .s, .s, .s] (obsE h0 (obsE h0 (obsE h0 (obsE h0 obsN)))) rfl rfl (by kernel_rfl)
def opG3 (a0 : Ope) : Bool := (cond (decide ((a0.qD : Int) < 0)) false (cond (decide ((a0.qD : Int) > 255)) false (cond (decide ((a0.qF : Int) < 0)) false (cond (decide ((a0.qF : Int) ≥ 3)) false (cond ((a0.qD : Int) == 0) (cond ((a0.qA : Int) == 0) ((a0.qB : Int) == 0) false) false)))))
theorem opG3_ok (a0 : Ope) : Ck n_decode_Formed [.agg [.int .i64 3, .int .i64 a0.qD, .int .i64 a0.qF, .int .u64 a0.qH, .int .u64 a0.qA, .int .u64 a0.qB]] (.bool (opG3 a0)) := by
  unfold opG3
  cases h0 : (decide ((a0.qD : Int) < 0)) with
  | false =>
    cases h1 : (decide ((a0.qD : Int) > 255)) with
    | false =>
      cases h2 : (decide ((a0.qF : Int) < 0)) with
      | false =>
        cases h3 : (decide ((a0.qF : Int) ≥ 3)) with
        | false =>
          cases h4 : ((a0.qD : Int) == 0) with
          | false =>
            exact rOk1 [.s, .s, .s, .s, .s, .s, .s, .o, .o, .o, .o, .o, .o, .o, .o, .o, .o, .o, .o, .o, .s, .s, .s, .s, .s, .s, .s, .s, .s, .s, .s, .s, .s] (obsE h0 (obsE h0 (obsE h0 (obsE h0 (obsE h1 (obsE h1 (obsE h1 (obsE h1 (obsE h2 (obsE h2 (obsE h2 (obsE h2 (obsE h3 (obsE h4 (obsE h4 (obsE h4 (obsE h4 (obsE h4 obsN)))))))))))))))))) rfl rfl (by kernel_rfl)
          | true =>
            cases h5 : ((a0.qA : Int) == 0) with
            | false =>
              exact rOk1 [.s, .s, .s, .s, .s, .s, .s, .o, .o, .o, .o, .o, .o, .o, .o, .o, .o, .o, .o, .o, .s, .s, .s, .s, .s, .s, .s, .s, .s, .s, .s, .s, .s, .o, .o, .o, .s, .s, .s, .o, .s, .o, .s, .s, .s, .s, .s, .s, .s, .s, .s] (obsE h0 (obsE h0 (obsE h0 (obsE h0 (obsE h1 (obsE h1 (obsE h1 (obsE h1 (obsE h2 (obsE h2 (obsE h2 (obsE h2 (obsE h3 (obsE h4 (obsE h4 (obsE h4 (obsE h4 (obsE h4 (obsE h5 (obsE h5 (obsE h5 (obsE h5 (obsE h5 obsN))))))))))))))))))))))) rfl rfl (by kernel_rfl)
            | true =>
              exact rOk1 [.s, .s, .s, .s, .s, .s, .s, .o, .o, .o, .o, .o, .o, .o, .o, .o, .o, .o, .o, .o, .s, .s, .s, .s, .s, .s, .s, .s, .s, .s, .s, .s, .s, .o, .o, .o, .s, .s, .s, .o, .s, .o, .s, .s, .s, .s, .s, .s, .s, .s, .s, .o, .o, .o, .s, .s, .s, .o, .s] (obsE h0 (obsE h0 (obsE h0 (obsE h0 (obsE h1 (obsE h1 (obsE h1 (obsE h1 (obsE h2 (obsE h2 (obsE h2 (obsE h2 (obsE h3 (obsE h4 (obsE h4 (obsE h4 (obsE h4 (obsE h4 (obsE h5 (obsE h5 (obsE h5 (obsE h5 (obsE h5 obsN))))))))))))))))))))))) rfl rfl (by kernel_rfl)
        | true =>
          exact rOk1 [.s, .s, .s, .s, .s, .s, .s] (obsE h0 (obsE h0 (obsE h0 (obsE h0 (obsE h1 (obsE h1 (obsE h1 (obsE h1 (obsE h2 (obsE h2 (obsE h2 (obsE h2 (obsE h3 obsN))))))))))))) rfl rfl (by kernel_rfl)
      | true =>
        exact rOk1 [.s, .s, .s, .s, .s, .s, .s] (obsE h0 (obsE h0 (obsE h0 (obsE h0 (obsE h1 (obsE h1 (obsE h1 (obsE h1 (obsE h2 (obsE h2 (obsE h2 (obsE h2 obsN)))))))))))) rfl rfl (by kernel_rfl)
    | true =>
      exact rOk1 [.s, .s, .s, .s, .s, .s, .s] (obsE h0 (obsE h0 (obsE h0 (obsE h0 (obsE h1 (obsE h1 (obsE h1 (obsE h1 obsN)))))))) rfl rfl (by kernel_rfl)
  | true =>
    exact rOk1 [.s, .s, .s, .s, .s, .s, .s] (obsE h0 (obsE h0 (obsE h0 (obsE h0 obsN)))) rfl rfl (by kernel_rfl)
def opG4 (a0 : Ope) : Bool := (cond (decide ((a0.qD : Int) < 0)) false (cond (decide ((a0.qD : Int) > 255)) false (cond (decide ((a0.qF : Int) < 0)) false (cond (decide ((a0.qF : Int) ≥ 3)) false (cond ((a0.qD : Int) == 0) ((a0.qB : Int) == 0) false)))))
theorem opG4_ok (a0 : Ope) : Ck n_decode_Formed [.agg [.int .i64 4, .int .i64 a0.qD, .int .i64 a0.qF, .int .u64 a0.qH, .int .u64 a0.qA, .int .u64 a0.qB]] (.bool (opG4 a0)) := by
  unfold opG4
  cases h0 : (decide ((a0.qD : Int) < 0)) with
  | false =>
    cases h1 : (decide ((a0.qD : Int) > 255)) with
    | false =>
      cases h2 : (decide ((a0.qF : Int) < 0)) with
      | false =>
        cases h3 : (decide ((a0.qF : Int) ≥ 3)) with
        | false =>
          cases h4 : ((a0.qD : Int) == 0) with
          | false =>
            exact rOk1 [.s, .s, .s, .s, .s, .s, .s, .o, .o, .o, .o, .o, .o, .o, .o, .o, .o, .o, .o, .o, .s, .s, .s, .s, .s, .s, .s, .s, .s, .s, .s, .s, .s] (obsE h0 (obsE h0 (obsE h0 (obsE h0 (obsE h1 (obsE h1 (obsE h1 (obsE h1 (obsE h2 (obsE h2 (obsE h2 (obsE h2 (obsE h3 (obsE h4 (obsE h4 (obsE h4 (obsE h4 (obsE h4 obsN)))))))))))))))))) rfl rfl (by kernel_rfl)
          | true =>
            exact rOk1 [.s, .s, .s, .s, .s, .s, .s, .o, .o, .o, .o, .o, .o, .o, .o, .o, .o, .o, .o, .o, .s, .s, .s, .s, .s, .s, .s, .s, .s, .s, .s, .s, .s, .o, .o, .o, .s, .s, .s, .o, .s] (obsE h0 (obsE h0 (obsE h0 (obsE h0 (obsE h1 (obsE h1 (obsE h1 (obsE h1 (obsE h2 (obsE h2 (obsE h2 (obsE h2 (obsE h3 (obsE h4 (obsE h4 (obsE h4 (obsE h4 (obsE h4 obsN)))))))))))))))))) rfl rfl (by kernel_rfl)
        | true =>
          exact rOk1 [.s, .s, .s, .s, .s, .s, .s] (obsE h0 (obsE h0 (obsE h0 (obsE h0 (obsE h1 (obsE h1 (obsE h1 (obsE h1 (obsE h2 (obsE h2 (obsE h2 (obsE h2 (obsE h3 obsN))))))))))))) rfl rfl (by kernel_rfl)
      | true =>
        exact rOk1 [.s, .s, .s, .s, .s, .s, .s] (obsE h0 (obsE h0 (obsE h0 (obsE h0 (obsE h1 (obsE h1 (obsE h1 (obsE h1 (obsE h2 (obsE h2 (obsE h2 (obsE h2 obsN)))))))))))) rfl rfl (by kernel_rfl)
    | true =>
      exact rOk1 [.s, .s, .s, .s, .s, .s, .s] (obsE h0 (obsE h0 (obsE h0 (obsE h0 (obsE h1 (obsE h1 (obsE h1 (obsE h1 obsN)))))))) rfl rfl (by kernel_rfl)
  | true =>
    exact rOk1 [.s, .s, .s, .s, .s, .s, .s] (obsE h0 (obsE h0 (obsE h0 (obsE h0 obsN)))) rfl rfl (by kernel_rfl)
def opG5 (a0 : Ope) : Bool := (cond (decide ((a0.qD : Int) < 0)) false (cond (decide ((a0.qD : Int) > 255)) false (cond (decide ((a0.qF : Int) < 0)) false (cond (decide ((a0.qF : Int) ≥ 3)) false (cond ((a0.qD : Int) == 0) true false)))))
theorem opG5_ok (a0 : Ope) : Ck n_decode_Formed [.agg [.int .i64 5, .int .i64 a0.qD, .int .i64 a0.qF, .int .u64 a0.qH, .int .u64 a0.qA, .int .u64 a0.qB]] (.bool (opG5 a0)) := by
  unfold opG5
  cases h0 : (decide ((a0.qD : Int) < 0)) with
  | false =>
    cases h1 : (decide ((a0.qD : Int) > 255)) with
    | false =>
      cases h2 : (decide ((a0.qF : Int) < 0)) with
      | false =>
        cases h3 : (decide ((a0.qF : Int) ≥ 3)) with
        | false =>
          cases h4 : ((a0.qD : Int) == 0) with
          | false =>
            exact rOk1 [.s, .s, .s, .s, .s, .s, .s, .o, .o, .o, .o, .o, .o, .o, .o, .o, .o, .o, .o, .o, .s, .s, .s, .s, .s, .s, .s, .s, .s, .s, .s, .s, .s] (obsE h0 (obsE h0 (obsE h0 (obsE h0 (obsE h1 (obsE h1 (obsE h1 (obsE h1 (obsE h2 (obsE h2 (obsE h2 (obsE h2 (obsE h3 (obsE h4 (obsE h4 (obsE h4 (obsE h4 (obsE h4 obsN)))))))))))))))))) rfl rfl (by kernel_rfl)
          | true =>
            exact rOk1 [.s, .s, .s, .s, .s, .s, .s, .o, .o, .o, .o, .o, .o, .o, .o, .o, .o, .o, .o, .o, .s, .s, .s, .s, .s, .s, .s, .s, .s, .s, .s, .s, .s, .o, .o, .o, .s, .s, .s, .o, .s] (obsE h0 (obsE h0 (obsE h0 (obsE h0 (obsE h1 (obsE h1 (obsE h1 (obsE h1 (obsE h2 (obsE h2 (obsE h2 (obsE h2 (obsE h3 (obsE h4 (obsE h4 (obsE h4 (obsE h4 (obsE h4 obsN)))))))))))))))))) rfl rfl (by kernel_rfl)
        | true =>
          exact rOk1 [.s, .s, .s, .s, .s, .s, .s] (obsE h0 (obsE h0 (obsE h0 (obsE h0 (obsE h1 (obsE h1 (obsE h1 (obsE h1 (obsE h2 (obsE h2 (obsE h2 (obsE h2 (obsE h3 obsN))))))))))))) rfl rfl (by kernel_rfl)
      | true =>
        exact rOk1 [.s, .s, .s, .s, .s, .s, .s] (obsE h0 (obsE h0 (obsE h0 (obsE h0 (obsE h1 (obsE h1 (obsE h1 (obsE h1 (obsE h2 (obsE h2 (obsE h2 (obsE h2 obsN)))))))))))) rfl rfl (by kernel_rfl)
    | true =>
      exact rOk1 [.s, .s, .s, .s, .s, .s, .s] (obsE h0 (obsE h0 (obsE h0 (obsE h0 (obsE h1 (obsE h1 (obsE h1 (obsE h1 obsN)))))))) rfl rfl (by kernel_rfl)
  | true =>
    exact rOk1 [.s, .s, .s, .s, .s, .s, .s] (obsE h0 (obsE h0 (obsE h0 (obsE h0 obsN)))) rfl rfl (by kernel_rfl)
def opG6 (a0 : Ope) : Bool := (cond (decide ((a0.qD : Int) < 0)) false (cond (decide ((a0.qD : Int) > 255)) false (cond (decide ((a0.qF : Int) < 0)) false (cond (decide ((a0.qF : Int) ≥ 3)) false (cond ((a0.qH : Int) == 0) (cond ((a0.qD : Int) == 0) (cond ((a0.qF : Int) == 0) (cond ((a0.qA : Int) == 0) ((a0.qB : Int) == 0) false) false) false) false)))))
theorem opG6_ok (a0 : Ope) : Ck n_decode_Formed [.agg [.int .i64 6, .int .i64 a0.qD, .int .i64 a0.qF, .int .u64 a0.qH, .int .u64 a0.qA, .int .u64 a0.qB]] (.bool (opG6 a0)) := by
  unfold opG6
  cases h0 : (decide ((a0.qD : Int) < 0)) with
  | false =>
    cases h1 : (decide ((a0.qD : Int) > 255)) with
    | false =>
      cases h2 : (decide ((a0.qF : Int) < 0)) with
      | false =>
        cases h3 : (decide ((a0.qF : Int) ≥ 3)) with
        | false =>
          cases h4 : ((a0.qH : Int) == 0) with
          | false =>
            exact rOk1 [.s, .s, .s, .s, .s, .s, .s, .o, .o, .o, .o, .o, .o, .o, .o, .o, .o, .o, .o, .o, .s, .s, .s, .s] (obsE h0 (obsE h0 (obsE h0 (obsE h0 (obsE h1 (obsE h1 (obsE h1 (obsE h1 (obsE h2 (obsE h2 (obsE h2 (obsE h2 (obsE h3 (obsE h4 (obsE h4 (obsE h4 (obsE h4 (obsE h4 obsN)))))))))))))))))) rfl rfl (by kernel_rfl)
          | true =>
            cases h5 : ((a0.qD : Int) == 0) with
            | false =>
              exact rOk1 [.s, .s, .s, .s, .s, .s, .s, .o, .o, .o, .o, .o, .o, .o, .o, .o, .o, .o, .o, .o, .s, .s, .s, .s, .o, .o, .o, .s, .s, .s, .o, .s] (obsE h0 (obsE h0 (obsE h0 (obsE h0 (obsE h1 (obsE h1 (obsE h1 (obsE h1 (obsE h2 (obsE h2 (obsE h2 (obsE h2 (obsE h3 (obsE h4 (obsE h4 (obsE h4 (obsE h4 (obsE h4 (obsE h5 (obsE h5 (obsE h5 (obsE h5 (obsE h5 obsN))))))))))))))))))))))) rfl rfl (by kernel_rfl)
            | true =>
              cases h6 : ((a0.qF : Int) == 0) with
              | false =>
                exact rOk1 [.s, .s, .s, .s, .s, .s, .s, .o, .o, .o, .o, .o, .o, .o, .o, .o, .o, .o, .o, .o, .s, .s, .s, .s, .o, .o, .o, .s, .s, .s, .o, .s, .o, .o, .o, .o, .s, .s, .s, .o, .s] (obsE h0 (obsE h0 (obsE h0 (obsE h0 (obsE h1 (obsE h1 (obsE h1 (obsE h1 (obsE h2 (obsE h2 (obsE h2 (obsE h2 (obsE h3 (obsE h4 (obsE h4 (obsE h4 (obsE h4 (obsE h4 (obsE h5 (obsE h5 (obsE h5 (obsE h5 (obsE h5 (obsE h6 (obsE h6 (obsE h6 (obsE h6 (obsE h6 obsN)))))))))))))))))))))))))))) rfl rfl (by kernel_rfl)
              | true =>
                cases h7 : ((a0.qA : Int) == 0) with
                | false =>
                  exact rOk1 [.s, .s, .s, .s, .s, .s, .s, .o, .o, .o, .o, .o, .o, .o, .o, .o, .o, .o, .o, .o, .s, .s, .s, .s, .o, .o, .o, .s, .s, .s, .o, .s, .o, .o, .o, .o, .s, .s, .s, .o, .s, .o, .o, .o, .o, .s, .s, .s, .o, .s] (obsE h0 (obsE h0 (obsE h0 (obsE h0 (obsE h1 (obsE h1 (obsE h1 (obsE h1 (obsE h2 (obsE h2 (obsE h2 (obsE h2 (obsE h3 (obsE h4 (obsE h4 (obsE h4 (obsE h4 (obsE h4 (obsE h5 (obsE h5 (obsE h5 (obsE h5 (obsE h5 (obsE h6 (obsE h6 (obsE h6 (obsE h6 (obsE h6 (obsE h7 (obsE h7 (obsE h7 (obsE h7 (obsE h7 obsN))))))))))))))))))))))))))))))))) rfl rfl (by kernel_rfl)
                | true =>
                  exact rOk1 [.s, .s, .s, .s, .s, .s, .s, .o, .o, .o, .o, .o, .o, .o, .o, .o, .o, .o, .o, .o, .s, .s, .s, .s, .o, .o, .o, .s, .s, .s, .o, .s, .o, .o, .o, .o, .s, .s, .s, .o, .s, .o, .o, .o, .o, .s, .s, .s, .o, .s, .o, .o, .o, .o, .s, .s, .s, .o, .s] (obsE h0 (obsE h0 (obsE h0 (obsE h0 (obsE h1 (obsE h1 (obsE h1 (obsE h1 (obsE h2 (obsE h2 (obsE h2 (obsE h2 (obsE h3 (obsE h4 (obsE h4 (obsE h4 (obsE h4 (obsE h4 (obsE h5 (obsE h5 (obsE h5 (obsE h5 (obsE h5 (obsE h6 (obsE h6 (obsE h6 (obsE h6 (obsE h6 (obsE h7 (obsE h7 (obsE h7 (obsE h7 (obsE h7 obsN))))))))))))))))))))))))))))))))) rfl rfl (by kernel_rfl)
        | true =>
          exact rOk1 [.s, .s, .s, .s, .s, .s, .s] (obsE h0 (obsE h0 (obsE h0 (obsE h0 (obsE h1 (obsE h1 (obsE h1 (obsE h1 (obsE h2 (obsE h2 (obsE h2 (obsE h2 (obsE h3 obsN))))))))))))) rfl rfl (by kernel_rfl)
      | true =>
        exact rOk1 [.s, .s, .s, .s, .s, .s, .s] (obsE h0 (obsE h0 (obsE h0 (obsE h0 (obsE h1 (obsE h1 (obsE h1 (obsE h1 (obsE h2 (obsE h2 (obsE h2 (obsE h2 obsN)))))))))))) rfl rfl (by kernel_rfl)
    | true =>
      exact rOk1 [.s, .s, .s, .s, .s, .s, .s] (obsE h0 (obsE h0 (obsE h0 (obsE h0 (obsE h1 (obsE h1 (obsE h1 (obsE h1 obsN)))))))) rfl rfl (by kernel_rfl)
  | true =>
    exact rOk1 [.s, .s, .s, .s, .s, .s, .s] (obsE h0 (obsE h0 (obsE h0 (obsE h0 obsN)))) rfl rfl (by kernel_rfl)
def opG7 (a0 : Ope) : Bool := (cond (decide ((a0.qD : Int) < 0)) false (cond (decide ((a0.qD : Int) > 255)) false (cond (decide ((a0.qF : Int) < 0)) false (cond (decide ((a0.qF : Int) ≥ 3)) false (cond ((a0.qH : Int) == 0) (cond ((a0.qF : Int) == 0) ((a0.qB : Int) == 0) false) false)))))
theorem opG7_ok (a0 : Ope) : Ck n_decode_Formed [.agg [.int .i64 7, .int .i64 a0.qD, .int .i64 a0.qF, .int .u64 a0.qH, .int .u64 a0.qA, .int .u64 a0.qB]] (.bool (opG7 a0)) := by
  unfold opG7
  cases h0 : (decide ((a0.qD : Int) < 0)) with
  | false =>
    cases h1 : (decide ((a0.qD : Int) > 255)) with
    | false =>
      cases h2 : (decide ((a0.qF : Int) < 0)) with
      | false =>
        cases h3 : (decide ((a0.qF : Int) ≥ 3)) with
        | false =>
          cases h4 : ((a0.qH : Int) == 0) with
          | false =>
            exact rOk1 [.s, .s, .s, .s, .s, .s, .s, .o, .o, .o, .o, .o, .o, .o, .o, .o, .o, .o, .o, .o, .s, .s, .s, .s] (obsE h0 (obsE h0 (obsE h0 (obsE h0 (obsE h1 (obsE h1 (obsE h1 (obsE h1 (obsE h2 (obsE h2 (obsE h2 (obsE h2 (obsE h3 (obsE h4 (obsE h4 (obsE h4 (obsE h4 (obsE h4 obsN)))))))))))))))))) rfl rfl (by kernel_rfl)
          | true =>
            cases h5 : ((a0.qF : Int) == 0) with
            | false =>
              exact rOk1 [.s, .s, .s, .s, .s, .s, .s, .o, .o, .o, .o, .o, .o, .o, .o, .o, .o, .o, .o, .o, .s, .s, .s, .s, .o, .o, .o, .s, .s, .s, .o, .s, .o, .s, .s, .s, .s, .s, .s, .s, .s, .s] (obsE h0 (obsE h0 (obsE h0 (obsE h0 (obsE h1 (obsE h1 (obsE h1 (obsE h1 (obsE h2 (obsE h2 (obsE h2 (obsE h2 (obsE h3 (obsE h4 (obsE h4 (obsE h4 (obsE h4 (obsE h4 (obsE h5 (obsE h5 (obsE h5 (obsE h5 (obsE h5 obsN))))))))))))))))))))))) rfl rfl (by kernel_rfl)
            | true =>
              exact rOk1 [.s, .s, .s, .s, .s, .s, .s, .o, .o, .o, .o, .o, .o, .o, .o, .o, .o, .o, .o, .o, .s, .s, .s, .s, .o, .o, .o, .s, .s, .s, .o, .s, .o, .s, .s, .s, .s, .s, .s, .s, .s, .s, .o, .o, .o, .s, .s, .s, .o, .s] (obsE h0 (obsE h0 (obsE h0 (obsE h0 (obsE h1 (obsE h1 (obsE h1 (obsE h1 (obsE h2 (obsE h2 (obsE h2 (obsE h2 (obsE h3 (obsE h4 (obsE h4 (obsE h4 (obsE h4 (obsE h4 (obsE h5 (obsE h5 (obsE h5 (obsE h5 (obsE h5 obsN))))))))))))))))))))))) rfl rfl (by kernel_rfl)
        | true =>
          exact rOk1 [.s, .s, .s, .s, .s, .s, .s] (obsE h0 (obsE h0 (obsE h0 (obsE h0 (obsE h1 (obsE h1 (obsE h1 (obsE h1 (obsE h2 (obsE h2 (obsE h2 (obsE h2 (obsE h3 obsN))))))))))))) rfl rfl (by kernel_rfl)
      | true =>
        exact rOk1 [.s, .s, .s, .s, .s, .s, .s] (obsE h0 (obsE h0 (obsE h0 (obsE h0 (obsE h1 (obsE h1 (obsE h1 (obsE h1 (obsE h2 (obsE h2 (obsE h2 (obsE h2 obsN)))))))))))) rfl rfl (by kernel_rfl)
    | true =>
      exact rOk1 [.s, .s, .s, .s, .s, .s, .s] (obsE h0 (obsE h0 (obsE h0 (obsE h0 (obsE h1 (obsE h1 (obsE h1 (obsE h1 obsN)))))))) rfl rfl (by kernel_rfl)
  | true =>
    exact rOk1 [.s, .s, .s, .s, .s, .s, .s] (obsE h0 (obsE h0 (obsE h0 (obsE h0 obsN)))) rfl rfl (by kernel_rfl)
def opG8 (a0 : Ope) : Bool := (cond (decide ((a0.qD : Int) < 0)) false (cond (decide ((a0.qD : Int) > 255)) false (cond (decide ((a0.qF : Int) < 0)) false (cond (decide ((a0.qF : Int) ≥ 3)) false (cond ((a0.qH : Int) == 0) (cond ((a0.qF : Int) == 0) (cond ((a0.qA : Int) == 0) ((a0.qB : Int) == 0) false) false) false)))))
theorem opG8_ok (a0 : Ope) : Ck n_decode_Formed [.agg [.int .i64 8, .int .i64 a0.qD, .int .i64 a0.qF, .int .u64 a0.qH, .int .u64 a0.qA, .int .u64 a0.qB]] (.bool (opG8 a0)) := by
  unfold opG8
  cases h0 : (decide ((a0.qD : Int) < 0)) with
  | false =>
    cases h1 : (decide ((a0.qD : Int) > 255)) with
    | false =>
      cases h2 : (decide ((a0.qF : Int) < 0)) with
      | false =>
        cases h3 : (decide ((a0.qF : Int) ≥ 3)) with
        | false =>
          cases h4 : ((a0.qH : Int) == 0) with
          | false =>
            exact rOk1 [.s, .s, .s, .s, .s, .s, .s, .o, .o, .o, .o, .o, .o, .o, .o, .o, .o, .o, .o, .o, .s, .s, .s, .s] (obsE h0 (obsE h0 (obsE h0 (obsE h0 (obsE h1 (obsE h1 (obsE h1 (obsE h1 (obsE h2 (obsE h2 (obsE h2 (obsE h2 (obsE h3 (obsE h4 (obsE h4 (obsE h4 (obsE h4 (obsE h4 obsN)))))))))))))))))) rfl rfl (by kernel_rfl)
          | true =>
            cases h5 : ((a0.qF : Int) == 0) with
            | false =>
              exact rOk1 [.s, .s, .s, .s, .s, .s, .s, .o, .o, .o, .o, .o, .o, .o, .o, .o, .o, .o, .o, .o, .s, .s, .s, .s, .o, .o, .o, .s, .s, .s, .o, .s, .o, .s, .s, .s, .s, .s, .s, .s, .s, .s] (obsE h0 (obsE h0 (obsE h0 (obsE h0 (obsE h1 (obsE h1 (obsE h1 (obsE h1 (obsE h2 (obsE h2 (obsE h2 (obsE h2 (obsE h3 (obsE h4 (obsE h4 (obsE h4 (obsE h4 (obsE h4 (obsE h5 (obsE h5 (obsE h5 (obsE h5 (obsE h5 obsN))))))))))))))))))))))) rfl rfl (by kernel_rfl)
            | true =>
              cases h6 : ((a0.qA : Int) == 0) with
              | false =>
                exact rOk1 [.s, .s, .s, .s, .s, .s, .s, .o, .o, .o, .o, .o, .o, .o, .o, .o, .o, .o, .o, .o, .s, .s, .s, .s, .o, .o, .o, .s, .s, .s, .o, .s, .o, .s, .s, .s, .s, .s, .s, .s, .s, .s, .o, .o, .o, .s, .s, .s, .o, .s] (obsE h0 (obsE h0 (obsE h0 (obsE h0 (obsE h1 (obsE h1 (obsE h1 (obsE h1 (obsE h2 (obsE h2 (obsE h2 (obsE h2 (obsE h3 (obsE h4 (obsE h4 (obsE h4 (obsE h4 (obsE h4 (obsE h5 (obsE h5 (obsE h5 (obsE h5 (obsE h5 (obsE h6 (obsE h6 (obsE h6 (obsE h6 (obsE h6 obsN)))))))))))))))))))))))))))) rfl rfl (by kernel_rfl)
              | true =>
                exact rOk1 [.s, .s, .s, .s, .s, .s, .s, .o, .o, .o, .o, .o, .o, .o, .o, .o, .o, .o, .o, .o, .s, .s, .s, .s, .o, .o, .o, .s, .s, .s, .o, .s, .o, .s, .s, .s, .s, .s, .s, .s, .s, .s, .o, .o, .o, .s, .s, .s, .o, .s, .o, .o, .o, .o, .s, .s, .s, .o, .s] (obsE h0 (obsE h0 (obsE h0 (obsE h0 (obsE h1 (obsE h1 (obsE h1 (obsE h1 (obsE h2 (obsE h2 (obsE h2 (obsE h2 (obsE h3 (obsE h4 (obsE h4 (obsE h4 (obsE h4 (obsE h4 (obsE h5 (obsE h5 (obsE h5 (obsE h5 (obsE h5 (obsE h6 (obsE h6 (obsE h6 (obsE h6 (obsE h6 obsN)))))))))))))))))))))))))))) rfl rfl (by kernel_rfl)
        | true =>
          exact rOk1 [.s, .s, .s, .s, .s, .s, .s] (obsE h0 (obsE h0 (obsE h0 (obsE h0 (obsE h1 (obsE h1 (obsE h1 (obsE h1 (obsE h2 (obsE h2 (obsE h2 (obsE h2 (obsE h3 obsN))))))))))))) rfl rfl (by kernel_rfl)
      | true =>
        exact rOk1 [.s, .s, .s, .s, .s, .s, .s] (obsE h0 (obsE h0 (obsE h0 (obsE h0 (obsE h1 (obsE h1 (obsE h1 (obsE h1 (obsE h2 (obsE h2 (obsE h2 (obsE h2 obsN)))))))))))) rfl rfl (by kernel_rfl)
    | true =>
      exact rOk1 [.s, .s, .s, .s, .s, .s, .s] (obsE h0 (obsE h0 (obsE h0 (obsE h0 (obsE h1 (obsE h1 (obsE h1 (obsE h1 obsN)))))))) rfl rfl (by kernel_rfl)
  | true =>
    exact rOk1 [.s, .s, .s, .s, .s, .s, .s] (obsE h0 (obsE h0 (obsE h0 (obsE h0 obsN)))) rfl rfl (by kernel_rfl)
def opG9 (a0 : Ope) : Bool := (cond (decide ((a0.qD : Int) < 0)) false (cond (decide ((a0.qD : Int) > 255)) false (cond (decide ((a0.qF : Int) < 0)) false (cond (decide ((a0.qF : Int) ≥ 3)) false (cond ((a0.qH : Int) == 0) (cond ((a0.qD : Int) == 0) (cond ((a0.qF : Int) == 0) (cond ((a0.qA : Int) == 0) ((a0.qB : Int) == 0) false) false) false) false)))))
theorem opG9_ok (a0 : Ope) : Ck n_decode_Formed [.agg [.int .i64 9, .int .i64 a0.qD, .int .i64 a0.qF, .int .u64 a0.qH, .int .u64 a0.qA, .int .u64 a0.qB]] (.bool (opG9 a0)) := by
  unfold opG9
  cases h0 : (decide ((a0.qD : Int) < 0)) with
  | false =>
    cases h1 : (decide ((a0.qD : Int) > 255)) with
    | false =>
      cases h2 : (decide ((a0.qF : Int) < 0)) with
      | false =>
        cases h3 : (decide ((a0.qF : Int) ≥ 3)) with
        | false =>
          cases h4 : ((a0.qH : Int) == 0) with
          | false =>
            exact rOk1 [.s, .s, .s, .s, .s, .s, .s, .o, .o, .o, .o, .o, .o, .o, .o, .o, .o, .o, .o, .o, .s, .s, .s, .s] (obsE h0 (obsE h0 (obsE h0 (obsE h0 (obsE h1 (obsE h1 (obsE h1 (obsE h1 (obsE h2 (obsE h2 (obsE h2 (obsE h2 (obsE h3 (obsE h4 (obsE h4 (obsE h4 (obsE h4 (obsE h4 obsN)))))))))))))))))) rfl rfl (by kernel_rfl)
          | true =>
            cases h5 : ((a0.qD : Int) == 0) with
            | false =>
              exact rOk1 [.s, .s, .s, .s, .s, .s, .s, .o, .o, .o, .o, .o, .o, .o, .o, .o, .o, .o, .o, .o, .s, .s, .s, .s, .o, .o, .o, .s, .s, .s, .o, .s] (obsE h0 (obsE h0 (obsE h0 (obsE h0 (obsE h1 (obsE h1 (obsE h1 (obsE h1 (obsE h2 (obsE h2 (obsE h2 (obsE h2 (obsE h3 (obsE h4 (obsE h4 (obsE h4 (obsE h4 (obsE h4 (obsE h5 (obsE h5 (obsE h5 (obsE h5 (obsE h5 obsN))))))))))))))))))))))) rfl rfl (by kernel_rfl)
            | true =>
              cases h6 : ((a0.qF : Int) == 0) with
              | false =>
                exact rOk1 [.s, .s, .s, .s, .s, .s, .s, .o, .o, .o, .o, .o, .o, .o, .o, .o, .o, .o, .o, .o, .s, .s, .s, .s, .o, .o, .o, .s, .s, .s, .o, .s, .o, .o, .o, .o, .s, .s, .s, .o, .s] (obsE h0 (obsE h0 (obsE h0 (obsE h0 (obsE h1 (obsE h1 (obsE h1 (obsE h1 (obsE h2 (obsE h2 (obsE h2 (obsE h2 (obsE h3 (obsE h4 (obsE h4 (obsE h4 (obsE h4 (obsE h4 (obsE h5 (obsE h5 (obsE h5 (obsE h5 (obsE h5 (obsE h6 (obsE h6 (obsE h6 (obsE h6 (obsE h6 obsN)))))))))))))))))))))))))))) rfl rfl (by kernel_rfl)
              | true =>
                cases h7 : ((a0.qA : Int) == 0) with
                | false =>
                  exact rOk1 [.s, .s, .s, .s, .s, .s, .s, .o, .o, .o, .o, .o, .o, .o, .o, .o, .o, .o, .o, .o, .s, .s, .s, .s, .o, .o, .o, .s, .s, .s, .o, .s, .o, .o, .o, .o, .s, .s, .s, .o, .s, .o, .o, .o, .o, .s, .s, .s, .o, .s] (obsE h0 (obsE h0 (obsE h0 (obsE h0 (obsE h1 (obsE h1 (obsE h1 (obsE h1 (obsE h2 (obsE h2 (obsE h2 (obsE h2 (obsE h3 (obsE h4 (obsE h4 (obsE h4 (obsE h4 (obsE h4 (obsE h5 (obsE h5 (obsE h5 (obsE h5 (obsE h5 (obsE h6 (obsE h6 (obsE h6 (obsE h6 (obsE h6 (obsE h7 (obsE h7 (obsE h7 (obsE h7 (obsE h7 obsN))))))))))))))))))))))))))))))))) rfl rfl (by kernel_rfl)
                | true =>
                  exact rOk1 [.s, .s, .s, .s, .s, .s, .s, .o, .o, .o, .o, .o, .o, .o, .o, .o, .o, .o, .o, .o, .s, .s, .s, .s, .o, .o, .o, .s, .s, .s, .o, .s, .o, .o, .o, .o, .s, .s, .s, .o, .s, .o, .o, .o, .o, .s, .s, .s, .o, .s, .o, .o, .o, .o, .s, .s, .s, .o, .s] (obsE h0 (obsE h0 (obsE h0 (obsE h0 (obsE h1 (obsE h1 (obsE h1 (obsE h1 (obsE h2 (obsE h2 (obsE h2 (obsE h2 (obsE h3 (obsE h4 (obsE h4 (obsE h4 (obsE h4 (obsE h4 (obsE h5 (obsE h5 (obsE h5 (obsE h5 (obsE h5 (obsE h6 (obsE h6 (obsE h6 (obsE h6 (obsE h6 (obsE h7 (obsE h7 (obsE h7 (obsE h7 (obsE h7 obsN))))))))))))))))))))))))))))))))) rfl rfl (by kernel_rfl)
        | true =>
          exact rOk1 [.s, .s, .s, .s, .s, .s, .s] (obsE h0 (obsE h0 (obsE h0 (obsE h0 (obsE h1 (obsE h1 (obsE h1 (obsE h1 (obsE h2 (obsE h2 (obsE h2 (obsE h2 (obsE h3 obsN))))))))))))) rfl rfl (by kernel_rfl)
      | true =>
        exact rOk1 [.s, .s, .s, .s, .s, .s, .s] (obsE h0 (obsE h0 (obsE h0 (obsE h0 (obsE h1 (obsE h1 (obsE h1 (obsE h1 (obsE h2 (obsE h2 (obsE h2 (obsE h2 obsN)))))))))))) rfl rfl (by kernel_rfl)
    | true =>
      exact rOk1 [.s, .s, .s, .s, .s, .s, .s] (obsE h0 (obsE h0 (obsE h0 (obsE h0 (obsE h1 (obsE h1 (obsE h1 (obsE h1 obsN)))))))) rfl rfl (by kernel_rfl)
  | true =>
    exact rOk1 [.s, .s, .s, .s, .s, .s, .s] (obsE h0 (obsE h0 (obsE h0 (obsE h0 obsN)))) rfl rfl (by kernel_rfl)
def opG10 (a0 : Ope) : Bool := (cond (decide ((a0.qD : Int) < 0)) false (cond (decide ((a0.qD : Int) > 255)) false (cond (decide ((a0.qF : Int) < 0)) false (cond (decide ((a0.qF : Int) ≥ 3)) false (cond ((a0.qH : Int) == 0) (cond ((a0.qF : Int) == 0) true false) false)))))
theorem opG10_ok (a0 : Ope) : Ck n_decode_Formed [.agg [.int .i64 10, .int .i64 a0.qD, .int .i64 a0.qF, .int .u64 a0.qH, .int .u64 a0.qA, .int .u64 a0.qB]] (.bool (opG10 a0)) := by
  unfold opG10
  cases h0 : (decide ((a0.qD : Int) < 0)) with
  | false =>
    cases h1 : (decide ((a0.qD : Int) > 255)) with
    | false =>
      cases h2 : (decide ((a0.qF : Int) < 0)) with
      | false =>
        cases h3 : (decide ((a0.qF : Int) ≥ 3)) with
        | false =>
          cases h4 : ((a0.qH : Int) == 0) with
          | false =>
            exact rOk1 [.s, .s, .s, .s, .s, .s, .s, .o, .o, .o, .o, .o, .o, .o, .o, .o, .o, .o, .o, .o, .s, .s, .s, .s] (obsE h0 (obsE h0 (obsE h0 (obsE h0 (obsE h1 (obsE h1 (obsE h1 (obsE h1 (obsE h2 (obsE h2 (obsE h2 (obsE h2 (obsE h3 (obsE h4 (obsE h4 (obsE h4 (obsE h4 (obsE h4 obsN)))))))))))))))))) rfl rfl (by kernel_rfl)
          | true =>
            cases h5 : ((a0.qF : Int) == 0) with
            | false =>
              exact rOk1 [.s, .s, .s, .s, .s, .s, .s, .o, .o, .o, .o, .o, .o, .o, .o, .o, .o, .o, .o, .o, .s, .s, .s, .s, .o, .o, .o, .s, .s, .s, .o, .s, .o, .s, .s, .s, .s, .s, .s, .s, .s, .s] (obsE h0 (obsE h0 (obsE h0 (obsE h0 (obsE h1 (obsE h1 (obsE h1 (obsE h1 (obsE h2 (obsE h2 (obsE h2 (obsE h2 (obsE h3 (obsE h4 (obsE h4 (obsE h4 (obsE h4 (obsE h4 (obsE h5 (obsE h5 (obsE h5 (obsE h5 (obsE h5 obsN))))))))))))))))))))))) rfl rfl (by kernel_rfl)
            | true =>
              exact rOk1 [.s, .s, .s, .s, .s, .s, .s, .o, .o, .o, .o, .o, .o, .o, .o, .o, .o, .o, .o, .o, .s, .s, .s, .s, .o, .o, .o, .s, .s, .s, .o, .s, .o, .s, .s, .s, .s, .s, .s, .s, .s, .s, .o, .o, .o, .s, .s, .s, .o, .s] (obsE h0 (obsE h0 (obsE h0 (obsE h0 (obsE h1 (obsE h1 (obsE h1 (obsE h1 (obsE h2 (obsE h2 (obsE h2 (obsE h2 (obsE h3 (obsE h4 (obsE h4 (obsE h4 (obsE h4 (obsE h4 (obsE h5 (obsE h5 (obsE h5 (obsE h5 (obsE h5 obsN))))))))))))))))))))))) rfl rfl (by kernel_rfl)
        | true =>
          exact rOk1 [.s, .s, .s, .s, .s, .s, .s] (obsE h0 (obsE h0 (obsE h0 (obsE h0 (obsE h1 (obsE h1 (obsE h1 (obsE h1 (obsE h2 (obsE h2 (obsE h2 (obsE h2 (obsE h3 obsN))))))))))))) rfl rfl (by kernel_rfl)
      | true =>
        exact rOk1 [.s, .s, .s, .s, .s, .s, .s] (obsE h0 (obsE h0 (obsE h0 (obsE h0 (obsE h1 (obsE h1 (obsE h1 (obsE h1 (obsE h2 (obsE h2 (obsE h2 (obsE h2 obsN)))))))))))) rfl rfl (by kernel_rfl)
    | true =>
      exact rOk1 [.s, .s, .s, .s, .s, .s, .s] (obsE h0 (obsE h0 (obsE h0 (obsE h0 (obsE h1 (obsE h1 (obsE h1 (obsE h1 obsN)))))))) rfl rfl (by kernel_rfl)
  | true =>
    exact rOk1 [.s, .s, .s, .s, .s, .s, .s] (obsE h0 (obsE h0 (obsE h0 (obsE h0 obsN)))) rfl rfl (by kernel_rfl)
def opG11 (a0 : Ope) : Bool := (cond (decide ((a0.qD : Int) < 0)) false (cond (decide ((a0.qD : Int) > 255)) false (cond (decide ((a0.qF : Int) < 0)) false (cond (decide ((a0.qF : Int) ≥ 3)) false (cond ((a0.qH : Int) == 0) (cond ((a0.qF : Int) == 0) ((a0.qB : Int) == 0) false) false)))))
theorem opG11_ok (a0 : Ope) : Ck n_decode_Formed [.agg [.int .i64 11, .int .i64 a0.qD, .int .i64 a0.qF, .int .u64 a0.qH, .int .u64 a0.qA, .int .u64 a0.qB]] (.bool (opG11 a0)) := by
  unfold opG11
  cases h0 : (decide ((a0.qD : Int) < 0)) with
  | false =>
    cases h1 : (decide ((a0.qD : Int) > 255)) with
    | false =>
      cases h2 : (decide ((a0.qF : Int) < 0)) with
      | false =>
        cases h3 : (decide ((a0.qF : Int) ≥ 3)) with
        | false =>
          cases h4 : ((a0.qH : Int) == 0) with
          | false =>
            exact rOk1 [.s, .s, .s, .s, .s, .s, .s, .o, .o, .o, .o, .o, .o, .o, .o, .o, .o, .o, .o, .o, .s, .s, .s, .s] (obsE h0 (obsE h0 (obsE h0 (obsE h0 (obsE h1 (obsE h1 (obsE h1 (obsE h1 (obsE h2 (obsE h2 (obsE h2 (obsE h2 (obsE h3 (obsE h4 (obsE h4 (obsE h4 (obsE h4 (obsE h4 obsN)))))))))))))))))) rfl rfl (by kernel_rfl)
          | true =>
            cases h5 : ((a0.qF : Int) == 0) with
            | false =>
              exact rOk1 [.s, .s, .s, .s, .s, .s, .s, .o, .o, .o, .o, .o, .o, .o, .o, .o, .o, .o, .o, .o, .s, .s, .s, .s, .o, .o, .o, .s, .s, .s, .o, .s, .o, .s, .s, .s, .s, .s, .s, .s, .s, .s] (obsE h0 (obsE h0 (obsE h0 (obsE h0 (obsE h1 (obsE h1 (obsE h1 (obsE h1 (obsE h2 (obsE h2 (obsE h2 (obsE h2 (obsE h3 (obsE h4 (obsE h4 (obsE h4 (obsE h4 (obsE h4 (obsE h5 (obsE h5 (obsE h5 (obsE h5 (obsE h5 obsN))))))))))))))))))))))) rfl rfl (by kernel_rfl)
            | true =>
              exact rOk1 [.s, .s, .s, .s, .s, .s, .s, .o, .o, .o, .o, .o, .o, .o, .o, .o, .o, .o, .o, .o, .s, .s, .s, .s, .o, .o, .o, .s, .s, .s, .o, .s, .o, .s, .s, .s, .s, .s, .s, .s, .s, .s, .o, .o, .o, .s, .s, .s, .o, .s] (obsE h0 (obsE h0 (obsE h0 (obsE h0 (obsE h1 (obsE h1 (obsE h1 (obsE h1 (obsE h2 (obsE h2 (obsE h2 (obsE h2 (obsE h3 (obsE h4 (obsE h4 (obsE h4 (obsE h4 (obsE h4 (obsE h5 (obsE h5 (obsE h5 (obsE h5 (obsE h5 obsN))))))))))))))))))))))) rfl rfl (by kernel_rfl)
        | true =>
          exact rOk1 [.s, .s, .s, .s, .s, .s, .s] (obsE h0 (obsE h0 (obsE h0 (obsE h0 (obsE h1 (obsE h1 (obsE h1 (obsE h1 (obsE h2 (obsE h2 (obsE h2 (obsE h2 (obsE h3 obsN))))))))))))) rfl rfl (by kernel_rfl)
      | true =>
        exact rOk1 [.s, .s, .s, .s, .s, .s, .s] (obsE h0 (obsE h0 (obsE h0 (obsE h0 (obsE h1 (obsE h1 (obsE h1 (obsE h1 (obsE h2 (obsE h2 (obsE h2 (obsE h2 obsN)))))))))))) rfl rfl (by kernel_rfl)
    | true =>
      exact rOk1 [.s, .s, .s, .s, .s, .s, .s] (obsE h0 (obsE h0 (obsE h0 (obsE h0 (obsE h1 (obsE h1 (obsE h1 (obsE h1 obsN)))))))) rfl rfl (by kernel_rfl)
  | true =>
    exact rOk1 [.s, .s, .s, .s, .s, .s, .s] (obsE h0 (obsE h0 (obsE h0 (obsE h0 obsN)))) rfl rfl (by kernel_rfl)
def opG12 (a0 : Ope) : Bool := (cond (decide ((a0.qD : Int) < 0)) false (cond (decide ((a0.qD : Int) > 255)) false (cond (decide ((a0.qF : Int) < 0)) false (cond (decide ((a0.qF : Int) ≥ 3)) false (cond ((a0.qH : Int) == 0) (cond ((a0.qF : Int) == 0) ((a0.qB : Int) == 0) false) false)))))
theorem opG12_ok (a0 : Ope) : Ck n_decode_Formed [.agg [.int .i64 12, .int .i64 a0.qD, .int .i64 a0.qF, .int .u64 a0.qH, .int .u64 a0.qA, .int .u64 a0.qB]] (.bool (opG12 a0)) := by
  unfold opG12
  cases h0 : (decide ((a0.qD : Int) < 0)) with
  | false =>
    cases h1 : (decide ((a0.qD : Int) > 255)) with
    | false =>
      cases h2 : (decide ((a0.qF : Int) < 0)) with
      | false =>
        cases h3 : (decide ((a0.qF : Int) ≥ 3)) with
        | false =>
          cases h4 : ((a0.qH : Int) == 0) with
          | false =>
            exact rOk1 [.s, .s, .s, .s, .s, .s, .s, .o, .o, .o, .o, .o, .o, .o, .o, .o, .o, .o, .o, .o, .s, .s, .s, .s] (obsE h0 (obsE h0 (obsE h0 (obsE h0 (obsE h1 (obsE h1 (obsE h1 (obsE h1 (obsE h2 (obsE h2 (obsE h2 (obsE h2 (obsE h3 (obsE h4 (obsE h4 (obsE h4 (obsE h4 (obsE h4 obsN)))))))))))))))))) rfl rfl (by kernel_rfl)
          | true =>
            cases h5 : ((a0.qF : Int) == 0) with
            | false =>
              exact rOk1 [.s, .s, .s, .s, .s, .s, .s, .o, .o, .o, .o, .o, .o, .o, .o, .o, .o, .o, .o, .o, .s, .s, .s, .s, .o, .o, .o, .s, .s, .s, .o, .s, .o, .s, .s, .s, .s, .s, .s, .s, .s, .s] (obsE h0 (obsE h0 (obsE h0 (obsE h0 (obsE h1 (obsE h1 (obsE h1 (obsE h1 (obsE h2 (obsE h2 (obsE h2 (obsE h2 (obsE h3 (obsE h4 (obsE h4 (obsE h4 (obsE h4 (obsE h4 (obsE h5 (obsE h5 (obsE h5 (obsE h5 (obsE h5 obsN))))))))))))))))))))))) rfl rfl (by kernel_rfl)
            | true =>
              exact rOk1 [.s, .s, .s, .s, .s, .s, .s, .o, .o, .o, .o, .o, .o, .o, .o, .o, .o, .o, .o, .o, .s, .s, .s, .s, .o, .o, .o, .s, .s, .s, .o, .s, .o, .s, .s, .s, .s, .s, .s, .s, .s, .s, .o, .o, .o, .s, .s, .s, .o, .s] (obsE h0 (obsE h0 (obsE h0 (obsE h0 (obsE h1 (obsE h1 (obsE h1 (obsE h1 (obsE h2 (obsE h2 (obsE h2 (obsE h2 (obsE h3 (obsE h4 (obsE h4 (obsE h4 (obsE h4 (obsE h4 (obsE h5 (obsE h5 (obsE h5 (obsE h5 (obsE h5 obsN))))))))))))))))))))))) rfl rfl (by kernel_rfl)
        | true =>
          exact rOk1 [.s, .s, .s, .s, .s, .s, .s] (obsE h0 (obsE h0 (obsE h0 (obsE h0 (obsE h1 (obsE h1 (obsE h1 (obsE h1 (obsE h2 (obsE h2 (obsE h2 (obsE h2 (obsE h3 obsN))))))))))))) rfl rfl (by kernel_rfl)
      | true =>
        exact rOk1 [.s, .s, .s, .s, .s, .s, .s] (obsE h0 (obsE h0 (obsE h0 (obsE h0 (obsE h1 (obsE h1 (obsE h1 (obsE h1 (obsE h2 (obsE h2 (obsE h2 (obsE h2 obsN)))))))))))) rfl rfl (by kernel_rfl)
    | true =>
      exact rOk1 [.s, .s, .s, .s, .s, .s, .s] (obsE h0 (obsE h0 (obsE h0 (obsE h0 (obsE h1 (obsE h1 (obsE h1 (obsE h1 obsN)))))))) rfl rfl (by kernel_rfl)
  | true =>
    exact rOk1 [.s, .s, .s, .s, .s, .s, .s] (obsE h0 (obsE h0 (obsE h0 (obsE h0 obsN)))) rfl rfl (by kernel_rfl)
def opGT : Nat → Ope → Bool
  | 1, a0 => opG1 a0
  | 2, a0 => opG2 a0
  | 3, a0 => opG3 a0
  | 4, a0 => opG4 a0
  | 5, a0 => opG5 a0
  | 6, a0 => opG6 a0
  | 7, a0 => opG7 a0
  | 8, a0 => opG8 a0
  | 9, a0 => opG9 a0
  | 10, a0 => opG10 a0
  | 11, a0 => opG11 a0
  | 12, a0 => opG12 a0
  | _, _ => false
def opG (a0 : Ope) : Bool := cond (decide ((a0.qCode : Int) ≥ 1)) (cond (decide ((a0.qCode : Int) ≤ 12)) (opGT a0.qCode.toNat a0) false) false
theorem opG_ok (a0 : Ope) : Ck n_decode_Formed [.agg a0.cs] (.bool (opG a0)) := by
  by_cases hc : a0.qCode ≥ 1 ∧ a0.qCode ≤ 12
  · have hd : a0.qCode = 1 ∨ a0.qCode = 2 ∨ a0.qCode = 3 ∨ a0.qCode = 4 ∨ a0.qCode = 5 ∨ a0.qCode = 6 ∨ a0.qCode = 7 ∨ a0.qCode = 8 ∨ a0.qCode = 9 ∨ a0.qCode = 10 ∨ a0.qCode = 11 ∨ a0.qCode = 12 := by omega
    rcases hd with h | h | h | h | h | h | h | h | h | h | h | h
    · have e : opG a0 = opG1 a0 := by unfold opG; rw [h]; rfl
      rw [e]
      have q := opG1_ok a0
      rw [← h] at q
      exact q
    · have e : opG a0 = opG2 a0 := by unfold opG; rw [h]; rfl
      rw [e]
      have q := opG2_ok a0
      rw [← h] at q
      exact q
    · have e : opG a0 = opG3 a0 := by unfold opG; rw [h]; rfl
      rw [e]
      have q := opG3_ok a0
      rw [← h] at q
      exact q
    · have e : opG a0 = opG4 a0 := by unfold opG; rw [h]; rfl
      rw [e]
      have q := opG4_ok a0
      rw [← h] at q
      exact q
    · have e : opG a0 = opG5 a0 := by unfold opG; rw [h]; rfl
      rw [e]
      have q := opG5_ok a0
      rw [← h] at q
      exact q
    · have e : opG a0 = opG6 a0 := by unfold opG; rw [h]; rfl
      rw [e]
      have q := opG6_ok a0
      rw [← h] at q
      exact q
    · have e : opG a0 = opG7 a0 := by unfold opG; rw [h]; rfl
      rw [e]
      have q := opG7_ok a0
      rw [← h] at q
      exact q
    · have e : opG a0 = opG8 a0 := by unfold opG; rw [h]; rfl
      rw [e]
      have q := opG8_ok a0
      rw [← h] at q
      exact q
    · have e : opG a0 = opG9 a0 := by unfold opG; rw [h]; rfl
      rw [e]
      have q := opG9_ok a0
      rw [← h] at q
      exact q
    · have e : opG a0 = opG10 a0 := by unfold opG; rw [h]; rfl
      rw [e]
      have q := opG10_ok a0
      rw [← h] at q
      exact q
    · have e : opG a0 = opG11 a0 := by unfold opG; rw [h]; rfl
      rw [e]
      have q := opG11_ok a0
      rw [← h] at q
      exact q
    · have e : opG a0 = opG12 a0 := by unfold opG; rw [h]; rfl
      rw [e]
      have q := opG12_ok a0
      rw [← h] at q
      exact q
  · have e : opG a0 = false := by
      unfold opG
      by_cases h : a0.qCode ≥ 1
      · rw [decide_eq_true h, decide_eq_false (show ¬ a0.qCode ≤ 12 from fun q => hc ⟨h, q⟩)]; rfl
      · rw [decide_eq_false h]; rfl
    rw [e]
    by_cases h : a0.qCode ≥ 1
    · have q0 : (decide ((a0.qCode : Int) ≥ 1)) = true := decide_eq_true h
      have q1 : (!(decide ((a0.qCode : Int) ≤ 12))) = true := by rw [decide_eq_false (show ¬ a0.qCode ≤ 12 from fun q => hc ⟨h, q⟩)]; rfl
      exact rOk1 [] (obsE q0 (obsE q0 (obsE q0 (obsE q1 (obsE q1 (obsE q1 (obsE q1 obsN))))))) rfl rfl (by kernel_rfl)
    · have q0 : (decide ((a0.qCode : Int) ≥ 1)) = false := decide_eq_false h
      exact rOk1 [] (obsE q0 (obsE q0 (obsE q0 obsN))) rfl rfl (by kernel_rfl)
def e_opG : List DV → Option DV
  | [.agg [.int .i64 y0, .int .i64 y1, .int .i64 y2, .int .u64 y3, .int .u64 y4, .int .u64 y5]] => some (.bool (opG ⟨y0, y1, y2, y3, y4, y5⟩))
  | _ => none
theorem e_opG_ok : ∀ args d, e_opG args = some d → Ck n_decode_Formed args d := by
  intro args d h
  unfold e_opG at h
  split at h
  · rename_i y0 y1 y2 y3 y4 y5; cases h; exact opG_ok ⟨y0, y1, y2, y3, y4, y5⟩
  · cases h
def sums2 : Sums := sumsL [(n_plan_Plan_Formed, e_formedG), (n_check_Seat_Formed, e_seatG), (n_plan_Plan_Head, e_headG), (n_plan_Plan_Kind, e_kindG), (n_plan_Plan_Cell, e_cellG), (n_plan_Plan_Hazard, e_hazardG), (n_plan_Plan_Count, e_countG), (n_plan_Plan_Retired, e_retiredG), (n_plan_Plan_State, e_stateG), (n_plan_Plan_Next, e_nextG), (n_plan_Plan_Field, e_fieldG), (n_state_Of, e_stOfG), (n_state_State_Word, e_stWordG), (n_state_State_Freed, e_freedG), (n_handle_Handle_Word, e_haWordG), (n_handle_Mine, e_mineG), (n_free_turned, e_turnedG), (n_field_Field_Get, e_nodeG), (n_decode_Formed, e_opG)]
theorem sums2_ok : SumsOk Tryz.prog sums2 := sumsL_cons e_formedG_ok (sumsL_cons e_seatG_ok (sumsL_cons e_headG_ok (sumsL_cons e_kindG_ok (sumsL_cons e_cellG_ok (sumsL_cons e_hazardG_ok (sumsL_cons e_countG_ok (sumsL_cons e_retiredG_ok (sumsL_cons e_stateG_ok (sumsL_cons e_nextG_ok (sumsL_cons e_fieldG_ok (sumsL_cons e_stOfG_ok (sumsL_cons e_stWordG_ok (sumsL_cons e_freedG_ok (sumsL_cons e_haWordG_ok (sumsL_cons e_mineG_ok (sumsL_cons e_turnedG_ok (sumsL_cons e_nodeG_ok (sumsL_cons e_opG_ok (sumsL_nil)))))))))))))))))))
theorem sOk {f : FuncId} {ds : List DV} {d : DV} {m m' : Mu} {n n' : Nat} {obs : List Ob} (ms : List Mk) (hob : ∀ x ∈ obs, x.ok Tryz.prog) (h : ((deepS Auto.tab Auto.fns sums2 1000 30) f ds (.hid m n) (.go :: scOf ms obs)).map (fun r => (r.1, r.2.1, r.2.2.1, r.2.2.2.2.1)) = some (d, .hid m' n', false, obs)) : Cm f ds m n d m' n' :=
  callOk_M (deepS_ok Auto.tabOk mixed Auto.fnsOk sums2_ok 1000 30) ms hob h
end Go.Proofs.YtpckjfncecoibaaGreat.Fun
