/- Further ways (printed by wip/morew.py). -/
import Derived.Test.YtehihnapbpcfbaaGreatWays
namespace Go.Proofs.YtehihnapbpcfbaaGreat.Fun
open Go
set_option linter.unusedVariables false
abbrev n_free_Fresh : FuncId := 52
abbrev n_free_fresh : FuncId := 103
abbrev n_free_fresh_c1 : FuncId := 176
theorem w_free_Fresh_1 {a0 : Pl} {m : Mu} {n : Nat} : PasM kN m n n_free_fresh [(.agg a0.cs), (I 0)] m n n_free_Fresh [(.agg a0.cs)] := pas (fun {_ m0 n0} h0 => sOk [.m n0] (obsM h0 obsN) (by kernel_rfl)) (fun {_ _ _ _ _ _ m0 n0} h0 => sOk [.m n0] (obsM h0 obsN) (by kernel_rfl))
theorem w_free_fresh_1 {a0 : Pl} {a1 : Int} {m : Mu} {n : Nat} (h0 : ((a1 : Int) == a0.qNodes) = false) (h1 : (((IntKind.i64.wrap (a1 + 1)) : Int) == a0.qNodes) = false) : Cm n_free_fresh [(.agg a0.cs), (I a1)] m n (pS kN 1 (nextG a0 a1) (IntKind.u64.wrap (IntKind.i64.wrap ((IntKind.i64.wrap (a1 + 1)) + 1))) 0 n_prog_Store_prog_None_c1 [.ptr [(.func n_free_fresh_c1 [.ptr a0.cs, .ptr [(I a1)]])]]) m n := sOk [] (obsE h0 (obsE h1 obsN)) (by kernel_rfl)
theorem w_free_fresh_2 {a0 : Pl} {a1 : Int} {m : Mu} {n : Nat} (h0 : ((a1 : Int) == a0.qNodes) = false) (h1 : (((IntKind.i64.wrap (a1 + 1)) : Int) == a0.qNodes) = true) : Cm n_free_fresh [(.agg a0.cs), (I a1)] m n (pS kN 1 (nextG a0 a1) 0 0 n_prog_Store_prog_None_c1 [.ptr [(.func n_free_fresh_c1 [.ptr a0.cs, .ptr [(I a1)]])]]) m n := sOk [] (obsE h0 (obsE h1 obsN)) (by kernel_rfl)
theorem w_free_fresh_3 {a0 : Pl} {a1 : Int} {m : Mu} {n : Nat} (h0 : ((a1 : Int) == a0.qNodes) = true) : Cm n_free_fresh [(.agg a0.cs), (I a1)] m n (pS kN 1 (headG a0) 1 0 n_prog_Store_prog_None_c1 [.ptr [(.func n_prog_Set_c1 [])]]) m n := sOk [] (obsE h0 obsN) (by kernel_rfl)
theorem w_free_fresh_c1_1 {b0 : Pl} {b1 : Int} {m : Mu} {n : Nat} : PasM kN m n n_free_fresh [(.agg b0.cs), (I (IntKind.i64.wrap (b1 + 1)))] m n n_free_fresh_c1 [.ptr b0.cs, .ptr [(I b1)]] := pas (fun {_ m0 n0} h0 => sOk [.m n0] (obsM h0 obsN) (by kernel_rfl)) (fun {_ _ _ _ _ _ m0 n0} h0 => sOk [.m n0] (obsM h0 obsN) (by kernel_rfl))
end Go.Proofs.YtehihnapbpcfbaaGreat.Fun
