/- The ways of task.Begin and of the statement TaskBad (printed by wip/decway.py). -/
import Derived.Test.YtehihnapbpcfbaaGreatDecJ
namespace Go.Proofs.YtehihnapbpcfbaaGreat.Fun
open Go
set_option linter.unusedVariables false
abbrev n_task_Begin : FuncId := 26
abbrev n_prog_Prog_api_Res_Over : FuncId := 30
abbrev n_cubiclelaw19_awake : FuncId := 21
abbrev n_cubiclelaw19_TaskBad : FuncId := 6
theorem awake_ok : Ck n_cubiclelaw19_awake [] (.bool true) := callOk_R (deepS_ok Auto.tabOk mixed Auto.fnsOk sums2_ok 3000 60) [] obsN rfl rfl (by kernel_rfl)
def e_awake : List DV → Option DV
  | [] => some (.bool true)
  | _ => none
theorem e_awake_ok : ∀ args d, e_awake args = some d → Ck n_cubiclelaw19_awake args d := by
  intro args d h
  unfold e_awake at h
  split at h
  · cases h; exact awake_ok
  · cases h
def e_ofB : List DV → Option DV
  | [.str b] => some (ofV (ofB b))
  | _ => none
theorem e_ofB_ok1 : ∀ args d, e_ofB args = some d → Ck n_decode_Of args d := by
  intro args d h
  unfold e_ofB at h
  split at h
  · cases h; exact ofB_of _
  · cases h
def sums3a : Sums := sumsL [(n_cubiclelaw19_awake, e_awake), (n_decode_Of, e_ofB), (n_cubicleref18_Formed, e_opR)]
theorem sums3a_ok : SumsOk Tryz.prog sums3a := sumsL_cons e_awake_ok (sumsL_cons e_ofB_ok1 (sumsL_cons e_opR_ok sumsL_nil))
def sums3 : Sums := fun f args => match sums3a f args with
  | some d => some d
  | none => sums2 f args
theorem sums3_ok : SumsOk Tryz.prog sums3 := fun f args d h => by
  unfold sums3 at h
  split at h
  · rename_i x hx; cases h; exact sums3a_ok _ _ _ hx
  · exact sums2_ok _ _ _ h
theorem sOk3 {f : FuncId} {ds : List DV} {d : DV} {m m' : Mu} {n n' : Nat} {obs : List Ob} (ms : List Mk) (hob : ∀ x ∈ obs, x.ok Tryz.prog) (h : ((deepS Auto.tab Auto.fns sums3 1000 30) f ds (.hid m n) (.go :: scOf ms obs)).map (fun r => (r.1, r.2.1, r.2.2.1, r.2.2.2.2.1)) = some (d, .hid m' n', false, obs)) : Cm f ds m n d m' n' :=
  callOk_M (deepS_ok Auto.tabOk mixed Auto.fnsOk sums3_ok 1000 30) ms hob h
theorem w_task_Begin_1 {a0 : Se} {a1 : ByteArray} {m : Mu} {n : Nat} (h0 : (((ofB a1).2 : Int) != 0) = false) : PasM kR m n n_task_Do [(.agg a0.cs), (.agg ((ofB a1).1).cs)] m n n_task_Begin [(.agg a0.cs), (.str a1)] := pas (fun {_ m0 n0} h1 => sOk3 [.o, .m n0] (obsE h0 (obsM h1 obsN)) (by kernel_rfl)) (fun {_ _ _ _ _ _ m0 n0} h1 => sOk3 [.o, .m n0] (obsE h0 (obsM h1 obsN)) (by kernel_rfl))
theorem w_task_Begin_2 {a0 : Se} {a1 : ByteArray} {m : Mu} {n : Nat} (h0 : (((ofB a1).2 : Int) != 0) = true) : Cm n_task_Begin [(.agg a0.cs), (.str a1)] m n (pO kR (⟨2, 0⟩ : Re)) m n := sOk3 [] (obsE h0 obsN) (by kernel_rfl)
theorem w_prog_Prog_api_Res_Over_1 {a0 : Re} {m : Mu} {n : Nat} : Cm n_prog_Prog_api_Res_Over [(pO kR a0)] m n (.tup [(.agg a0.cs), (.bool true)]) m n := sOk3 [] obsN (by kernel_rfl)
theorem w_prog_Prog_api_Res_Over_2 {a0o a0u a0v a0w : Int} {a0f : FuncId} {a0c : List DV} {m : Mu} {n : Nat} : Cm n_prog_Prog_api_Res_Over [(pS kR a0o a0u a0v a0w a0f a0c)] m n (.tup [(.agg (⟨0, 0⟩ : Re).cs), (.bool false)]) m n := sOk3 [] obsN (by kernel_rfl)
end Go.Proofs.YtehihnapbpcfbaaGreat.Fun
