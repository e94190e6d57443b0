/- Names of functions of the heap (printed by wip/seatfree.py). -/
import Derived.Test.YtehihnapbpcfbaaGreatWayDefs
namespace Go.Proofs.YtehihnapbpcfbaaGreat.Fun
open Go
abbrev n_cubiclelaw19_TaskSame : FuncId := 5
abbrev n_cubiclelaw09_Laid : FuncId := 13
abbrev n_prog_Run_api_Res : FuncId := 14
abbrev n_mem_Memory_Cap : FuncId := 16
abbrev n_prog_Run_int : FuncId := 17
abbrev n_mem_Memory_Count : FuncId := 33
abbrev n_mem_Memory_Peek : FuncId := 34
abbrev n_prog_Prog_api_Res_Step : FuncId := 43
abbrev n_mem_Memory_Good : FuncId := 46
abbrev n_mem_New : FuncId := 49
abbrev n_prog_Run_prog_None : FuncId := 51
abbrev n_mem_Memory_region : FuncId := 60
abbrev n_prog_Prog_int_Step : FuncId := 61
abbrev n_mem_Memory_Size : FuncId := 66
abbrev n_mem_Memory_Do : FuncId := 97
abbrev n_mem_Memory_Bump : FuncId := 100
abbrev n_prog_Prog_prog_None_Step : FuncId := 102
end Go.Proofs.YtehihnapbpcfbaaGreat.Fun
