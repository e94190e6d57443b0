/- Names of functions of the heap (printed by wip/seatfree.py). -/
import Derived.Test.YtpckjfncecoibaaGreatWayDefs
namespace Go.Proofs.YtpckjfncecoibaaGreat.Fun
open Go
abbrev n_cubiclelaw23_HistoryTells : FuncId := 12
abbrev n_history_Sound : FuncId := 66
abbrev n_history_Ahead : FuncId := 67
abbrev n_cubicleref23_Ahead : FuncId := 68
abbrev n_cubicleref23_Sound : FuncId := 69
end Go.Proofs.YtpckjfncecoibaaGreat.Fun
