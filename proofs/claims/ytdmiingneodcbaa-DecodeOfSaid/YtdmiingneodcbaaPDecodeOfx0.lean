-- Laid by a program of this session, which builds on the kit's print: it takes some functions' texts as they are given to it.
import Derived.Test.YtdmiingneodcbaaProg
import Derived.Below
import Derived.Deep.Draws
import Derived.Deep.AppendLies
import Derived.Maps.AppendAt
import Derived.OwnWalk
import Derived.Laws.BytesArg
import Derived.Laws.MakeOwn
import Derived.Laws.OwnMore
import Derived.Deep.OwnRows
import Derived.Tactics
import Derived.Lib.ConvBytes
import Derived.Laws.Slices
import Derived.WalkKit
import Derived.KernelRfl
import Derived.RowKit3
import Derived.Deep.LoopGhost
import Derived.Deep.QuietTactic
import Derived.BigQuiet
import Derived.WideLaws
import Derived.Deep.DeepCutAuto
import Derived.Deep.CutBlock
import Derived.Deep.RegionHeld3
import Derived.Laws.Rows
import Derived.Lib.AppendStr
import Derived.ArgAppend
import Derived.Laws.IdiomCopy
import Derived.OrdersHeld
import Derived.Laws.BitsLemmas
import Derived.RowKit
import Derived.Lib.Hide
import Derived.StillTailTactics
import Derived.Deep.WholeRow
import Derived.Laws.Strings
import Derived.Test.YtdmiingneodcbaaFieldNums
import Derived.Test.YtdmiingneodcbaaWWords
import Derived.Test.YtdmiingneodcbaaWLast
import Derived.Test.YtdmiingneodcbaaWTab
import Derived.Test.YtdmiingneodcbaaWFour
import Derived.Test.YtdmiingneodcbaaWQPut
import Derived.Test.YtdmiingneodcbaaWApart
import Derived.Test.YtdmiingneodcbaaWArr
import Derived.Test.YtdmiingneodcbaaWZeros
import Derived.Test.YtdmiingneodcbaaWFoot
import Derived.Test.YtdmiingneodcbaaWKept
import Derived.Test.YtdmiingneodcbaaWShare
import Derived.Test.YtdmiingneodcbaaWN
import Derived.Test.YtdmiingneodcbaaWFootNe
import Derived.Test.YtdmiingneodcbaaWAt
import Derived.Test.YtdmiingneodcbaaWEqStruct
import Derived.Test.YtdmiingneodcbaaWRepsOne
import Derived.Test.YtdmiingneodcbaaWInv
import Derived.Test.YtdmiingneodcbaaWInvWords
import Derived.Test.YtdmiingneodcbaaWGuard
import Derived.Test.YtdmiingneodcbaaWNEv
import Derived.Test.YtdmiingneodcbaaWMore
namespace Go.Proofs.Ytdmiingneodcbaa.PDecodeOf
open Go.RowKit Go.Proofs.YtdmiingneodcbaaW.PrintWords Go.Proofs.YtdmiingneodcbaaW.PrintLast Go.Proofs.YtdmiingneodcbaaW.PrintMore
attribute [local go_sem] max2_int min2_int max_two min_two max_three min_three max_four min_four   -- for this text's walks alone
set_option linter.unusedVariables false
set_option linter.unusedSimpArgs false



def errW : Option Int → Value
  | none => .nilIface
  | some c => .iface 0 (.int .i64 c)
theorem errW_none : errW none = .nilIface := rfl
theorem errW_some (c : Int) : errW (some c) = .iface 0 (.int .i64 c) := rfl

theorem info5 : (Try.prog.info? 5).map (fun i => (i.zero, i.size, i.bytes)) = some (some (.int .u8 0), 1, 1) := by kernel_rfl
theorem info9 : (Try.prog.info? 9).map (fun i => (i.zero, i.size, i.bytes)) = some (some (.string ⟨#[]⟩), 1, 16) := by kernel_rfl
-- the values' own types

end Go.Proofs.Ytdmiingneodcbaa.PDecodeOf
