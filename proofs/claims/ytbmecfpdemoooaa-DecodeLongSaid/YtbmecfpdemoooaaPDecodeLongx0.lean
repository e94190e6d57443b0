-- Laid by a program of this session, which builds on the kit's print: it takes some functions' texts as they are given to it.
import Derived.Test.YtbmecfpdemoooaaProg
import Derived.Below
import Derived.Deep.Draws
import Derived.Deep.AppendLies
import Derived.Maps.AppendAt
import Derived.OwnWalk
import Derived.Laws.BytesArg
import Derived.Laws.MakeOwn
import Derived.Laws.OwnMore
import Derived.Deep.OwnRows
import Derived.Tactics
import Derived.Lib.ConvBytes
import Derived.Laws.Slices
import Derived.WalkKit
import Derived.KernelRfl
import Derived.RowKit3
import Derived.Deep.LoopGhost
import Derived.Deep.QuietTactic
import Derived.BigQuiet
import Derived.WideLaws
import Derived.Deep.DeepCutAuto
import Derived.Deep.CutBlock
import Derived.Deep.RegionHeld3
import Derived.Laws.Rows
import Derived.Lib.AppendStr
import Derived.ArgAppend
import Derived.Laws.IdiomCopy
import Derived.OrdersHeld
import Derived.Laws.BitsLemmas
import Derived.RowKit
import Derived.Lib.Hide
import Derived.StillTailTactics
import Derived.Deep.WholeRow
import Derived.Test.YtbmecfpdemoooaaFieldNums
import Derived.Test.YtbmecfpdemoooaaWWords
import Derived.Test.YtbmecfpdemoooaaWLast
import Derived.Test.YtbmecfpdemoooaaWTab
import Derived.Test.YtbmecfpdemoooaaWFour
import Derived.Test.YtbmecfpdemoooaaWQPut
import Derived.Test.YtbmecfpdemoooaaWApart
import Derived.Test.YtbmecfpdemoooaaWArr
import Derived.Test.YtbmecfpdemoooaaWZeros
import Derived.Test.YtbmecfpdemoooaaWFoot
import Derived.Test.YtbmecfpdemoooaaWKept
import Derived.Test.YtbmecfpdemoooaaWShare
import Derived.Test.YtbmecfpdemoooaaWN
import Derived.Test.YtbmecfpdemoooaaWFootNe
import Derived.Test.YtbmecfpdemoooaaWAt
import Derived.Test.YtbmecfpdemoooaaWEqStruct
import Derived.Test.YtbmecfpdemoooaaWRepsOne
import Derived.Test.YtbmecfpdemoooaaWInv
import Derived.Test.YtbmecfpdemoooaaWInvWords
import Derived.Test.YtbmecfpdemoooaaWGuard
import Derived.Test.YtbmecfpdemoooaaWNEv
import Derived.Test.YtbmecfpdemoooaaWMore
namespace Go.Proofs.Ytbmecfpdemoooaa.PDecodeLong
open Go.RowKit Go.Proofs.YtbmecfpdemoooaaW.PrintWords Go.Proofs.YtbmecfpdemoooaaW.PrintLast Go.Proofs.YtbmecfpdemoooaaW.PrintMore
attribute [local go_sem] max2_int min2_int max_two min_two max_three min_three max_four min_four   -- for this text's walks alone
set_option linter.unusedVariables false
set_option linter.unusedSimpArgs false



def errW : Option Int → Value
  | none => .nilIface
  | some c => .iface 0 (.int .i64 c)
theorem errW_none : errW none = .nilIface := rfl
theorem errW_some (c : Int) : errW (some c) = .iface 0 (.int .i64 c) := rfl

theorem info3 : (Try.prog.info? 3).map (fun i => (i.zero, i.size, i.bytes)) = some (some (.int .i64 0), 1, 8) := by kernel_rfl
theorem info5 : (Try.prog.info? 5).map (fun i => (i.zero, i.size, i.bytes)) = some (some (.int .u8 0), 1, 1) := by kernel_rfl
theorem info9 : (Try.prog.info? 9).map (fun i => (i.zero, i.size, i.bytes)) = some (some (.string ⟨#[]⟩), 1, 16) := by kernel_rfl
-- the values' own types

end Go.Proofs.Ytbmecfpdemoooaa.PDecodeLong
