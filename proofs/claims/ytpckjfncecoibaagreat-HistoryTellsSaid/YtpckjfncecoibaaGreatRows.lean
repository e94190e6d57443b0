/-
  No cell of these rows narrows 'for every input' (looked for: loops, veiled, ifaces, maps, wideKeys, modest, calm, conditions, laid).
  DERIVED. THE GIVEN ROWS OF THIS SEAT. 12 by the template 'for every input the law returns true; each argument reads behind the call as it read before'; 0 by the template 'total and deterministic' (their statements: YtpckjfncecoibaaGreatTotals.lean).
  GIVEN WITH THE SEED: the statements are not yours to turn. If you find one false, say at which input.
  Laid BY PROGRAM, IN A SANDBOX (cutbox-rows.mjs): the forced cells as the released guide's own fill.sh prints them over the translation 0cfc6d0a0ef6e0ec… (all of the seat's roots in one cut). By AI agents, Wed Nov 11 2026. No macro, syntax, notation, axiom, sorry.
-/
import Derived.Test.YtpckjfncecoibaaGreatChecked
import GoSem.Claim
import GoSem.ClaimJoined
import GoSem.ClaimMapViews
import Derived.JoinedTies
import Derived.KernelRfl
namespace Go.Proofs.YtpckjfncecoibaaGreat
/- THE CELL 'sum', in the pinned program and in every row, IS THE sha256 OF THE DUMP (.gsa) THAT YtpckjfncecoibaaGreatProg.lean LOADS. Nothing in Lean hashes anything: it is a label: what it is worth is what the hold of that sum in a sandbox is worth. -/
noncomputable def Tryz.pinned : Pinned := { name := "ytpckjfncecoibaagreat", sum := "0cfc6d0a0ef6e0ec71b26b9a2e63ef10f47d108df0ec7acdc6b3a6e70b8ba53b", checked := Tryz.checked }
namespace Rows
def none {H : Type} : Left H := { results := [], args := [] }

/-- 'cubiclelaw19.TaskAlone': WHATEVER THE INPUT: true; the input reads as it did. -/
def taskAloneSpec : ChangeSpec := { name := "taskAlone", fn := fun _ => fun
  | [d1, d2, d3] => { results := [.lit (.bool true)], args := [d1, d2, d3] }
  | _ => none }
def taskAloneRow : OpenClaim := { program := "ytpckjfncecoibaagreat", sum := "0cfc6d0a0ef6e0ec71b26b9a2e63ef10f47d108df0ec7acdc6b3a6e70b8ba53b", func := "cubicle/cubiclelaw19.TaskAlone", spec := "taskAlone", unfollowed := true, recurses := true, apart := false }
def TaskAloneSaid : Prop := taskAloneRow.holds Tryz.pinned (OpenSpec.ofChange taskAloneSpec)

/-- ITS FALSE NEIGHBOUR: 'it returns false'. Refute it at one input. -/
def taskAloneWrong : ChangeSpec := { name := "taskAlone", fn := fun _ => fun
  | [d1, d2, d3] => { results := [.lit (.bool false)], args := [d1, d2, d3] }
  | _ => none }
def TaskAloneWrongFalsely : Prop := taskAloneRow.holds Tryz.pinned (OpenSpec.ofChange taskAloneWrong)

/-- 'cubiclelaw20.RevokeUsed': WHATEVER THE INPUT: true; the input reads as it did. -/
def revokeUsedSpec : ChangeSpec := { name := "revokeUsed", fn := fun _ => fun
  | [d1, d2, d3] => { results := [.lit (.bool true)], args := [d1, d2, d3] }
  | _ => none }
def revokeUsedRow : OpenClaim := { program := "ytpckjfncecoibaagreat", sum := "0cfc6d0a0ef6e0ec71b26b9a2e63ef10f47d108df0ec7acdc6b3a6e70b8ba53b", func := "cubicle/cubiclelaw20.RevokeUsed", spec := "revokeUsed", unfollowed := true, recurses := true, apart := false }
def RevokeUsedSaid : Prop := revokeUsedRow.holds Tryz.pinned (OpenSpec.ofChange revokeUsedSpec)

/-- ITS FALSE NEIGHBOUR: 'it returns false'. Refute it at one input. -/
def revokeUsedWrong : ChangeSpec := { name := "revokeUsed", fn := fun _ => fun
  | [d1, d2, d3] => { results := [.lit (.bool false)], args := [d1, d2, d3] }
  | _ => none }
def RevokeUsedWrongFalsely : Prop := revokeUsedRow.holds Tryz.pinned (OpenSpec.ofChange revokeUsedWrong)

/-- 'cubiclelaw21.TenantCut': WHATEVER THE INPUT: true; the input reads as it did. -/
def tenantCutSpec : ChangeSpec := { name := "tenantCut", fn := fun _ => fun
  | [d1, d2, d3] => { results := [.lit (.bool true)], args := [d1, d2, d3] }
  | _ => none }
def tenantCutRow : OpenClaim := { program := "ytpckjfncecoibaagreat", sum := "0cfc6d0a0ef6e0ec71b26b9a2e63ef10f47d108df0ec7acdc6b3a6e70b8ba53b", func := "cubicle/cubiclelaw21.TenantCut", spec := "tenantCut", unfollowed := true, recurses := true, apart := false }
def TenantCutSaid : Prop := tenantCutRow.holds Tryz.pinned (OpenSpec.ofChange tenantCutSpec)

/-- ITS FALSE NEIGHBOUR: 'it returns false'. Refute it at one input. -/
def tenantCutWrong : ChangeSpec := { name := "tenantCut", fn := fun _ => fun
  | [d1, d2, d3] => { results := [.lit (.bool false)], args := [d1, d2, d3] }
  | _ => none }
def TenantCutWrongFalsely : Prop := tenantCutRow.holds Tryz.pinned (OpenSpec.ofChange tenantCutWrong)

/-- 'cubiclelaw22.ServiceMany': WHATEVER THE INPUT: true; the input reads as it did. -/
def serviceManySpec : ChangeSpec := { name := "serviceMany", fn := fun _ => fun
  | [d1, d2] => { results := [.lit (.bool true)], args := [d1, d2] }
  | _ => none }
def serviceManyRow : OpenClaim := { program := "ytpckjfncecoibaagreat", sum := "0cfc6d0a0ef6e0ec71b26b9a2e63ef10f47d108df0ec7acdc6b3a6e70b8ba53b", func := "cubicle/cubiclelaw22.ServiceMany", spec := "serviceMany", unfollowed := true, recurses := true, apart := false }
def ServiceManySaid : Prop := serviceManyRow.holds Tryz.pinned (OpenSpec.ofChange serviceManySpec)

/-- ITS FALSE NEIGHBOUR: 'it returns false'. Refute it at one input. -/
def serviceManyWrong : ChangeSpec := { name := "serviceMany", fn := fun _ => fun
  | [d1, d2] => { results := [.lit (.bool false)], args := [d1, d2] }
  | _ => none }
def ServiceManyWrongFalsely : Prop := serviceManyRow.holds Tryz.pinned (OpenSpec.ofChange serviceManyWrong)

/-- 'cubiclelaw22.ServiceOrder': WHATEVER THE INPUT: true; the input reads as it did. -/
def serviceOrderSpec : ChangeSpec := { name := "serviceOrder", fn := fun _ => fun
  | [d1, d2] => { results := [.lit (.bool true)], args := [d1, d2] }
  | _ => none }
def serviceOrderRow : OpenClaim := { program := "ytpckjfncecoibaagreat", sum := "0cfc6d0a0ef6e0ec71b26b9a2e63ef10f47d108df0ec7acdc6b3a6e70b8ba53b", func := "cubicle/cubiclelaw22.ServiceOrder", spec := "serviceOrder", unfollowed := true, recurses := true, apart := false }
def ServiceOrderSaid : Prop := serviceOrderRow.holds Tryz.pinned (OpenSpec.ofChange serviceOrderSpec)

/-- ITS FALSE NEIGHBOUR: 'it returns false'. Refute it at one input. -/
def serviceOrderWrong : ChangeSpec := { name := "serviceOrder", fn := fun _ => fun
  | [d1, d2] => { results := [.lit (.bool false)], args := [d1, d2] }
  | _ => none }
def ServiceOrderWrongFalsely : Prop := serviceOrderRow.holds Tryz.pinned (OpenSpec.ofChange serviceOrderWrong)

/-- 'cubiclelaw22.ServiceEmpty': WHATEVER THE INPUT: true; the input reads as it did. -/
def serviceEmptySpec : ChangeSpec := { name := "serviceEmpty", fn := fun _ => fun
  | [d1, d2] => { results := [.lit (.bool true)], args := [d1, d2] }
  | _ => none }
def serviceEmptyRow : OpenClaim := { program := "ytpckjfncecoibaagreat", sum := "0cfc6d0a0ef6e0ec71b26b9a2e63ef10f47d108df0ec7acdc6b3a6e70b8ba53b", func := "cubicle/cubiclelaw22.ServiceEmpty", spec := "serviceEmpty", unfollowed := true, recurses := true, apart := false }
def ServiceEmptySaid : Prop := serviceEmptyRow.holds Tryz.pinned (OpenSpec.ofChange serviceEmptySpec)

/-- ITS FALSE NEIGHBOUR: 'it returns false'. Refute it at one input. -/
def serviceEmptyWrong : ChangeSpec := { name := "serviceEmpty", fn := fun _ => fun
  | [d1, d2] => { results := [.lit (.bool false)], args := [d1, d2] }
  | _ => none }
def ServiceEmptyWrongFalsely : Prop := serviceEmptyRow.holds Tryz.pinned (OpenSpec.ofChange serviceEmptyWrong)

/-- 'cubiclelaw22.ServiceEnds': WHATEVER THE INPUT: true; the input reads as it did. -/
def serviceEndsSpec : ChangeSpec := { name := "serviceEnds", fn := fun _ => fun
  | [d1, d2] => { results := [.lit (.bool true)], args := [d1, d2] }
  | _ => none }
def serviceEndsRow : OpenClaim := { program := "ytpckjfncecoibaagreat", sum := "0cfc6d0a0ef6e0ec71b26b9a2e63ef10f47d108df0ec7acdc6b3a6e70b8ba53b", func := "cubicle/cubiclelaw22.ServiceEnds", spec := "serviceEnds", unfollowed := true, recurses := true, apart := false }
def ServiceEndsSaid : Prop := serviceEndsRow.holds Tryz.pinned (OpenSpec.ofChange serviceEndsSpec)

/-- ITS FALSE NEIGHBOUR: 'it returns false'. Refute it at one input. -/
def serviceEndsWrong : ChangeSpec := { name := "serviceEnds", fn := fun _ => fun
  | [d1, d2] => { results := [.lit (.bool false)], args := [d1, d2] }
  | _ => none }
def ServiceEndsWrongFalsely : Prop := serviceEndsRow.holds Tryz.pinned (OpenSpec.ofChange serviceEndsWrong)

/-- 'cubiclelaw22.ServiceOne': WHATEVER THE INPUT: true; the input reads as it did. -/
def serviceOneSpec : ChangeSpec := { name := "serviceOne", fn := fun _ => fun
  | [d1, d2, d3] => { results := [.lit (.bool true)], args := [d1, d2, d3] }
  | _ => none }
def serviceOneRow : OpenClaim := { program := "ytpckjfncecoibaagreat", sum := "0cfc6d0a0ef6e0ec71b26b9a2e63ef10f47d108df0ec7acdc6b3a6e70b8ba53b", func := "cubicle/cubiclelaw22.ServiceOne", spec := "serviceOne", unfollowed := true, recurses := true, apart := false }
def ServiceOneSaid : Prop := serviceOneRow.holds Tryz.pinned (OpenSpec.ofChange serviceOneSpec)

/-- ITS FALSE NEIGHBOUR: 'it returns false'. Refute it at one input. -/
def serviceOneWrong : ChangeSpec := { name := "serviceOne", fn := fun _ => fun
  | [d1, d2, d3] => { results := [.lit (.bool false)], args := [d1, d2, d3] }
  | _ => none }
def ServiceOneWrongFalsely : Prop := serviceOneRow.holds Tryz.pinned (OpenSpec.ofChange serviceOneWrong)

/-- 'cubiclelaw23.HistorySound': WHATEVER THE INPUT: true; the input reads as it did. -/
def historySoundSpec : ChangeSpec := { name := "historySound", fn := fun _ => fun
  | [d1, d2, d3] => { results := [.lit (.bool true)], args := [d1, d2, d3] }
  | _ => none }
def historySoundRow : OpenClaim := { program := "ytpckjfncecoibaagreat", sum := "0cfc6d0a0ef6e0ec71b26b9a2e63ef10f47d108df0ec7acdc6b3a6e70b8ba53b", func := "cubicle/cubiclelaw23.HistorySound", spec := "historySound", unfollowed := true, recurses := true, apart := false }
def HistorySoundSaid : Prop := historySoundRow.holds Tryz.pinned (OpenSpec.ofChange historySoundSpec)

/-- ITS FALSE NEIGHBOUR: 'it returns false'. Refute it at one input. -/
def historySoundWrong : ChangeSpec := { name := "historySound", fn := fun _ => fun
  | [d1, d2, d3] => { results := [.lit (.bool false)], args := [d1, d2, d3] }
  | _ => none }
def HistorySoundWrongFalsely : Prop := historySoundRow.holds Tryz.pinned (OpenSpec.ofChange historySoundWrong)

/-- 'cubiclelaw23.HistoryTells': WHATEVER THE INPUT: true; the input reads as it did. -/
def historyTellsSpec : ChangeSpec := { name := "historyTells", fn := fun _ => fun
  | [d] => { results := [.lit (.bool true)], args := [d] }
  | _ => none }
def historyTellsRow : OpenClaim := { program := "ytpckjfncecoibaagreat", sum := "0cfc6d0a0ef6e0ec71b26b9a2e63ef10f47d108df0ec7acdc6b3a6e70b8ba53b", func := "cubicle/cubiclelaw23.HistoryTells", spec := "historyTells", unfollowed := true, recurses := true, apart := false }
def HistoryTellsSaid : Prop := historyTellsRow.holds Tryz.pinned (OpenSpec.ofChange historyTellsSpec)

/-- ITS FALSE NEIGHBOUR: 'it returns false'. Refute it at one input. -/
def historyTellsWrong : ChangeSpec := { name := "historyTells", fn := fun _ => fun
  | [d] => { results := [.lit (.bool false)], args := [d] }
  | _ => none }
def HistoryTellsWrongFalsely : Prop := historyTellsRow.holds Tryz.pinned (OpenSpec.ofChange historyTellsWrong)

/-- 'cubiclelaw23.HistoryAlone': WHATEVER THE INPUT: true; the input reads as it did. -/
def historyAloneSpec : ChangeSpec := { name := "historyAlone", fn := fun _ => fun
  | [d1, d2] => { results := [.lit (.bool true)], args := [d1, d2] }
  | _ => none }
def historyAloneRow : OpenClaim := { program := "ytpckjfncecoibaagreat", sum := "0cfc6d0a0ef6e0ec71b26b9a2e63ef10f47d108df0ec7acdc6b3a6e70b8ba53b", func := "cubicle/cubiclelaw23.HistoryAlone", spec := "historyAlone", unfollowed := true, recurses := true, apart := false }
def HistoryAloneSaid : Prop := historyAloneRow.holds Tryz.pinned (OpenSpec.ofChange historyAloneSpec)

/-- ITS FALSE NEIGHBOUR: 'it returns false'. Refute it at one input. -/
def historyAloneWrong : ChangeSpec := { name := "historyAlone", fn := fun _ => fun
  | [d1, d2] => { results := [.lit (.bool false)], args := [d1, d2] }
  | _ => none }
def HistoryAloneWrongFalsely : Prop := historyAloneRow.holds Tryz.pinned (OpenSpec.ofChange historyAloneWrong)

/-- 'cubiclelaw23.HistoryPrefix': WHATEVER THE INPUT: true; the input reads as it did. -/
def historyPrefixSpec : ChangeSpec := { name := "historyPrefix", fn := fun _ => fun
  | [d1, d2, d3] => { results := [.lit (.bool true)], args := [d1, d2, d3] }
  | _ => none }
def historyPrefixRow : OpenClaim := { program := "ytpckjfncecoibaagreat", sum := "0cfc6d0a0ef6e0ec71b26b9a2e63ef10f47d108df0ec7acdc6b3a6e70b8ba53b", func := "cubicle/cubiclelaw23.HistoryPrefix", spec := "historyPrefix", unfollowed := true, recurses := true, apart := false }
def HistoryPrefixSaid : Prop := historyPrefixRow.holds Tryz.pinned (OpenSpec.ofChange historyPrefixSpec)

/-- ITS FALSE NEIGHBOUR: 'it returns false'. Refute it at one input. -/
def historyPrefixWrong : ChangeSpec := { name := "historyPrefix", fn := fun _ => fun
  | [d1, d2, d3] => { results := [.lit (.bool false)], args := [d1, d2, d3] }
  | _ => none }
def HistoryPrefixWrongFalsely : Prop := historyPrefixRow.holds Tryz.pinned (OpenSpec.ofChange historyPrefixWrong)

/- THE SECOND FORM. 'bulk': how many values and letters a reading holds, each counted each time it is reached (what is shared counts as often as it is met; a slice's spare places count too). A statement '..UptoSaid' is the law's where the arguments, and the package variables that the reading takes, are together of bulk at most 1048576: NARROWER than '..Said'. Prove '..Said' where nothing that the law and all that it calls make is longer than what came in: it says more and counts as full. Else prove '..UptoSaid'. A law counts once. -/
mutual
def uptoBulk {H : Type} : DataW H → Nat
  | .lit (.string bytes) => bytes.length + 1
  | .lit _ => 1
  | .nil => 1
  | .ptr d => uptoBulk d + 1
  | .slice elems spare => uptoBulkAll elems + uptoBulkAll spare + 1
  | .agg parts => uptoBulkAll parts + 1
  | .iface _ d => uptoBulk d + 1
  | .map entries => uptoBulkEntries entries + 1
  | .held _ => 1
def uptoBulkAll {H : Type} : List (DataW H) → Nat
  | [] => 0
  | d :: r => uptoBulk d + uptoBulkAll r
def uptoBulkEntries {H : Type} : List (Lit × DataW H) → Nat
  | [] => 0
  | x :: r => uptoBulkEntry x + uptoBulkEntries r
def uptoBulkEntry {H : Type} : Lit × DataW H → Nat
  | (.string bytes, d) => bytes.length + uptoBulk d + 1
  | (_, d) => uptoBulk d + 1
 end
def uptoSmall : (H : Type) → List (DataW H) → Bool := fun _ ds => decide (uptoBulkAll ds ≤ 1048576)
def OpenSpec.upto (s : _root_.Go.ChangeSpec) : _root_.Go.OpenSpec := { _root_.Go.OpenSpec.ofChange s with cond := some uptoSmall }

/-- 'cubiclelaw19.TaskAlone', WHERE WHAT IT READS IS OF BULK AT MOST 1048576: true; the input reads as it did. -/
def taskAloneUptoRow : OpenClaim := { program := "ytpckjfncecoibaagreat", sum := "0cfc6d0a0ef6e0ec71b26b9a2e63ef10f47d108df0ec7acdc6b3a6e70b8ba53b", func := "cubicle/cubiclelaw19.TaskAlone", spec := "taskAlone", unfollowed := true, recurses := true, apart := false, narrowed := true }
def TaskAloneUptoSaid : Prop := taskAloneUptoRow.holds Tryz.pinned (OpenSpec.upto taskAloneSpec)

/-- 'cubiclelaw20.RevokeUsed', WHERE WHAT IT READS IS OF BULK AT MOST 1048576: true; the input reads as it did. -/
def revokeUsedUptoRow : OpenClaim := { program := "ytpckjfncecoibaagreat", sum := "0cfc6d0a0ef6e0ec71b26b9a2e63ef10f47d108df0ec7acdc6b3a6e70b8ba53b", func := "cubicle/cubiclelaw20.RevokeUsed", spec := "revokeUsed", unfollowed := true, recurses := true, apart := false, narrowed := true }
def RevokeUsedUptoSaid : Prop := revokeUsedUptoRow.holds Tryz.pinned (OpenSpec.upto revokeUsedSpec)

/-- 'cubiclelaw21.TenantCut', WHERE WHAT IT READS IS OF BULK AT MOST 1048576: true; the input reads as it did. -/
def tenantCutUptoRow : OpenClaim := { program := "ytpckjfncecoibaagreat", sum := "0cfc6d0a0ef6e0ec71b26b9a2e63ef10f47d108df0ec7acdc6b3a6e70b8ba53b", func := "cubicle/cubiclelaw21.TenantCut", spec := "tenantCut", unfollowed := true, recurses := true, apart := false, narrowed := true }
def TenantCutUptoSaid : Prop := tenantCutUptoRow.holds Tryz.pinned (OpenSpec.upto tenantCutSpec)

/-- 'cubiclelaw22.ServiceMany', WHERE WHAT IT READS IS OF BULK AT MOST 1048576: true; the input reads as it did. -/
def serviceManyUptoRow : OpenClaim := { program := "ytpckjfncecoibaagreat", sum := "0cfc6d0a0ef6e0ec71b26b9a2e63ef10f47d108df0ec7acdc6b3a6e70b8ba53b", func := "cubicle/cubiclelaw22.ServiceMany", spec := "serviceMany", unfollowed := true, recurses := true, apart := false, narrowed := true }
def ServiceManyUptoSaid : Prop := serviceManyUptoRow.holds Tryz.pinned (OpenSpec.upto serviceManySpec)

/-- 'cubiclelaw22.ServiceOrder', WHERE WHAT IT READS IS OF BULK AT MOST 1048576: true; the input reads as it did. -/
def serviceOrderUptoRow : OpenClaim := { program := "ytpckjfncecoibaagreat", sum := "0cfc6d0a0ef6e0ec71b26b9a2e63ef10f47d108df0ec7acdc6b3a6e70b8ba53b", func := "cubicle/cubiclelaw22.ServiceOrder", spec := "serviceOrder", unfollowed := true, recurses := true, apart := false, narrowed := true }
def ServiceOrderUptoSaid : Prop := serviceOrderUptoRow.holds Tryz.pinned (OpenSpec.upto serviceOrderSpec)

/-- 'cubiclelaw22.ServiceEmpty', WHERE WHAT IT READS IS OF BULK AT MOST 1048576: true; the input reads as it did. -/
def serviceEmptyUptoRow : OpenClaim := { program := "ytpckjfncecoibaagreat", sum := "0cfc6d0a0ef6e0ec71b26b9a2e63ef10f47d108df0ec7acdc6b3a6e70b8ba53b", func := "cubicle/cubiclelaw22.ServiceEmpty", spec := "serviceEmpty", unfollowed := true, recurses := true, apart := false, narrowed := true }
def ServiceEmptyUptoSaid : Prop := serviceEmptyUptoRow.holds Tryz.pinned (OpenSpec.upto serviceEmptySpec)

/-- 'cubiclelaw22.ServiceEnds', WHERE WHAT IT READS IS OF BULK AT MOST 1048576: true; the input reads as it did. -/
def serviceEndsUptoRow : OpenClaim := { program := "ytpckjfncecoibaagreat", sum := "0cfc6d0a0ef6e0ec71b26b9a2e63ef10f47d108df0ec7acdc6b3a6e70b8ba53b", func := "cubicle/cubiclelaw22.ServiceEnds", spec := "serviceEnds", unfollowed := true, recurses := true, apart := false, narrowed := true }
def ServiceEndsUptoSaid : Prop := serviceEndsUptoRow.holds Tryz.pinned (OpenSpec.upto serviceEndsSpec)

/-- 'cubiclelaw22.ServiceOne', WHERE WHAT IT READS IS OF BULK AT MOST 1048576: true; the input reads as it did. -/
def serviceOneUptoRow : OpenClaim := { program := "ytpckjfncecoibaagreat", sum := "0cfc6d0a0ef6e0ec71b26b9a2e63ef10f47d108df0ec7acdc6b3a6e70b8ba53b", func := "cubicle/cubiclelaw22.ServiceOne", spec := "serviceOne", unfollowed := true, recurses := true, apart := false, narrowed := true }
def ServiceOneUptoSaid : Prop := serviceOneUptoRow.holds Tryz.pinned (OpenSpec.upto serviceOneSpec)

/-- 'cubiclelaw23.HistorySound', WHERE WHAT IT READS IS OF BULK AT MOST 1048576: true; the input reads as it did. -/
def historySoundUptoRow : OpenClaim := { program := "ytpckjfncecoibaagreat", sum := "0cfc6d0a0ef6e0ec71b26b9a2e63ef10f47d108df0ec7acdc6b3a6e70b8ba53b", func := "cubicle/cubiclelaw23.HistorySound", spec := "historySound", unfollowed := true, recurses := true, apart := false, narrowed := true }
def HistorySoundUptoSaid : Prop := historySoundUptoRow.holds Tryz.pinned (OpenSpec.upto historySoundSpec)

/-- 'cubiclelaw23.HistoryTells', WHERE WHAT IT READS IS OF BULK AT MOST 1048576: true; the input reads as it did. -/
def historyTellsUptoRow : OpenClaim := { program := "ytpckjfncecoibaagreat", sum := "0cfc6d0a0ef6e0ec71b26b9a2e63ef10f47d108df0ec7acdc6b3a6e70b8ba53b", func := "cubicle/cubiclelaw23.HistoryTells", spec := "historyTells", unfollowed := true, recurses := true, apart := false, narrowed := true }
def HistoryTellsUptoSaid : Prop := historyTellsUptoRow.holds Tryz.pinned (OpenSpec.upto historyTellsSpec)

/-- 'cubiclelaw23.HistoryAlone', WHERE WHAT IT READS IS OF BULK AT MOST 1048576: true; the input reads as it did. -/
def historyAloneUptoRow : OpenClaim := { program := "ytpckjfncecoibaagreat", sum := "0cfc6d0a0ef6e0ec71b26b9a2e63ef10f47d108df0ec7acdc6b3a6e70b8ba53b", func := "cubicle/cubiclelaw23.HistoryAlone", spec := "historyAlone", unfollowed := true, recurses := true, apart := false, narrowed := true }
def HistoryAloneUptoSaid : Prop := historyAloneUptoRow.holds Tryz.pinned (OpenSpec.upto historyAloneSpec)

/-- 'cubiclelaw23.HistoryPrefix', WHERE WHAT IT READS IS OF BULK AT MOST 1048576: true; the input reads as it did. -/
def historyPrefixUptoRow : OpenClaim := { program := "ytpckjfncecoibaagreat", sum := "0cfc6d0a0ef6e0ec71b26b9a2e63ef10f47d108df0ec7acdc6b3a6e70b8ba53b", func := "cubicle/cubiclelaw23.HistoryPrefix", spec := "historyPrefix", unfollowed := true, recurses := true, apart := false, narrowed := true }
def HistoryPrefixUptoSaid : Prop := historyPrefixUptoRow.holds Tryz.pinned (OpenSpec.upto historyPrefixSpec)

end Rows
end Go.Proofs.YtpckjfncecoibaaGreat
