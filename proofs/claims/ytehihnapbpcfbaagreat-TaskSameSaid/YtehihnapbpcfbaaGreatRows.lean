/-
  No cell of these rows narrows 'for every input' (looked for: loops, veiled, ifaces, maps, wideKeys, modest, calm, conditions, laid).
  DERIVED. THE GIVEN ROWS OF THIS SEAT. 8 by the template 'for every input the law returns true; each argument reads behind the call as it read before'; 0 by the template 'total and deterministic' (their statements: YtehihnapbpcfbaaGreatTotals.lean).
  GIVEN WITH THE SEED: the statements are not yours to turn. If you find one false, say at which input.
  Laid BY PROGRAM, IN A SANDBOX (cutbox-rows.mjs): the forced cells as the released guide's own fill.sh prints them over the translation 0d24e062a6a05f68… (all of the seat's roots in one cut). By AI agents, Wed Nov 11 2026. No macro, syntax, notation, axiom, sorry.
-/
import Derived.Test.YtehihnapbpcfbaaGreatChecked
import GoSem.Claim
import GoSem.ClaimJoined
import GoSem.ClaimMapViews
import Derived.JoinedTies
import Derived.KernelRfl
namespace Go.Proofs.YtehihnapbpcfbaaGreat
/- THE CELL 'sum', in the pinned program and in every row, IS THE sha256 OF THE DUMP (.gsa) THAT YtehihnapbpcfbaaGreatProg.lean LOADS. Nothing in Lean hashes anything: it is a label: what it is worth is what the hold of that sum in a sandbox is worth. -/
noncomputable def Tryz.pinned : Pinned := { name := "ytehihnapbpcfbaagreat", sum := "0d24e062a6a05f6840100aba6ef20d4d20bc2ee4934a885f8fe5c8624ef51ce8", checked := Tryz.checked }
namespace Rows
def none {H : Type} : Left H := { results := [], args := [] }

/-- 'cubiclelaw20.RevokeHalf': WHATEVER THE INPUT: true; the input reads as it did. -/
def revokeHalfSpec : ChangeSpec := { name := "revokeHalf", fn := fun _ => fun
  | [d1, d2, d3] => { results := [.lit (.bool true)], args := [d1, d2, d3] }
  | _ => none }
def revokeHalfRow : OpenClaim := { program := "ytehihnapbpcfbaagreat", sum := "0d24e062a6a05f6840100aba6ef20d4d20bc2ee4934a885f8fe5c8624ef51ce8", func := "cubicle/cubiclelaw20.RevokeHalf", spec := "revokeHalf", unfollowed := true, recurses := true, apart := false }
def RevokeHalfSaid : Prop := revokeHalfRow.holds Tryz.pinned (OpenSpec.ofChange revokeHalfSpec)

/-- ITS FALSE NEIGHBOUR: 'it returns false'. Refute it at one input. -/
def revokeHalfWrong : ChangeSpec := { name := "revokeHalf", fn := fun _ => fun
  | [d1, d2, d3] => { results := [.lit (.bool false)], args := [d1, d2, d3] }
  | _ => none }
def RevokeHalfWrongFalsely : Prop := revokeHalfRow.holds Tryz.pinned (OpenSpec.ofChange revokeHalfWrong)

/-- 'cubiclelaw19.TaskAlone': WHATEVER THE INPUT: true; the input reads as it did. -/
def taskAloneSpec : ChangeSpec := { name := "taskAlone", fn := fun _ => fun
  | [d1, d2, d3] => { results := [.lit (.bool true)], args := [d1, d2, d3] }
  | _ => none }
def taskAloneRow : OpenClaim := { program := "ytehihnapbpcfbaagreat", sum := "0d24e062a6a05f6840100aba6ef20d4d20bc2ee4934a885f8fe5c8624ef51ce8", func := "cubicle/cubiclelaw19.TaskAlone", spec := "taskAlone", unfollowed := true, recurses := true, apart := false }
def TaskAloneSaid : Prop := taskAloneRow.holds Tryz.pinned (OpenSpec.ofChange taskAloneSpec)

/-- ITS FALSE NEIGHBOUR: 'it returns false'. Refute it at one input. -/
def taskAloneWrong : ChangeSpec := { name := "taskAlone", fn := fun _ => fun
  | [d1, d2, d3] => { results := [.lit (.bool false)], args := [d1, d2, d3] }
  | _ => none }
def TaskAloneWrongFalsely : Prop := taskAloneRow.holds Tryz.pinned (OpenSpec.ofChange taskAloneWrong)

/-- 'cubiclelaw19.TaskSame': WHATEVER THE INPUT: true; the input reads as it did. -/
def taskSameSpec : ChangeSpec := { name := "taskSame", fn := fun _ => fun
  | [d1, d2] => { results := [.lit (.bool true)], args := [d1, d2] }
  | _ => none }
def taskSameRow : OpenClaim := { program := "ytehihnapbpcfbaagreat", sum := "0d24e062a6a05f6840100aba6ef20d4d20bc2ee4934a885f8fe5c8624ef51ce8", func := "cubicle/cubiclelaw19.TaskSame", spec := "taskSame", unfollowed := true, recurses := true, apart := false }
def TaskSameSaid : Prop := taskSameRow.holds Tryz.pinned (OpenSpec.ofChange taskSameSpec)

/-- ITS FALSE NEIGHBOUR: 'it returns false'. Refute it at one input. -/
def taskSameWrong : ChangeSpec := { name := "taskSame", fn := fun _ => fun
  | [d1, d2] => { results := [.lit (.bool false)], args := [d1, d2] }
  | _ => none }
def TaskSameWrongFalsely : Prop := taskSameRow.holds Tryz.pinned (OpenSpec.ofChange taskSameWrong)

/-- 'cubiclelaw19.TaskBad': WHATEVER THE INPUT: true; the input reads as it did. -/
def taskBadSpec : ChangeSpec := { name := "taskBad", fn := fun _ => fun
  | [d1, d2] => { results := [.lit (.bool true)], args := [d1, d2] }
  | _ => none }
def taskBadRow : OpenClaim := { program := "ytehihnapbpcfbaagreat", sum := "0d24e062a6a05f6840100aba6ef20d4d20bc2ee4934a885f8fe5c8624ef51ce8", func := "cubicle/cubiclelaw19.TaskBad", spec := "taskBad", unfollowed := true, recurses := true, apart := false }
def TaskBadSaid : Prop := taskBadRow.holds Tryz.pinned (OpenSpec.ofChange taskBadSpec)

/-- ITS FALSE NEIGHBOUR: 'it returns false'. Refute it at one input. -/
def taskBadWrong : ChangeSpec := { name := "taskBad", fn := fun _ => fun
  | [d1, d2] => { results := [.lit (.bool false)], args := [d1, d2] }
  | _ => none }
def TaskBadWrongFalsely : Prop := taskBadRow.holds Tryz.pinned (OpenSpec.ofChange taskBadWrong)

/-- 'cubiclelaw19.TaskClears': WHATEVER THE INPUT: true; the input reads as it did. -/
def taskClearsSpec : ChangeSpec := { name := "taskClears", fn := fun _ => fun
  | [d1, d2] => { results := [.lit (.bool true)], args := [d1, d2] }
  | _ => none }
def taskClearsRow : OpenClaim := { program := "ytehihnapbpcfbaagreat", sum := "0d24e062a6a05f6840100aba6ef20d4d20bc2ee4934a885f8fe5c8624ef51ce8", func := "cubicle/cubiclelaw19.TaskClears", spec := "taskClears", unfollowed := true, recurses := true, apart := false }
def TaskClearsSaid : Prop := taskClearsRow.holds Tryz.pinned (OpenSpec.ofChange taskClearsSpec)

/-- ITS FALSE NEIGHBOUR: 'it returns false'. Refute it at one input. -/
def taskClearsWrong : ChangeSpec := { name := "taskClears", fn := fun _ => fun
  | [d1, d2] => { results := [.lit (.bool false)], args := [d1, d2] }
  | _ => none }
def TaskClearsWrongFalsely : Prop := taskClearsRow.holds Tryz.pinned (OpenSpec.ofChange taskClearsWrong)

/-- 'cubiclelaw20.RevokeUsed': WHATEVER THE INPUT: true; the input reads as it did. -/
def revokeUsedSpec : ChangeSpec := { name := "revokeUsed", fn := fun _ => fun
  | [d1, d2, d3] => { results := [.lit (.bool true)], args := [d1, d2, d3] }
  | _ => none }
def revokeUsedRow : OpenClaim := { program := "ytehihnapbpcfbaagreat", sum := "0d24e062a6a05f6840100aba6ef20d4d20bc2ee4934a885f8fe5c8624ef51ce8", func := "cubicle/cubiclelaw20.RevokeUsed", spec := "revokeUsed", unfollowed := true, recurses := true, apart := false }
def RevokeUsedSaid : Prop := revokeUsedRow.holds Tryz.pinned (OpenSpec.ofChange revokeUsedSpec)

/-- ITS FALSE NEIGHBOUR: 'it returns false'. Refute it at one input. -/
def revokeUsedWrong : ChangeSpec := { name := "revokeUsed", fn := fun _ => fun
  | [d1, d2, d3] => { results := [.lit (.bool false)], args := [d1, d2, d3] }
  | _ => none }
def RevokeUsedWrongFalsely : Prop := revokeUsedRow.holds Tryz.pinned (OpenSpec.ofChange revokeUsedWrong)

/-- 'cubiclelaw21.TenantCut': WHATEVER THE INPUT: true; the input reads as it did. -/
def tenantCutSpec : ChangeSpec := { name := "tenantCut", fn := fun _ => fun
  | [d1, d2, d3] => { results := [.lit (.bool true)], args := [d1, d2, d3] }
  | _ => none }
def tenantCutRow : OpenClaim := { program := "ytehihnapbpcfbaagreat", sum := "0d24e062a6a05f6840100aba6ef20d4d20bc2ee4934a885f8fe5c8624ef51ce8", func := "cubicle/cubiclelaw21.TenantCut", spec := "tenantCut", unfollowed := true, recurses := true, apart := false }
def TenantCutSaid : Prop := tenantCutRow.holds Tryz.pinned (OpenSpec.ofChange tenantCutSpec)

/-- ITS FALSE NEIGHBOUR: 'it returns false'. Refute it at one input. -/
def tenantCutWrong : ChangeSpec := { name := "tenantCut", fn := fun _ => fun
  | [d1, d2, d3] => { results := [.lit (.bool false)], args := [d1, d2, d3] }
  | _ => none }
def TenantCutWrongFalsely : Prop := tenantCutRow.holds Tryz.pinned (OpenSpec.ofChange tenantCutWrong)

/-- 'cubiclelaw21.TenantAnew': WHATEVER THE INPUT: true; the input reads as it did. -/
def tenantAnewSpec : ChangeSpec := { name := "tenantAnew", fn := fun _ => fun
  | [d1, d2, d3] => { results := [.lit (.bool true)], args := [d1, d2, d3] }
  | _ => none }
def tenantAnewRow : OpenClaim := { program := "ytehihnapbpcfbaagreat", sum := "0d24e062a6a05f6840100aba6ef20d4d20bc2ee4934a885f8fe5c8624ef51ce8", func := "cubicle/cubiclelaw21.TenantAnew", spec := "tenantAnew", unfollowed := true, recurses := true, apart := false }
def TenantAnewSaid : Prop := tenantAnewRow.holds Tryz.pinned (OpenSpec.ofChange tenantAnewSpec)

/-- ITS FALSE NEIGHBOUR: 'it returns false'. Refute it at one input. -/
def tenantAnewWrong : ChangeSpec := { name := "tenantAnew", fn := fun _ => fun
  | [d1, d2, d3] => { results := [.lit (.bool false)], args := [d1, d2, d3] }
  | _ => none }
def TenantAnewWrongFalsely : Prop := tenantAnewRow.holds Tryz.pinned (OpenSpec.ofChange tenantAnewWrong)

/- THE SECOND FORM. 'bulk': how many values and letters a reading holds, each counted each time it is reached (what is shared counts as often as it is met; a slice's spare places count too). A statement '..UptoSaid' is the law's where the arguments, and the package variables that the reading takes, are together of bulk at most 1048576: NARROWER than '..Said'. Prove '..Said' where nothing that the law and all that it calls make is longer than what came in: it says more and counts as full. Else prove '..UptoSaid'. A law counts once. -/
mutual
def uptoBulk {H : Type} : DataW H → Nat
  | .lit (.string bytes) => bytes.length + 1
  | .lit _ => 1
  | .nil => 1
  | .ptr d => uptoBulk d + 1
  | .slice elems spare => uptoBulkAll elems + uptoBulkAll spare + 1
  | .agg parts => uptoBulkAll parts + 1
  | .iface _ d => uptoBulk d + 1
  | .map entries => uptoBulkEntries entries + 1
  | .held _ => 1
def uptoBulkAll {H : Type} : List (DataW H) → Nat
  | [] => 0
  | d :: r => uptoBulk d + uptoBulkAll r
def uptoBulkEntries {H : Type} : List (Lit × DataW H) → Nat
  | [] => 0
  | x :: r => uptoBulkEntry x + uptoBulkEntries r
def uptoBulkEntry {H : Type} : Lit × DataW H → Nat
  | (.string bytes, d) => bytes.length + uptoBulk d + 1
  | (_, d) => uptoBulk d + 1
 end
def uptoSmall : (H : Type) → List (DataW H) → Bool := fun _ ds => decide (uptoBulkAll ds ≤ 1048576)
def OpenSpec.upto (s : _root_.Go.ChangeSpec) : _root_.Go.OpenSpec := { _root_.Go.OpenSpec.ofChange s with cond := some uptoSmall }

/-- 'cubiclelaw20.RevokeHalf', WHERE WHAT IT READS IS OF BULK AT MOST 1048576: true; the input reads as it did. -/
def revokeHalfUptoRow : OpenClaim := { program := "ytehihnapbpcfbaagreat", sum := "0d24e062a6a05f6840100aba6ef20d4d20bc2ee4934a885f8fe5c8624ef51ce8", func := "cubicle/cubiclelaw20.RevokeHalf", spec := "revokeHalf", unfollowed := true, recurses := true, apart := false, narrowed := true }
def RevokeHalfUptoSaid : Prop := revokeHalfUptoRow.holds Tryz.pinned (OpenSpec.upto revokeHalfSpec)

/-- 'cubiclelaw19.TaskAlone', WHERE WHAT IT READS IS OF BULK AT MOST 1048576: true; the input reads as it did. -/
def taskAloneUptoRow : OpenClaim := { program := "ytehihnapbpcfbaagreat", sum := "0d24e062a6a05f6840100aba6ef20d4d20bc2ee4934a885f8fe5c8624ef51ce8", func := "cubicle/cubiclelaw19.TaskAlone", spec := "taskAlone", unfollowed := true, recurses := true, apart := false, narrowed := true }
def TaskAloneUptoSaid : Prop := taskAloneUptoRow.holds Tryz.pinned (OpenSpec.upto taskAloneSpec)

/-- 'cubiclelaw19.TaskSame', WHERE WHAT IT READS IS OF BULK AT MOST 1048576: true; the input reads as it did. -/
def taskSameUptoRow : OpenClaim := { program := "ytehihnapbpcfbaagreat", sum := "0d24e062a6a05f6840100aba6ef20d4d20bc2ee4934a885f8fe5c8624ef51ce8", func := "cubicle/cubiclelaw19.TaskSame", spec := "taskSame", unfollowed := true, recurses := true, apart := false, narrowed := true }
def TaskSameUptoSaid : Prop := taskSameUptoRow.holds Tryz.pinned (OpenSpec.upto taskSameSpec)

/-- 'cubiclelaw19.TaskBad', WHERE WHAT IT READS IS OF BULK AT MOST 1048576: true; the input reads as it did. -/
def taskBadUptoRow : OpenClaim := { program := "ytehihnapbpcfbaagreat", sum := "0d24e062a6a05f6840100aba6ef20d4d20bc2ee4934a885f8fe5c8624ef51ce8", func := "cubicle/cubiclelaw19.TaskBad", spec := "taskBad", unfollowed := true, recurses := true, apart := false, narrowed := true }
def TaskBadUptoSaid : Prop := taskBadUptoRow.holds Tryz.pinned (OpenSpec.upto taskBadSpec)

/-- 'cubiclelaw19.TaskClears', WHERE WHAT IT READS IS OF BULK AT MOST 1048576: true; the input reads as it did. -/
def taskClearsUptoRow : OpenClaim := { program := "ytehihnapbpcfbaagreat", sum := "0d24e062a6a05f6840100aba6ef20d4d20bc2ee4934a885f8fe5c8624ef51ce8", func := "cubicle/cubiclelaw19.TaskClears", spec := "taskClears", unfollowed := true, recurses := true, apart := false, narrowed := true }
def TaskClearsUptoSaid : Prop := taskClearsUptoRow.holds Tryz.pinned (OpenSpec.upto taskClearsSpec)

/-- 'cubiclelaw20.RevokeUsed', WHERE WHAT IT READS IS OF BULK AT MOST 1048576: true; the input reads as it did. -/
def revokeUsedUptoRow : OpenClaim := { program := "ytehihnapbpcfbaagreat", sum := "0d24e062a6a05f6840100aba6ef20d4d20bc2ee4934a885f8fe5c8624ef51ce8", func := "cubicle/cubiclelaw20.RevokeUsed", spec := "revokeUsed", unfollowed := true, recurses := true, apart := false, narrowed := true }
def RevokeUsedUptoSaid : Prop := revokeUsedUptoRow.holds Tryz.pinned (OpenSpec.upto revokeUsedSpec)

/-- 'cubiclelaw21.TenantCut', WHERE WHAT IT READS IS OF BULK AT MOST 1048576: true; the input reads as it did. -/
def tenantCutUptoRow : OpenClaim := { program := "ytehihnapbpcfbaagreat", sum := "0d24e062a6a05f6840100aba6ef20d4d20bc2ee4934a885f8fe5c8624ef51ce8", func := "cubicle/cubiclelaw21.TenantCut", spec := "tenantCut", unfollowed := true, recurses := true, apart := false, narrowed := true }
def TenantCutUptoSaid : Prop := tenantCutUptoRow.holds Tryz.pinned (OpenSpec.upto tenantCutSpec)

/-- 'cubiclelaw21.TenantAnew', WHERE WHAT IT READS IS OF BULK AT MOST 1048576: true; the input reads as it did. -/
def tenantAnewUptoRow : OpenClaim := { program := "ytehihnapbpcfbaagreat", sum := "0d24e062a6a05f6840100aba6ef20d4d20bc2ee4934a885f8fe5c8624ef51ce8", func := "cubicle/cubiclelaw21.TenantAnew", spec := "tenantAnew", unfollowed := true, recurses := true, apart := false, narrowed := true }
def TenantAnewUptoSaid : Prop := tenantAnewUptoRow.holds Tryz.pinned (OpenSpec.upto tenantAnewSpec)

end Rows
end Go.Proofs.YtehihnapbpcfbaaGreat
