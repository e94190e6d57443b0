/-
  No cell of these rows narrows 'for every input' (looked for: loops, veiled, ifaces, maps, wideKeys, modest, calm, conditions, laid).
  DERIVED. THE GIVEN ROWS OF THIS SEAT. 6 by the template 'for every input the law returns true; each argument reads behind the call as it read before'; 0 by the template 'total and deterministic' (their statements: YtkhjkfbgcpjphaaTotals.lean).
  GIVEN WITH THE SEED: the statements are not yours to turn. If you find one false, say at which input.
  Laid BY PROGRAM, IN A SANDBOX (cutbox-rows.mjs): the forced cells as the released guide's own fill.sh prints them over the translation 75274660b811c0c3… (all of the seat's roots in one cut). By AI agents, Wed Nov 11 2026. No macro, syntax, notation, axiom, sorry.
-/
import Derived.Test.YtkhjkfbgcpjphaaChecked
import GoSem.Claim
import GoSem.ClaimJoined
import GoSem.ClaimMapViews
import Derived.JoinedTies
import Derived.KernelRfl
namespace Go.Proofs.Ytkhjkfbgcpjphaa
/- THE CELL 'sum', in the pinned program and in every row, IS THE sha256 OF THE DUMP (.gsa) THAT YtkhjkfbgcpjphaaProg.lean LOADS. Nothing in Lean hashes anything: it is a label: what it is worth is what the hold of that sum in a sandbox is worth. -/
noncomputable def Try.pinned : Pinned := { name := "ytkhjkfbgcpjphaa", sum := "75274660b811c0c3faf57fcbf3c1e980928ba2036c9372c275c29e32825464ca", checked := Try.checked }
namespace Rows
def none {H : Type} : Left H := { results := [], args := [] }

/-- 'cubiclelaw21.TenantSeats': WHATEVER THE INPUT: true; the input reads as it did. -/
def tenantSeatsSpec : ChangeSpec := { name := "tenantSeats", fn := fun _ => fun
  | [d1, d2, d3] => { results := [.lit (.bool true)], args := [d1, d2, d3] }
  | _ => none }
def tenantSeatsRow : OpenClaim := { program := "ytkhjkfbgcpjphaa", sum := "75274660b811c0c3faf57fcbf3c1e980928ba2036c9372c275c29e32825464ca", func := "cubicle/cubiclelaw21.TenantSeats", spec := "tenantSeats", unfollowed := true, recurses := true, apart := false }
def TenantSeatsSaid : Prop := tenantSeatsRow.holds Try.pinned (OpenSpec.ofChange tenantSeatsSpec)

/-- ITS FALSE NEIGHBOUR: 'it returns false'. Refute it at one input. -/
def tenantSeatsWrong : ChangeSpec := { name := "tenantSeats", fn := fun _ => fun
  | [d1, d2, d3] => { results := [.lit (.bool false)], args := [d1, d2, d3] }
  | _ => none }
def TenantSeatsWrongFalsely : Prop := tenantSeatsRow.holds Try.pinned (OpenSpec.ofChange tenantSeatsWrong)

/-- 'cubiclelaw20.RevokeSteps': WHATEVER THE INPUT: true; the input reads as it did. -/
def revokeStepsSpec : ChangeSpec := { name := "revokeSteps", fn := fun _ => fun
  | [d] => { results := [.lit (.bool true)], args := [d] }
  | _ => none }
def revokeStepsRow : OpenClaim := { program := "ytkhjkfbgcpjphaa", sum := "75274660b811c0c3faf57fcbf3c1e980928ba2036c9372c275c29e32825464ca", func := "cubicle/cubiclelaw20.RevokeSteps", spec := "revokeSteps", unfollowed := true, recurses := true, apart := false }
def RevokeStepsSaid : Prop := revokeStepsRow.holds Try.pinned (OpenSpec.ofChange revokeStepsSpec)

/-- ITS FALSE NEIGHBOUR: 'it returns false'. Refute it at one input. -/
def revokeStepsWrong : ChangeSpec := { name := "revokeSteps", fn := fun _ => fun
  | [d] => { results := [.lit (.bool false)], args := [d] }
  | _ => none }
def RevokeStepsWrongFalsely : Prop := revokeStepsRow.holds Try.pinned (OpenSpec.ofChange revokeStepsWrong)

/-- 'cubiclelaw20.RevokeDrains': WHATEVER THE INPUT: true; the input reads as it did. -/
def revokeDrainsSpec : ChangeSpec := { name := "revokeDrains", fn := fun _ => fun
  | [d1, d2] => { results := [.lit (.bool true)], args := [d1, d2] }
  | _ => none }
def revokeDrainsRow : OpenClaim := { program := "ytkhjkfbgcpjphaa", sum := "75274660b811c0c3faf57fcbf3c1e980928ba2036c9372c275c29e32825464ca", func := "cubicle/cubiclelaw20.RevokeDrains", spec := "revokeDrains", unfollowed := true, recurses := true, apart := false }
def RevokeDrainsSaid : Prop := revokeDrainsRow.holds Try.pinned (OpenSpec.ofChange revokeDrainsSpec)

/-- ITS FALSE NEIGHBOUR: 'it returns false'. Refute it at one input. -/
def revokeDrainsWrong : ChangeSpec := { name := "revokeDrains", fn := fun _ => fun
  | [d1, d2] => { results := [.lit (.bool false)], args := [d1, d2] }
  | _ => none }
def RevokeDrainsWrongFalsely : Prop := revokeDrainsRow.holds Try.pinned (OpenSpec.ofChange revokeDrainsWrong)

/-- 'cubiclelaw20.RevokeAgain': WHATEVER THE INPUT: true; the input reads as it did. -/
def revokeAgainSpec : ChangeSpec := { name := "revokeAgain", fn := fun _ => fun
  | [d1, d2] => { results := [.lit (.bool true)], args := [d1, d2] }
  | _ => none }
def revokeAgainRow : OpenClaim := { program := "ytkhjkfbgcpjphaa", sum := "75274660b811c0c3faf57fcbf3c1e980928ba2036c9372c275c29e32825464ca", func := "cubicle/cubiclelaw20.RevokeAgain", spec := "revokeAgain", unfollowed := true, recurses := true, apart := false }
def RevokeAgainSaid : Prop := revokeAgainRow.holds Try.pinned (OpenSpec.ofChange revokeAgainSpec)

/-- ITS FALSE NEIGHBOUR: 'it returns false'. Refute it at one input. -/
def revokeAgainWrong : ChangeSpec := { name := "revokeAgain", fn := fun _ => fun
  | [d1, d2] => { results := [.lit (.bool false)], args := [d1, d2] }
  | _ => none }
def RevokeAgainWrongFalsely : Prop := revokeAgainRow.holds Try.pinned (OpenSpec.ofChange revokeAgainWrong)

/-- 'cubiclelaw21.TenantOthers': WHATEVER THE INPUT: true; the input reads as it did. -/
def tenantOthersSpec : ChangeSpec := { name := "tenantOthers", fn := fun _ => fun
  | [d1, d2, d3] => { results := [.lit (.bool true)], args := [d1, d2, d3] }
  | _ => none }
def tenantOthersRow : OpenClaim := { program := "ytkhjkfbgcpjphaa", sum := "75274660b811c0c3faf57fcbf3c1e980928ba2036c9372c275c29e32825464ca", func := "cubicle/cubiclelaw21.TenantOthers", spec := "tenantOthers", unfollowed := true, recurses := true, apart := false }
def TenantOthersSaid : Prop := tenantOthersRow.holds Try.pinned (OpenSpec.ofChange tenantOthersSpec)

/-- ITS FALSE NEIGHBOUR: 'it returns false'. Refute it at one input. -/
def tenantOthersWrong : ChangeSpec := { name := "tenantOthers", fn := fun _ => fun
  | [d1, d2, d3] => { results := [.lit (.bool false)], args := [d1, d2, d3] }
  | _ => none }
def TenantOthersWrongFalsely : Prop := tenantOthersRow.holds Try.pinned (OpenSpec.ofChange tenantOthersWrong)

/-- 'cubiclelaw21.TenantEpochs': WHATEVER THE INPUT: true; the input reads as it did. -/
def tenantEpochsSpec : ChangeSpec := { name := "tenantEpochs", fn := fun _ => fun
  | [d] => { results := [.lit (.bool true)], args := [d] }
  | _ => none }
def tenantEpochsRow : OpenClaim := { program := "ytkhjkfbgcpjphaa", sum := "75274660b811c0c3faf57fcbf3c1e980928ba2036c9372c275c29e32825464ca", func := "cubicle/cubiclelaw21.TenantEpochs", spec := "tenantEpochs", unfollowed := true, recurses := true, apart := false }
def TenantEpochsSaid : Prop := tenantEpochsRow.holds Try.pinned (OpenSpec.ofChange tenantEpochsSpec)

/-- ITS FALSE NEIGHBOUR: 'it returns false'. Refute it at one input. -/
def tenantEpochsWrong : ChangeSpec := { name := "tenantEpochs", fn := fun _ => fun
  | [d] => { results := [.lit (.bool false)], args := [d] }
  | _ => none }
def TenantEpochsWrongFalsely : Prop := tenantEpochsRow.holds Try.pinned (OpenSpec.ofChange tenantEpochsWrong)

/- THE SECOND FORM. 'bulk': how many values and letters a reading holds, each counted each time it is reached (what is shared counts as often as it is met; a slice's spare places count too). A statement '..UptoSaid' is the law's where the arguments, and the package variables that the reading takes, are together of bulk at most 1048576: NARROWER than '..Said'. Prove '..Said' where nothing that the law and all that it calls make is longer than what came in: it says more and counts as full. Else prove '..UptoSaid'. A law counts once. -/
mutual
def uptoBulk {H : Type} : DataW H → Nat
  | .lit (.string bytes) => bytes.length + 1
  | .lit _ => 1
  | .nil => 1
  | .ptr d => uptoBulk d + 1
  | .slice elems spare => uptoBulkAll elems + uptoBulkAll spare + 1
  | .agg parts => uptoBulkAll parts + 1
  | .iface _ d => uptoBulk d + 1
  | .map entries => uptoBulkEntries entries + 1
  | .held _ => 1
def uptoBulkAll {H : Type} : List (DataW H) → Nat
  | [] => 0
  | d :: r => uptoBulk d + uptoBulkAll r
def uptoBulkEntries {H : Type} : List (Lit × DataW H) → Nat
  | [] => 0
  | x :: r => uptoBulkEntry x + uptoBulkEntries r
def uptoBulkEntry {H : Type} : Lit × DataW H → Nat
  | (.string bytes, d) => bytes.length + uptoBulk d + 1
  | (_, d) => uptoBulk d + 1
 end
def uptoSmall : (H : Type) → List (DataW H) → Bool := fun _ ds => decide (uptoBulkAll ds ≤ 1048576)
def OpenSpec.upto (s : _root_.Go.ChangeSpec) : _root_.Go.OpenSpec := { _root_.Go.OpenSpec.ofChange s with cond := some uptoSmall }

/-- 'cubiclelaw21.TenantSeats', WHERE WHAT IT READS IS OF BULK AT MOST 1048576: true; the input reads as it did. -/
def tenantSeatsUptoRow : OpenClaim := { program := "ytkhjkfbgcpjphaa", sum := "75274660b811c0c3faf57fcbf3c1e980928ba2036c9372c275c29e32825464ca", func := "cubicle/cubiclelaw21.TenantSeats", spec := "tenantSeats", unfollowed := true, recurses := true, apart := false, narrowed := true }
def TenantSeatsUptoSaid : Prop := tenantSeatsUptoRow.holds Try.pinned (OpenSpec.upto tenantSeatsSpec)

/-- 'cubiclelaw20.RevokeSteps', WHERE WHAT IT READS IS OF BULK AT MOST 1048576: true; the input reads as it did. -/
def revokeStepsUptoRow : OpenClaim := { program := "ytkhjkfbgcpjphaa", sum := "75274660b811c0c3faf57fcbf3c1e980928ba2036c9372c275c29e32825464ca", func := "cubicle/cubiclelaw20.RevokeSteps", spec := "revokeSteps", unfollowed := true, recurses := true, apart := false, narrowed := true }
def RevokeStepsUptoSaid : Prop := revokeStepsUptoRow.holds Try.pinned (OpenSpec.upto revokeStepsSpec)

/-- 'cubiclelaw20.RevokeDrains', WHERE WHAT IT READS IS OF BULK AT MOST 1048576: true; the input reads as it did. -/
def revokeDrainsUptoRow : OpenClaim := { program := "ytkhjkfbgcpjphaa", sum := "75274660b811c0c3faf57fcbf3c1e980928ba2036c9372c275c29e32825464ca", func := "cubicle/cubiclelaw20.RevokeDrains", spec := "revokeDrains", unfollowed := true, recurses := true, apart := false, narrowed := true }
def RevokeDrainsUptoSaid : Prop := revokeDrainsUptoRow.holds Try.pinned (OpenSpec.upto revokeDrainsSpec)

/-- 'cubiclelaw20.RevokeAgain', WHERE WHAT IT READS IS OF BULK AT MOST 1048576: true; the input reads as it did. -/
def revokeAgainUptoRow : OpenClaim := { program := "ytkhjkfbgcpjphaa", sum := "75274660b811c0c3faf57fcbf3c1e980928ba2036c9372c275c29e32825464ca", func := "cubicle/cubiclelaw20.RevokeAgain", spec := "revokeAgain", unfollowed := true, recurses := true, apart := false, narrowed := true }
def RevokeAgainUptoSaid : Prop := revokeAgainUptoRow.holds Try.pinned (OpenSpec.upto revokeAgainSpec)

/-- 'cubiclelaw21.TenantOthers', WHERE WHAT IT READS IS OF BULK AT MOST 1048576: true; the input reads as it did. -/
def tenantOthersUptoRow : OpenClaim := { program := "ytkhjkfbgcpjphaa", sum := "75274660b811c0c3faf57fcbf3c1e980928ba2036c9372c275c29e32825464ca", func := "cubicle/cubiclelaw21.TenantOthers", spec := "tenantOthers", unfollowed := true, recurses := true, apart := false, narrowed := true }
def TenantOthersUptoSaid : Prop := tenantOthersUptoRow.holds Try.pinned (OpenSpec.upto tenantOthersSpec)

/-- 'cubiclelaw21.TenantEpochs', WHERE WHAT IT READS IS OF BULK AT MOST 1048576: true; the input reads as it did. -/
def tenantEpochsUptoRow : OpenClaim := { program := "ytkhjkfbgcpjphaa", sum := "75274660b811c0c3faf57fcbf3c1e980928ba2036c9372c275c29e32825464ca", func := "cubicle/cubiclelaw21.TenantEpochs", spec := "tenantEpochs", unfollowed := true, recurses := true, apart := false, narrowed := true }
def TenantEpochsUptoSaid : Prop := tenantEpochsUptoRow.holds Try.pinned (OpenSpec.upto tenantEpochsSpec)

end Rows
end Go.Proofs.Ytkhjkfbgcpjphaa
