/-
  No cell of these rows narrows 'for every input' (looked for: loops, veiled, ifaces, maps, wideKeys, modest, calm, conditions, laid).
  DERIVED. THE GIVEN ROWS OF THIS SEAT. 6 by the template 'for every input the law returns true; each argument reads behind the call as it read before'; 0 by the template 'total and deterministic' (their statements: YtdpdlglpfaiebaaTotals.lean).
  GIVEN WITH THE SEED: the statements are not yours to turn. If you find one false, say at which input.
  Laid BY PROGRAM, IN A SANDBOX (cutbox-rows.mjs): the forced cells as the released guide's own fill.sh prints them over the translation ce862461f1c14f7d… (all of the seat's roots in one cut). By AI agents, Wed Nov 11 2026. No macro, syntax, notation, axiom, sorry.
-/
import Derived.Test.YtdpdlglpfaiebaaChecked
import GoSem.Claim
import GoSem.ClaimJoined
import GoSem.ClaimMapViews
import Derived.JoinedTies
import Derived.KernelRfl
namespace Go.Proofs.Ytdpdlglpfaiebaa
/- THE CELL 'sum', in the pinned program and in every row, IS THE sha256 OF THE DUMP (.gsa) THAT YtdpdlglpfaiebaaProg.lean LOADS. Nothing in Lean hashes anything: it is a label: what it is worth is what the hold of that sum in a sandbox is worth. -/
noncomputable def Try.pinned : Pinned := { name := "ytdpdlglpfaiebaa", sum := "ce862461f1c14f7dc0c44903607d6fecadbe36fbb1a63e417ede504f9d090448", checked := Try.checked }
namespace Rows
def none {H : Type} : Left H := { results := [], args := [] }

/-- 'cubiclelaw24.ModelForeign': WHATEVER THE INPUT: true; the input reads as it did. -/
def modelForeignSpec : ChangeSpec := { name := "modelForeign", fn := fun _ => fun
  | [d1, d2] => { results := [.lit (.bool true)], args := [d1, d2] }
  | _ => none }
def modelForeignRow : OpenClaim := { program := "ytdpdlglpfaiebaa", sum := "ce862461f1c14f7dc0c44903607d6fecadbe36fbb1a63e417ede504f9d090448", func := "cubicle/cubiclelaw24.ModelForeign", spec := "modelForeign", inPlace := ["maps.clone"], apart := false }
def ModelForeignSaid : Prop := modelForeignRow.holds Try.pinned (OpenSpec.ofChange modelForeignSpec)

/-- ITS FALSE NEIGHBOUR: 'it returns false'. Refute it at one input. -/
def modelForeignWrong : ChangeSpec := { name := "modelForeign", fn := fun _ => fun
  | [d1, d2] => { results := [.lit (.bool false)], args := [d1, d2] }
  | _ => none }
def ModelForeignWrongFalsely : Prop := modelForeignRow.holds Try.pinned (OpenSpec.ofChange modelForeignWrong)

/-- 'cubiclelaw24.ModelAlone': WHATEVER THE INPUT: true; the input reads as it did. -/
def modelAloneSpec : ChangeSpec := { name := "modelAlone", fn := fun _ => fun
  | [d1, d2] => { results := [.lit (.bool true)], args := [d1, d2] }
  | _ => none }
def modelAloneRow : OpenClaim := { program := "ytdpdlglpfaiebaa", sum := "ce862461f1c14f7dc0c44903607d6fecadbe36fbb1a63e417ede504f9d090448", func := "cubicle/cubiclelaw24.ModelAlone", spec := "modelAlone", inPlace := ["maps.clone"], apart := false }
def ModelAloneSaid : Prop := modelAloneRow.holds Try.pinned (OpenSpec.ofChange modelAloneSpec)

/-- ITS FALSE NEIGHBOUR: 'it returns false'. Refute it at one input. -/
def modelAloneWrong : ChangeSpec := { name := "modelAlone", fn := fun _ => fun
  | [d1, d2] => { results := [.lit (.bool false)], args := [d1, d2] }
  | _ => none }
def ModelAloneWrongFalsely : Prop := modelAloneRow.holds Try.pinned (OpenSpec.ofChange modelAloneWrong)

/-- 'cubiclelaw25.LinearOrders': WHATEVER THE INPUT: true; the input reads as it did. -/
def linearOrdersSpec : ChangeSpec := { name := "linearOrders", fn := fun _ => fun
  | [d1, d2] => { results := [.lit (.bool true)], args := [d1, d2] }
  | _ => none }
def linearOrdersRow : OpenClaim := { program := "ytdpdlglpfaiebaa", sum := "ce862461f1c14f7dc0c44903607d6fecadbe36fbb1a63e417ede504f9d090448", func := "cubicle/cubiclelaw25.LinearOrders", spec := "linearOrders", inPlace := ["maps.clone"], recurses := true, apart := false }
def LinearOrdersSaid : Prop := linearOrdersRow.holds Try.pinned (OpenSpec.ofChange linearOrdersSpec)

/-- ITS FALSE NEIGHBOUR: 'it returns false'. Refute it at one input. -/
def linearOrdersWrong : ChangeSpec := { name := "linearOrders", fn := fun _ => fun
  | [d1, d2] => { results := [.lit (.bool false)], args := [d1, d2] }
  | _ => none }
def LinearOrdersWrongFalsely : Prop := linearOrdersRow.holds Try.pinned (OpenSpec.ofChange linearOrdersWrong)

/-- 'cubiclelaw25.LinearHolds': WHATEVER THE INPUT: true; the input reads as it did. -/
def linearHoldsSpec : ChangeSpec := { name := "linearHolds", fn := fun _ => fun
  | [d1, d2, d3] => { results := [.lit (.bool true)], args := [d1, d2, d3] }
  | _ => none }
def linearHoldsRow : OpenClaim := { program := "ytdpdlglpfaiebaa", sum := "ce862461f1c14f7dc0c44903607d6fecadbe36fbb1a63e417ede504f9d090448", func := "cubicle/cubiclelaw25.LinearHolds", spec := "linearHolds", inPlace := ["maps.clone"], recurses := true, apart := false }
def LinearHoldsSaid : Prop := linearHoldsRow.holds Try.pinned (OpenSpec.ofChange linearHoldsSpec)

/-- ITS FALSE NEIGHBOUR: 'it returns false'. Refute it at one input. -/
def linearHoldsWrong : ChangeSpec := { name := "linearHolds", fn := fun _ => fun
  | [d1, d2, d3] => { results := [.lit (.bool false)], args := [d1, d2, d3] }
  | _ => none }
def LinearHoldsWrongFalsely : Prop := linearHoldsRow.holds Try.pinned (OpenSpec.ofChange linearHoldsWrong)

/-- 'cubiclelaw25.LinearMany': WHATEVER THE INPUT: true; the input reads as it did. -/
def linearManySpec : ChangeSpec := { name := "linearMany", fn := fun _ => fun
  | [d1, d2] => { results := [.lit (.bool true)], args := [d1, d2] }
  | _ => none }
def linearManyRow : OpenClaim := { program := "ytdpdlglpfaiebaa", sum := "ce862461f1c14f7dc0c44903607d6fecadbe36fbb1a63e417ede504f9d090448", func := "cubicle/cubiclelaw25.LinearMany", spec := "linearMany", inPlace := ["maps.clone"], recurses := true, apart := false }
def LinearManySaid : Prop := linearManyRow.holds Try.pinned (OpenSpec.ofChange linearManySpec)

/-- ITS FALSE NEIGHBOUR: 'it returns false'. Refute it at one input. -/
def linearManyWrong : ChangeSpec := { name := "linearMany", fn := fun _ => fun
  | [d1, d2] => { results := [.lit (.bool false)], args := [d1, d2] }
  | _ => none }
def LinearManyWrongFalsely : Prop := linearManyRow.holds Try.pinned (OpenSpec.ofChange linearManyWrong)

/-- 'cubiclelaw25.LinearRow': WHATEVER THE INPUT: true; the input reads as it did. -/
def linearRowSpec : ChangeSpec := { name := "linearRow", fn := fun _ => fun
  | [d1, d2] => { results := [.lit (.bool true)], args := [d1, d2] }
  | _ => none }
def linearRowRow : OpenClaim := { program := "ytdpdlglpfaiebaa", sum := "ce862461f1c14f7dc0c44903607d6fecadbe36fbb1a63e417ede504f9d090448", func := "cubicle/cubiclelaw25.LinearRow", spec := "linearRow", inPlace := ["maps.clone"], recurses := true, apart := false }
def LinearRowSaid : Prop := linearRowRow.holds Try.pinned (OpenSpec.ofChange linearRowSpec)

/-- ITS FALSE NEIGHBOUR: 'it returns false'. Refute it at one input. -/
def linearRowWrong : ChangeSpec := { name := "linearRow", fn := fun _ => fun
  | [d1, d2] => { results := [.lit (.bool false)], args := [d1, d2] }
  | _ => none }
def LinearRowWrongFalsely : Prop := linearRowRow.holds Try.pinned (OpenSpec.ofChange linearRowWrong)

/- THE SECOND FORM. 'bulk': how many values and letters a reading holds, each counted each time it is reached (what is shared counts as often as it is met; a slice's spare places count too). A statement '..UptoSaid' is the law's where the arguments, and the package variables that the reading takes, are together of bulk at most 1048576: NARROWER than '..Said'. Prove '..Said' where nothing that the law and all that it calls make is longer than what came in: it says more and counts as full. Else prove '..UptoSaid'. A law counts once. -/
mutual
def uptoBulk {H : Type} : DataW H → Nat
  | .lit (.string bytes) => bytes.length + 1
  | .lit _ => 1
  | .nil => 1
  | .ptr d => uptoBulk d + 1
  | .slice elems spare => uptoBulkAll elems + uptoBulkAll spare + 1
  | .agg parts => uptoBulkAll parts + 1
  | .iface _ d => uptoBulk d + 1
  | .map entries => uptoBulkEntries entries + 1
  | .held _ => 1
def uptoBulkAll {H : Type} : List (DataW H) → Nat
  | [] => 0
  | d :: r => uptoBulk d + uptoBulkAll r
def uptoBulkEntries {H : Type} : List (Lit × DataW H) → Nat
  | [] => 0
  | x :: r => uptoBulkEntry x + uptoBulkEntries r
def uptoBulkEntry {H : Type} : Lit × DataW H → Nat
  | (.string bytes, d) => bytes.length + uptoBulk d + 1
  | (_, d) => uptoBulk d + 1
 end
def uptoSmall : (H : Type) → List (DataW H) → Bool := fun _ ds => decide (uptoBulkAll ds ≤ 1048576)
def OpenSpec.upto (s : _root_.Go.ChangeSpec) : _root_.Go.OpenSpec := { _root_.Go.OpenSpec.ofChange s with cond := some uptoSmall }

/-- 'cubiclelaw24.ModelForeign', WHERE WHAT IT READS IS OF BULK AT MOST 1048576: true; the input reads as it did. -/
def modelForeignUptoRow : OpenClaim := { program := "ytdpdlglpfaiebaa", sum := "ce862461f1c14f7dc0c44903607d6fecadbe36fbb1a63e417ede504f9d090448", func := "cubicle/cubiclelaw24.ModelForeign", spec := "modelForeign", inPlace := ["maps.clone"], apart := false, narrowed := true }
def ModelForeignUptoSaid : Prop := modelForeignUptoRow.holds Try.pinned (OpenSpec.upto modelForeignSpec)

/-- 'cubiclelaw24.ModelAlone', WHERE WHAT IT READS IS OF BULK AT MOST 1048576: true; the input reads as it did. -/
def modelAloneUptoRow : OpenClaim := { program := "ytdpdlglpfaiebaa", sum := "ce862461f1c14f7dc0c44903607d6fecadbe36fbb1a63e417ede504f9d090448", func := "cubicle/cubiclelaw24.ModelAlone", spec := "modelAlone", inPlace := ["maps.clone"], apart := false, narrowed := true }
def ModelAloneUptoSaid : Prop := modelAloneUptoRow.holds Try.pinned (OpenSpec.upto modelAloneSpec)

/-- 'cubiclelaw25.LinearOrders', WHERE WHAT IT READS IS OF BULK AT MOST 1048576: true; the input reads as it did. -/
def linearOrdersUptoRow : OpenClaim := { program := "ytdpdlglpfaiebaa", sum := "ce862461f1c14f7dc0c44903607d6fecadbe36fbb1a63e417ede504f9d090448", func := "cubicle/cubiclelaw25.LinearOrders", spec := "linearOrders", inPlace := ["maps.clone"], recurses := true, apart := false, narrowed := true }
def LinearOrdersUptoSaid : Prop := linearOrdersUptoRow.holds Try.pinned (OpenSpec.upto linearOrdersSpec)

/-- 'cubiclelaw25.LinearHolds', WHERE WHAT IT READS IS OF BULK AT MOST 1048576: true; the input reads as it did. -/
def linearHoldsUptoRow : OpenClaim := { program := "ytdpdlglpfaiebaa", sum := "ce862461f1c14f7dc0c44903607d6fecadbe36fbb1a63e417ede504f9d090448", func := "cubicle/cubiclelaw25.LinearHolds", spec := "linearHolds", inPlace := ["maps.clone"], recurses := true, apart := false, narrowed := true }
def LinearHoldsUptoSaid : Prop := linearHoldsUptoRow.holds Try.pinned (OpenSpec.upto linearHoldsSpec)

/-- 'cubiclelaw25.LinearMany', WHERE WHAT IT READS IS OF BULK AT MOST 1048576: true; the input reads as it did. -/
def linearManyUptoRow : OpenClaim := { program := "ytdpdlglpfaiebaa", sum := "ce862461f1c14f7dc0c44903607d6fecadbe36fbb1a63e417ede504f9d090448", func := "cubicle/cubiclelaw25.LinearMany", spec := "linearMany", inPlace := ["maps.clone"], recurses := true, apart := false, narrowed := true }
def LinearManyUptoSaid : Prop := linearManyUptoRow.holds Try.pinned (OpenSpec.upto linearManySpec)

/-- 'cubiclelaw25.LinearRow', WHERE WHAT IT READS IS OF BULK AT MOST 1048576: true; the input reads as it did. -/
def linearRowUptoRow : OpenClaim := { program := "ytdpdlglpfaiebaa", sum := "ce862461f1c14f7dc0c44903607d6fecadbe36fbb1a63e417ede504f9d090448", func := "cubicle/cubiclelaw25.LinearRow", spec := "linearRow", inPlace := ["maps.clone"], recurses := true, apart := false, narrowed := true }
def LinearRowUptoSaid : Prop := linearRowUptoRow.holds Try.pinned (OpenSpec.upto linearRowSpec)

end Rows
end Go.Proofs.Ytdpdlglpfaiebaa
