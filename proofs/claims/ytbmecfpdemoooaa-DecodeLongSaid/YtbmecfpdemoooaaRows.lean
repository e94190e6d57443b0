/-
  No cell of these rows narrows 'for every input' (looked for: loops, veiled, ifaces, maps, wideKeys, modest, calm, conditions, laid).
  DERIVED. THE GIVEN ROWS OF THIS SEAT. 12 by the template 'for every input the law returns true; each argument reads behind the call as it read before'; 0 by the template 'total and deterministic' (their statements: YtbmecfpdemoooaaTotals.lean).
  GIVEN WITH THE SEED: the statements are not yours to turn. If you find one false, say at which input.
  Laid BY PROGRAM, IN A SANDBOX (cutbox-rows.mjs): the forced cells as the released guide's own fill.sh prints them over the translation 352adbbf56d725d9… (all of the seat's roots in one cut). By AI agents, Wed Nov 11 2026. No macro, syntax, notation, axiom, sorry.
-/
import Derived.Test.YtbmecfpdemoooaaChecked
import GoSem.Claim
import GoSem.ClaimJoined
import GoSem.ClaimMapViews
import Derived.JoinedTies
import Derived.KernelRfl
namespace Go.Proofs.Ytbmecfpdemoooaa
/- THE CELL 'sum', in the pinned program and in every row, IS THE sha256 OF THE DUMP (.gsa) THAT YtbmecfpdemoooaaProg.lean LOADS. Nothing in Lean hashes anything: it is a label: what it is worth is what the hold of that sum in a sandbox is worth. -/
noncomputable def Try.pinned : Pinned := { name := "ytbmecfpdemoooaa", sum := "352adbbf56d725d989abc4b6e3685816fc57727f10ddc360042f42dc2fc4d6a9", checked := Try.checked }
namespace Rows
def none {H : Type} : Left H := { results := [], args := [] }

/-- 'cubiclelaw01.FieldGets': WHATEVER THE INPUT: true; the input reads as it did. -/
def fieldGetsSpec : ChangeSpec := { name := "fieldGets", fn := fun _ => fun
  | [d1, d2, d3] => { results := [.lit (.bool true)], args := [d1, d2, d3] }
  | _ => none }
def fieldGetsRow : OpenClaim := { program := "ytbmecfpdemoooaa", sum := "352adbbf56d725d989abc4b6e3685816fc57727f10ddc360042f42dc2fc4d6a9", func := "cubicle/cubiclelaw01.FieldGets", spec := "fieldGets", apart := false }
def FieldGetsSaid : Prop := fieldGetsRow.holds Try.pinned (OpenSpec.ofChange fieldGetsSpec)

/-- ITS FALSE NEIGHBOUR: 'it returns false'. Refute it at one input. -/
def fieldGetsWrong : ChangeSpec := { name := "fieldGets", fn := fun _ => fun
  | [d1, d2, d3] => { results := [.lit (.bool false)], args := [d1, d2, d3] }
  | _ => none }
def FieldGetsWrongFalsely : Prop := fieldGetsRow.holds Try.pinned (OpenSpec.ofChange fieldGetsWrong)

/-- 'cubiclelaw01.FieldPuts': WHATEVER THE INPUT: true; the input reads as it did. -/
def fieldPutsSpec : ChangeSpec := { name := "fieldPuts", fn := fun _ => fun
  | [d1, d2, d3] => { results := [.lit (.bool true)], args := [d1, d2, d3] }
  | _ => none }
def fieldPutsRow : OpenClaim := { program := "ytbmecfpdemoooaa", sum := "352adbbf56d725d989abc4b6e3685816fc57727f10ddc360042f42dc2fc4d6a9", func := "cubicle/cubiclelaw01.FieldPuts", spec := "fieldPuts", apart := false }
def FieldPutsSaid : Prop := fieldPutsRow.holds Try.pinned (OpenSpec.ofChange fieldPutsSpec)

/-- ITS FALSE NEIGHBOUR: 'it returns false'. Refute it at one input. -/
def fieldPutsWrong : ChangeSpec := { name := "fieldPuts", fn := fun _ => fun
  | [d1, d2, d3] => { results := [.lit (.bool false)], args := [d1, d2, d3] }
  | _ => none }
def FieldPutsWrongFalsely : Prop := fieldPutsRow.holds Try.pinned (OpenSpec.ofChange fieldPutsWrong)

/-- 'cubiclelaw01.FieldApart': WHATEVER THE INPUT: true; the input reads as it did. -/
def fieldApartSpec : ChangeSpec := { name := "fieldApart", fn := fun _ => fun
  | [d1, d2, d3] => { results := [.lit (.bool true)], args := [d1, d2, d3] }
  | _ => none }
def fieldApartRow : OpenClaim := { program := "ytbmecfpdemoooaa", sum := "352adbbf56d725d989abc4b6e3685816fc57727f10ddc360042f42dc2fc4d6a9", func := "cubicle/cubiclelaw01.FieldApart", spec := "fieldApart", apart := false }
def FieldApartSaid : Prop := fieldApartRow.holds Try.pinned (OpenSpec.ofChange fieldApartSpec)

/-- ITS FALSE NEIGHBOUR: 'it returns false'. Refute it at one input. -/
def fieldApartWrong : ChangeSpec := { name := "fieldApart", fn := fun _ => fun
  | [d1, d2, d3] => { results := [.lit (.bool false)], args := [d1, d2, d3] }
  | _ => none }
def FieldApartWrongFalsely : Prop := fieldApartRow.holds Try.pinned (OpenSpec.ofChange fieldApartWrong)

/-- 'cubiclelaw18.DecodeBytes': WHATEVER THE INPUT: true; the input reads as it did. -/
def decodeBytesSpec : ChangeSpec := { name := "decodeBytes", fn := fun _ => fun
  | [d] => { results := [.lit (.bool true)], args := [d] }
  | _ => none }
def decodeBytesRow : OpenClaim := { program := "ytbmecfpdemoooaa", sum := "352adbbf56d725d989abc4b6e3685816fc57727f10ddc360042f42dc2fc4d6a9", func := "cubicle/cubiclelaw18.DecodeBytes", spec := "decodeBytes", apart := false }
def DecodeBytesSaid : Prop := decodeBytesRow.holds Try.pinned (OpenSpec.ofChange decodeBytesSpec)

/-- ITS FALSE NEIGHBOUR: 'it returns false'. Refute it at one input. -/
def decodeBytesWrong : ChangeSpec := { name := "decodeBytes", fn := fun _ => fun
  | [d] => { results := [.lit (.bool false)], args := [d] }
  | _ => none }
def DecodeBytesWrongFalsely : Prop := decodeBytesRow.holds Try.pinned (OpenSpec.ofChange decodeBytesWrong)

/-- 'cubiclelaw18.DecodeApart': WHATEVER THE INPUT: true; the input reads as it did. -/
def decodeApartSpec : ChangeSpec := { name := "decodeApart", fn := fun _ => fun
  | [d1, d2] => { results := [.lit (.bool true)], args := [d1, d2] }
  | _ => none }
def decodeApartRow : OpenClaim := { program := "ytbmecfpdemoooaa", sum := "352adbbf56d725d989abc4b6e3685816fc57727f10ddc360042f42dc2fc4d6a9", func := "cubicle/cubiclelaw18.DecodeApart", spec := "decodeApart", apart := false }
def DecodeApartSaid : Prop := decodeApartRow.holds Try.pinned (OpenSpec.ofChange decodeApartSpec)

/-- ITS FALSE NEIGHBOUR: 'it returns false'. Refute it at one input. -/
def decodeApartWrong : ChangeSpec := { name := "decodeApart", fn := fun _ => fun
  | [d1, d2] => { results := [.lit (.bool false)], args := [d1, d2] }
  | _ => none }
def DecodeApartWrongFalsely : Prop := decodeApartRow.holds Try.pinned (OpenSpec.ofChange decodeApartWrong)

/-- 'cubiclelaw18.DecodeLong': WHATEVER THE INPUT: true; the input reads as it did. -/
def decodeLongSpec : ChangeSpec := { name := "decodeLong", fn := fun _ => fun
  | [d] => { results := [.lit (.bool true)], args := [d] }
  | _ => none }
def decodeLongRow : OpenClaim := { program := "ytbmecfpdemoooaa", sum := "352adbbf56d725d989abc4b6e3685816fc57727f10ddc360042f42dc2fc4d6a9", func := "cubicle/cubiclelaw18.DecodeLong", spec := "decodeLong", apart := false }
def DecodeLongSaid : Prop := decodeLongRow.holds Try.pinned (OpenSpec.ofChange decodeLongSpec)

/-- ITS FALSE NEIGHBOUR: 'it returns false'. Refute it at one input. -/
def decodeLongWrong : ChangeSpec := { name := "decodeLong", fn := fun _ => fun
  | [d] => { results := [.lit (.bool false)], args := [d] }
  | _ => none }
def DecodeLongWrongFalsely : Prop := decodeLongRow.holds Try.pinned (OpenSpec.ofChange decodeLongWrong)

/-- 'cubiclelaw01.FieldSplits': WHATEVER THE INPUT: true; the input reads as it did. -/
def fieldSplitsSpec : ChangeSpec := { name := "fieldSplits", fn := fun _ => fun
  | [d1, d2] => { results := [.lit (.bool true)], args := [d1, d2] }
  | _ => none }
def fieldSplitsRow : OpenClaim := { program := "ytbmecfpdemoooaa", sum := "352adbbf56d725d989abc4b6e3685816fc57727f10ddc360042f42dc2fc4d6a9", func := "cubicle/cubiclelaw01.FieldSplits", spec := "fieldSplits", apart := false }
def FieldSplitsSaid : Prop := fieldSplitsRow.holds Try.pinned (OpenSpec.ofChange fieldSplitsSpec)

/-- ITS FALSE NEIGHBOUR: 'it returns false'. Refute it at one input. -/
def fieldSplitsWrong : ChangeSpec := { name := "fieldSplits", fn := fun _ => fun
  | [d1, d2] => { results := [.lit (.bool false)], args := [d1, d2] }
  | _ => none }
def FieldSplitsWrongFalsely : Prop := fieldSplitsRow.holds Try.pinned (OpenSpec.ofChange fieldSplitsWrong)

/-- 'cubiclelaw01.FieldPacks': WHATEVER THE INPUT: true; the input reads as it did. -/
def fieldPacksSpec : ChangeSpec := { name := "fieldPacks", fn := fun _ => fun
  | [d1, d2] => { results := [.lit (.bool true)], args := [d1, d2] }
  | _ => none }
def fieldPacksRow : OpenClaim := { program := "ytbmecfpdemoooaa", sum := "352adbbf56d725d989abc4b6e3685816fc57727f10ddc360042f42dc2fc4d6a9", func := "cubicle/cubiclelaw01.FieldPacks", spec := "fieldPacks", apart := false }
def FieldPacksSaid : Prop := fieldPacksRow.holds Try.pinned (OpenSpec.ofChange fieldPacksSpec)

/-- ITS FALSE NEIGHBOUR: 'it returns false'. Refute it at one input. -/
def fieldPacksWrong : ChangeSpec := { name := "fieldPacks", fn := fun _ => fun
  | [d1, d2] => { results := [.lit (.bool false)], args := [d1, d2] }
  | _ => none }
def FieldPacksWrongFalsely : Prop := fieldPacksRow.holds Try.pinned (OpenSpec.ofChange fieldPacksWrong)

/-- 'cubiclelaw01.FieldOrder': WHATEVER THE INPUT: true; the input reads as it did. -/
def fieldOrderSpec : ChangeSpec := { name := "fieldOrder", fn := fun _ => fun
  | [d1, d2] => { results := [.lit (.bool true)], args := [d1, d2] }
  | _ => none }
def fieldOrderRow : OpenClaim := { program := "ytbmecfpdemoooaa", sum := "352adbbf56d725d989abc4b6e3685816fc57727f10ddc360042f42dc2fc4d6a9", func := "cubicle/cubiclelaw01.FieldOrder", spec := "fieldOrder", apart := false }
def FieldOrderSaid : Prop := fieldOrderRow.holds Try.pinned (OpenSpec.ofChange fieldOrderSpec)

/-- ITS FALSE NEIGHBOUR: 'it returns false'. Refute it at one input. -/
def fieldOrderWrong : ChangeSpec := { name := "fieldOrder", fn := fun _ => fun
  | [d1, d2] => { results := [.lit (.bool false)], args := [d1, d2] }
  | _ => none }
def FieldOrderWrongFalsely : Prop := fieldOrderRow.holds Try.pinned (OpenSpec.ofChange fieldOrderWrong)

/-- 'cubiclelaw01.FieldBack': WHATEVER THE INPUT: true; the input reads as it did. -/
def fieldBackSpec : ChangeSpec := { name := "fieldBack", fn := fun _ => fun
  | [d1, d2, d3] => { results := [.lit (.bool true)], args := [d1, d2, d3] }
  | _ => none }
def fieldBackRow : OpenClaim := { program := "ytbmecfpdemoooaa", sum := "352adbbf56d725d989abc4b6e3685816fc57727f10ddc360042f42dc2fc4d6a9", func := "cubicle/cubiclelaw01.FieldBack", spec := "fieldBack", apart := false }
def FieldBackSaid : Prop := fieldBackRow.holds Try.pinned (OpenSpec.ofChange fieldBackSpec)

/-- ITS FALSE NEIGHBOUR: 'it returns false'. Refute it at one input. -/
def fieldBackWrong : ChangeSpec := { name := "fieldBack", fn := fun _ => fun
  | [d1, d2, d3] => { results := [.lit (.bool false)], args := [d1, d2, d3] }
  | _ => none }
def FieldBackWrongFalsely : Prop := fieldBackRow.holds Try.pinned (OpenSpec.ofChange fieldBackWrong)

/-- 'cubiclelaw07.StateTurns': WHATEVER THE INPUT: true; the input reads as it did. -/
def stateTurnsSpec : ChangeSpec := { name := "stateTurns", fn := fun _ => fun
  | [d1, d2, d3] => { results := [.lit (.bool true)], args := [d1, d2, d3] }
  | _ => none }
def stateTurnsRow : OpenClaim := { program := "ytbmecfpdemoooaa", sum := "352adbbf56d725d989abc4b6e3685816fc57727f10ddc360042f42dc2fc4d6a9", func := "cubicle/cubiclelaw07.StateTurns", spec := "stateTurns", apart := false }
def StateTurnsSaid : Prop := stateTurnsRow.holds Try.pinned (OpenSpec.ofChange stateTurnsSpec)

/-- ITS FALSE NEIGHBOUR: 'it returns false'. Refute it at one input. -/
def stateTurnsWrong : ChangeSpec := { name := "stateTurns", fn := fun _ => fun
  | [d1, d2, d3] => { results := [.lit (.bool false)], args := [d1, d2, d3] }
  | _ => none }
def StateTurnsWrongFalsely : Prop := stateTurnsRow.holds Try.pinned (OpenSpec.ofChange stateTurnsWrong)

/-- 'cubiclelaw07.StateApart': WHATEVER THE INPUT: true; the input reads as it did. -/
def stateApartSpec : ChangeSpec := { name := "stateApart", fn := fun _ => fun
  | [d1, d2, d3] => { results := [.lit (.bool true)], args := [d1, d2, d3] }
  | _ => none }
def stateApartRow : OpenClaim := { program := "ytbmecfpdemoooaa", sum := "352adbbf56d725d989abc4b6e3685816fc57727f10ddc360042f42dc2fc4d6a9", func := "cubicle/cubiclelaw07.StateApart", spec := "stateApart", apart := false }
def StateApartSaid : Prop := stateApartRow.holds Try.pinned (OpenSpec.ofChange stateApartSpec)

/-- ITS FALSE NEIGHBOUR: 'it returns false'. Refute it at one input. -/
def stateApartWrong : ChangeSpec := { name := "stateApart", fn := fun _ => fun
  | [d1, d2, d3] => { results := [.lit (.bool false)], args := [d1, d2, d3] }
  | _ => none }
def StateApartWrongFalsely : Prop := stateApartRow.holds Try.pinned (OpenSpec.ofChange stateApartWrong)

/- THE SECOND FORM. 'bulk': how many values and letters a reading holds, each counted each time it is reached (what is shared counts as often as it is met; a slice's spare places count too). A statement '..UptoSaid' is the law's where the arguments, and the package variables that the reading takes, are together of bulk at most 1048576: NARROWER than '..Said'. Prove '..Said' where nothing that the law and all that it calls make is longer than what came in: it says more and counts as full. Else prove '..UptoSaid'. A law counts once. -/
mutual
def uptoBulk {H : Type} : DataW H → Nat
  | .lit (.string bytes) => bytes.length + 1
  | .lit _ => 1
  | .nil => 1
  | .ptr d => uptoBulk d + 1
  | .slice elems spare => uptoBulkAll elems + uptoBulkAll spare + 1
  | .agg parts => uptoBulkAll parts + 1
  | .iface _ d => uptoBulk d + 1
  | .map entries => uptoBulkEntries entries + 1
  | .held _ => 1
def uptoBulkAll {H : Type} : List (DataW H) → Nat
  | [] => 0
  | d :: r => uptoBulk d + uptoBulkAll r
def uptoBulkEntries {H : Type} : List (Lit × DataW H) → Nat
  | [] => 0
  | x :: r => uptoBulkEntry x + uptoBulkEntries r
def uptoBulkEntry {H : Type} : Lit × DataW H → Nat
  | (.string bytes, d) => bytes.length + uptoBulk d + 1
  | (_, d) => uptoBulk d + 1
 end
def uptoSmall : (H : Type) → List (DataW H) → Bool := fun _ ds => decide (uptoBulkAll ds ≤ 1048576)
def OpenSpec.upto (s : _root_.Go.ChangeSpec) : _root_.Go.OpenSpec := { _root_.Go.OpenSpec.ofChange s with cond := some uptoSmall }

/-- 'cubiclelaw01.FieldGets', WHERE WHAT IT READS IS OF BULK AT MOST 1048576: true; the input reads as it did. -/
def fieldGetsUptoRow : OpenClaim := { program := "ytbmecfpdemoooaa", sum := "352adbbf56d725d989abc4b6e3685816fc57727f10ddc360042f42dc2fc4d6a9", func := "cubicle/cubiclelaw01.FieldGets", spec := "fieldGets", apart := false, narrowed := true }
def FieldGetsUptoSaid : Prop := fieldGetsUptoRow.holds Try.pinned (OpenSpec.upto fieldGetsSpec)

/-- 'cubiclelaw01.FieldPuts', WHERE WHAT IT READS IS OF BULK AT MOST 1048576: true; the input reads as it did. -/
def fieldPutsUptoRow : OpenClaim := { program := "ytbmecfpdemoooaa", sum := "352adbbf56d725d989abc4b6e3685816fc57727f10ddc360042f42dc2fc4d6a9", func := "cubicle/cubiclelaw01.FieldPuts", spec := "fieldPuts", apart := false, narrowed := true }
def FieldPutsUptoSaid : Prop := fieldPutsUptoRow.holds Try.pinned (OpenSpec.upto fieldPutsSpec)

/-- 'cubiclelaw01.FieldApart', WHERE WHAT IT READS IS OF BULK AT MOST 1048576: true; the input reads as it did. -/
def fieldApartUptoRow : OpenClaim := { program := "ytbmecfpdemoooaa", sum := "352adbbf56d725d989abc4b6e3685816fc57727f10ddc360042f42dc2fc4d6a9", func := "cubicle/cubiclelaw01.FieldApart", spec := "fieldApart", apart := false, narrowed := true }
def FieldApartUptoSaid : Prop := fieldApartUptoRow.holds Try.pinned (OpenSpec.upto fieldApartSpec)

/-- 'cubiclelaw18.DecodeBytes', WHERE WHAT IT READS IS OF BULK AT MOST 1048576: true; the input reads as it did. -/
def decodeBytesUptoRow : OpenClaim := { program := "ytbmecfpdemoooaa", sum := "352adbbf56d725d989abc4b6e3685816fc57727f10ddc360042f42dc2fc4d6a9", func := "cubicle/cubiclelaw18.DecodeBytes", spec := "decodeBytes", apart := false, narrowed := true }
def DecodeBytesUptoSaid : Prop := decodeBytesUptoRow.holds Try.pinned (OpenSpec.upto decodeBytesSpec)

/-- 'cubiclelaw18.DecodeApart', WHERE WHAT IT READS IS OF BULK AT MOST 1048576: true; the input reads as it did. -/
def decodeApartUptoRow : OpenClaim := { program := "ytbmecfpdemoooaa", sum := "352adbbf56d725d989abc4b6e3685816fc57727f10ddc360042f42dc2fc4d6a9", func := "cubicle/cubiclelaw18.DecodeApart", spec := "decodeApart", apart := false, narrowed := true }
def DecodeApartUptoSaid : Prop := decodeApartUptoRow.holds Try.pinned (OpenSpec.upto decodeApartSpec)

/-- 'cubiclelaw18.DecodeLong', WHERE WHAT IT READS IS OF BULK AT MOST 1048576: true; the input reads as it did. -/
def decodeLongUptoRow : OpenClaim := { program := "ytbmecfpdemoooaa", sum := "352adbbf56d725d989abc4b6e3685816fc57727f10ddc360042f42dc2fc4d6a9", func := "cubicle/cubiclelaw18.DecodeLong", spec := "decodeLong", apart := false, narrowed := true }
def DecodeLongUptoSaid : Prop := decodeLongUptoRow.holds Try.pinned (OpenSpec.upto decodeLongSpec)

/-- 'cubiclelaw01.FieldSplits', WHERE WHAT IT READS IS OF BULK AT MOST 1048576: true; the input reads as it did. -/
def fieldSplitsUptoRow : OpenClaim := { program := "ytbmecfpdemoooaa", sum := "352adbbf56d725d989abc4b6e3685816fc57727f10ddc360042f42dc2fc4d6a9", func := "cubicle/cubiclelaw01.FieldSplits", spec := "fieldSplits", apart := false, narrowed := true }
def FieldSplitsUptoSaid : Prop := fieldSplitsUptoRow.holds Try.pinned (OpenSpec.upto fieldSplitsSpec)

/-- 'cubiclelaw01.FieldPacks', WHERE WHAT IT READS IS OF BULK AT MOST 1048576: true; the input reads as it did. -/
def fieldPacksUptoRow : OpenClaim := { program := "ytbmecfpdemoooaa", sum := "352adbbf56d725d989abc4b6e3685816fc57727f10ddc360042f42dc2fc4d6a9", func := "cubicle/cubiclelaw01.FieldPacks", spec := "fieldPacks", apart := false, narrowed := true }
def FieldPacksUptoSaid : Prop := fieldPacksUptoRow.holds Try.pinned (OpenSpec.upto fieldPacksSpec)

/-- 'cubiclelaw01.FieldOrder', WHERE WHAT IT READS IS OF BULK AT MOST 1048576: true; the input reads as it did. -/
def fieldOrderUptoRow : OpenClaim := { program := "ytbmecfpdemoooaa", sum := "352adbbf56d725d989abc4b6e3685816fc57727f10ddc360042f42dc2fc4d6a9", func := "cubicle/cubiclelaw01.FieldOrder", spec := "fieldOrder", apart := false, narrowed := true }
def FieldOrderUptoSaid : Prop := fieldOrderUptoRow.holds Try.pinned (OpenSpec.upto fieldOrderSpec)

/-- 'cubiclelaw01.FieldBack', WHERE WHAT IT READS IS OF BULK AT MOST 1048576: true; the input reads as it did. -/
def fieldBackUptoRow : OpenClaim := { program := "ytbmecfpdemoooaa", sum := "352adbbf56d725d989abc4b6e3685816fc57727f10ddc360042f42dc2fc4d6a9", func := "cubicle/cubiclelaw01.FieldBack", spec := "fieldBack", apart := false, narrowed := true }
def FieldBackUptoSaid : Prop := fieldBackUptoRow.holds Try.pinned (OpenSpec.upto fieldBackSpec)

/-- 'cubiclelaw07.StateTurns', WHERE WHAT IT READS IS OF BULK AT MOST 1048576: true; the input reads as it did. -/
def stateTurnsUptoRow : OpenClaim := { program := "ytbmecfpdemoooaa", sum := "352adbbf56d725d989abc4b6e3685816fc57727f10ddc360042f42dc2fc4d6a9", func := "cubicle/cubiclelaw07.StateTurns", spec := "stateTurns", apart := false, narrowed := true }
def StateTurnsUptoSaid : Prop := stateTurnsUptoRow.holds Try.pinned (OpenSpec.upto stateTurnsSpec)

/-- 'cubiclelaw07.StateApart', WHERE WHAT IT READS IS OF BULK AT MOST 1048576: true; the input reads as it did. -/
def stateApartUptoRow : OpenClaim := { program := "ytbmecfpdemoooaa", sum := "352adbbf56d725d989abc4b6e3685816fc57727f10ddc360042f42dc2fc4d6a9", func := "cubicle/cubiclelaw07.StateApart", spec := "stateApart", apart := false, narrowed := true }
def StateApartUptoSaid : Prop := stateApartUptoRow.holds Try.pinned (OpenSpec.upto stateApartSpec)

end Rows
end Go.Proofs.Ytbmecfpdemoooaa
