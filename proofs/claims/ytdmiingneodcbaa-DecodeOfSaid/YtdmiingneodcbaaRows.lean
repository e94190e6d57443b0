/-
  No cell of these rows narrows 'for every input' (looked for: loops, veiled, ifaces, maps, wideKeys, modest, calm, conditions, laid).
  DERIVED. THE GIVEN ROWS OF THIS SEAT. 8 by the template 'for every input the law returns true; each argument reads behind the call as it read before'; 0 by the template 'total and deterministic' (their statements: YtdmiingneodcbaaTotals.lean).
  GIVEN WITH THE SEED: the statements are not yours to turn. If you find one false, say at which input.
  Laid BY PROGRAM, IN A SANDBOX (cutbox-rows.mjs): the forced cells as the released guide's own fill.sh prints them over the translation 66306a7628930290… (all of the seat's roots in one cut). By AI agents, Wed Nov 11 2026. No macro, syntax, notation, axiom, sorry.
-/
import Derived.Test.YtdmiingneodcbaaChecked
import GoSem.Claim
import GoSem.ClaimJoined
import GoSem.ClaimMapViews
import Derived.JoinedTies
import Derived.KernelRfl
namespace Go.Proofs.Ytdmiingneodcbaa
/- THE CELL 'sum', in the pinned program and in every row, IS THE sha256 OF THE DUMP (.gsa) THAT YtdmiingneodcbaaProg.lean LOADS. Nothing in Lean hashes anything: it is a label: what it is worth is what the hold of that sum in a sandbox is worth. -/
noncomputable def Try.pinned : Pinned := { name := "ytdmiingneodcbaa", sum := "66306a762893029062cb8aa554c0051a6b4f71ee893e7361bd4cc2ce88a8d52e", checked := Try.checked }
namespace Rows
def none {H : Type} : Left H := { results := [], args := [] }

/-- 'cubiclelaw18.DecodeOf': WHATEVER THE INPUT: true; the input reads as it did. -/
def decodeOfSpec : ChangeSpec := { name := "decodeOf", fn := fun _ => fun
  | [d] => { results := [.lit (.bool true)], args := [d] }
  | _ => none }
def decodeOfRow : OpenClaim := { program := "ytdmiingneodcbaa", sum := "66306a762893029062cb8aa554c0051a6b4f71ee893e7361bd4cc2ce88a8d52e", func := "cubicle/cubiclelaw18.DecodeOf", spec := "decodeOf", apart := false }
def DecodeOfSaid : Prop := decodeOfRow.holds Try.pinned (OpenSpec.ofChange decodeOfSpec)

/-- ITS FALSE NEIGHBOUR: 'it returns false'. Refute it at one input. -/
def decodeOfWrong : ChangeSpec := { name := "decodeOf", fn := fun _ => fun
  | [d] => { results := [.lit (.bool false)], args := [d] }
  | _ => none }
def DecodeOfWrongFalsely : Prop := decodeOfRow.holds Try.pinned (OpenSpec.ofChange decodeOfWrong)

/-- 'cubiclelaw18.DecodeBack': WHATEVER THE INPUT: true; the input reads as it did. -/
def decodeBackSpec : ChangeSpec := { name := "decodeBack", fn := fun _ => fun
  | [d1, d2] => { results := [.lit (.bool true)], args := [d1, d2] }
  | _ => none }
def decodeBackRow : OpenClaim := { program := "ytdmiingneodcbaa", sum := "66306a762893029062cb8aa554c0051a6b4f71ee893e7361bd4cc2ce88a8d52e", func := "cubicle/cubiclelaw18.DecodeBack", spec := "decodeBack", apart := false }
def DecodeBackSaid : Prop := decodeBackRow.holds Try.pinned (OpenSpec.ofChange decodeBackSpec)

/-- ITS FALSE NEIGHBOUR: 'it returns false'. Refute it at one input. -/
def decodeBackWrong : ChangeSpec := { name := "decodeBack", fn := fun _ => fun
  | [d1, d2] => { results := [.lit (.bool false)], args := [d1, d2] }
  | _ => none }
def DecodeBackWrongFalsely : Prop := decodeBackRow.holds Try.pinned (OpenSpec.ofChange decodeBackWrong)

/-- 'cubiclelaw08.HandleWords': WHATEVER THE INPUT: true; the input reads as it did. -/
def handleWordsSpec : ChangeSpec := { name := "handleWords", fn := fun _ => fun
  | [d1, d2] => { results := [.lit (.bool true)], args := [d1, d2] }
  | _ => none }
def handleWordsRow : OpenClaim := { program := "ytdmiingneodcbaa", sum := "66306a762893029062cb8aa554c0051a6b4f71ee893e7361bd4cc2ce88a8d52e", func := "cubicle/cubiclelaw08.HandleWords", spec := "handleWords", apart := false }
def HandleWordsSaid : Prop := handleWordsRow.holds Try.pinned (OpenSpec.ofChange handleWordsSpec)

/-- ITS FALSE NEIGHBOUR: 'it returns false'. Refute it at one input. -/
def handleWordsWrong : ChangeSpec := { name := "handleWords", fn := fun _ => fun
  | [d1, d2] => { results := [.lit (.bool false)], args := [d1, d2] }
  | _ => none }
def HandleWordsWrongFalsely : Prop := handleWordsRow.holds Try.pinned (OpenSpec.ofChange handleWordsWrong)

/-- 'cubiclelaw08.HandleBack': WHATEVER THE INPUT: true; the input reads as it did. -/
def handleBackSpec : ChangeSpec := { name := "handleBack", fn := fun _ => fun
  | [d1, d2] => { results := [.lit (.bool true)], args := [d1, d2] }
  | _ => none }
def handleBackRow : OpenClaim := { program := "ytdmiingneodcbaa", sum := "66306a762893029062cb8aa554c0051a6b4f71ee893e7361bd4cc2ce88a8d52e", func := "cubicle/cubiclelaw08.HandleBack", spec := "handleBack", apart := false }
def HandleBackSaid : Prop := handleBackRow.holds Try.pinned (OpenSpec.ofChange handleBackSpec)

/-- ITS FALSE NEIGHBOUR: 'it returns false'. Refute it at one input. -/
def handleBackWrong : ChangeSpec := { name := "handleBack", fn := fun _ => fun
  | [d1, d2] => { results := [.lit (.bool false)], args := [d1, d2] }
  | _ => none }
def HandleBackWrongFalsely : Prop := handleBackRow.holds Try.pinned (OpenSpec.ofChange handleBackWrong)

/-- 'cubiclelaw07.StateWords': WHATEVER THE INPUT: true; the input reads as it did. -/
def stateWordsSpec : ChangeSpec := { name := "stateWords", fn := fun _ => fun
  | [d1, d2] => { results := [.lit (.bool true)], args := [d1, d2] }
  | _ => none }
def stateWordsRow : OpenClaim := { program := "ytdmiingneodcbaa", sum := "66306a762893029062cb8aa554c0051a6b4f71ee893e7361bd4cc2ce88a8d52e", func := "cubicle/cubiclelaw07.StateWords", spec := "stateWords", apart := false }
def StateWordsSaid : Prop := stateWordsRow.holds Try.pinned (OpenSpec.ofChange stateWordsSpec)

/-- ITS FALSE NEIGHBOUR: 'it returns false'. Refute it at one input. -/
def stateWordsWrong : ChangeSpec := { name := "stateWords", fn := fun _ => fun
  | [d1, d2] => { results := [.lit (.bool false)], args := [d1, d2] }
  | _ => none }
def StateWordsWrongFalsely : Prop := stateWordsRow.holds Try.pinned (OpenSpec.ofChange stateWordsWrong)

/-- 'cubiclelaw08.HandleMine': WHATEVER THE INPUT: true; the input reads as it did. -/
def handleMineSpec : ChangeSpec := { name := "handleMine", fn := fun _ => fun
  | [d1, d2, d3] => { results := [.lit (.bool true)], args := [d1, d2, d3] }
  | _ => none }
def handleMineRow : OpenClaim := { program := "ytdmiingneodcbaa", sum := "66306a762893029062cb8aa554c0051a6b4f71ee893e7361bd4cc2ce88a8d52e", func := "cubicle/cubiclelaw08.HandleMine", spec := "handleMine", apart := false }
def HandleMineSaid : Prop := handleMineRow.holds Try.pinned (OpenSpec.ofChange handleMineSpec)

/-- ITS FALSE NEIGHBOUR: 'it returns false'. Refute it at one input. -/
def handleMineWrong : ChangeSpec := { name := "handleMine", fn := fun _ => fun
  | [d1, d2, d3] => { results := [.lit (.bool false)], args := [d1, d2, d3] }
  | _ => none }
def HandleMineWrongFalsely : Prop := handleMineRow.holds Try.pinned (OpenSpec.ofChange handleMineWrong)

/-- 'cubiclelaw08.HandleApart': WHATEVER THE INPUT: true; the input reads as it did. -/
def handleApartSpec : ChangeSpec := { name := "handleApart", fn := fun _ => fun
  | [d1, d2, d3] => { results := [.lit (.bool true)], args := [d1, d2, d3] }
  | _ => none }
def handleApartRow : OpenClaim := { program := "ytdmiingneodcbaa", sum := "66306a762893029062cb8aa554c0051a6b4f71ee893e7361bd4cc2ce88a8d52e", func := "cubicle/cubiclelaw08.HandleApart", spec := "handleApart", apart := false }
def HandleApartSaid : Prop := handleApartRow.holds Try.pinned (OpenSpec.ofChange handleApartSpec)

/-- ITS FALSE NEIGHBOUR: 'it returns false'. Refute it at one input. -/
def handleApartWrong : ChangeSpec := { name := "handleApart", fn := fun _ => fun
  | [d1, d2, d3] => { results := [.lit (.bool false)], args := [d1, d2, d3] }
  | _ => none }
def HandleApartWrongFalsely : Prop := handleApartRow.holds Try.pinned (OpenSpec.ofChange handleApartWrong)

/-- 'cubiclelaw07.StateBack': WHATEVER THE INPUT: true; the input reads as it did. -/
def stateBackSpec : ChangeSpec := { name := "stateBack", fn := fun _ => fun
  | [d1, d2, d3] => { results := [.lit (.bool true)], args := [d1, d2, d3] }
  | _ => none }
def stateBackRow : OpenClaim := { program := "ytdmiingneodcbaa", sum := "66306a762893029062cb8aa554c0051a6b4f71ee893e7361bd4cc2ce88a8d52e", func := "cubicle/cubiclelaw07.StateBack", spec := "stateBack", apart := false }
def StateBackSaid : Prop := stateBackRow.holds Try.pinned (OpenSpec.ofChange stateBackSpec)

/-- ITS FALSE NEIGHBOUR: 'it returns false'. Refute it at one input. -/
def stateBackWrong : ChangeSpec := { name := "stateBack", fn := fun _ => fun
  | [d1, d2, d3] => { results := [.lit (.bool false)], args := [d1, d2, d3] }
  | _ => none }
def StateBackWrongFalsely : Prop := stateBackRow.holds Try.pinned (OpenSpec.ofChange stateBackWrong)

/- THE SECOND FORM. 'bulk': how many values and letters a reading holds, each counted each time it is reached (what is shared counts as often as it is met; a slice's spare places count too). A statement '..UptoSaid' is the law's where the arguments, and the package variables that the reading takes, are together of bulk at most 1048576: NARROWER than '..Said'. Prove '..Said' where nothing that the law and all that it calls make is longer than what came in: it says more and counts as full. Else prove '..UptoSaid'. A law counts once. -/
mutual
def uptoBulk {H : Type} : DataW H → Nat
  | .lit (.string bytes) => bytes.length + 1
  | .lit _ => 1
  | .nil => 1
  | .ptr d => uptoBulk d + 1
  | .slice elems spare => uptoBulkAll elems + uptoBulkAll spare + 1
  | .agg parts => uptoBulkAll parts + 1
  | .iface _ d => uptoBulk d + 1
  | .map entries => uptoBulkEntries entries + 1
  | .held _ => 1
def uptoBulkAll {H : Type} : List (DataW H) → Nat
  | [] => 0
  | d :: r => uptoBulk d + uptoBulkAll r
def uptoBulkEntries {H : Type} : List (Lit × DataW H) → Nat
  | [] => 0
  | x :: r => uptoBulkEntry x + uptoBulkEntries r
def uptoBulkEntry {H : Type} : Lit × DataW H → Nat
  | (.string bytes, d) => bytes.length + uptoBulk d + 1
  | (_, d) => uptoBulk d + 1
 end
def uptoSmall : (H : Type) → List (DataW H) → Bool := fun _ ds => decide (uptoBulkAll ds ≤ 1048576)
def OpenSpec.upto (s : _root_.Go.ChangeSpec) : _root_.Go.OpenSpec := { _root_.Go.OpenSpec.ofChange s with cond := some uptoSmall }

/-- 'cubiclelaw18.DecodeOf', WHERE WHAT IT READS IS OF BULK AT MOST 1048576: true; the input reads as it did. -/
def decodeOfUptoRow : OpenClaim := { program := "ytdmiingneodcbaa", sum := "66306a762893029062cb8aa554c0051a6b4f71ee893e7361bd4cc2ce88a8d52e", func := "cubicle/cubiclelaw18.DecodeOf", spec := "decodeOf", apart := false, narrowed := true }
def DecodeOfUptoSaid : Prop := decodeOfUptoRow.holds Try.pinned (OpenSpec.upto decodeOfSpec)

/-- 'cubiclelaw18.DecodeBack', WHERE WHAT IT READS IS OF BULK AT MOST 1048576: true; the input reads as it did. -/
def decodeBackUptoRow : OpenClaim := { program := "ytdmiingneodcbaa", sum := "66306a762893029062cb8aa554c0051a6b4f71ee893e7361bd4cc2ce88a8d52e", func := "cubicle/cubiclelaw18.DecodeBack", spec := "decodeBack", apart := false, narrowed := true }
def DecodeBackUptoSaid : Prop := decodeBackUptoRow.holds Try.pinned (OpenSpec.upto decodeBackSpec)

/-- 'cubiclelaw08.HandleWords', WHERE WHAT IT READS IS OF BULK AT MOST 1048576: true; the input reads as it did. -/
def handleWordsUptoRow : OpenClaim := { program := "ytdmiingneodcbaa", sum := "66306a762893029062cb8aa554c0051a6b4f71ee893e7361bd4cc2ce88a8d52e", func := "cubicle/cubiclelaw08.HandleWords", spec := "handleWords", apart := false, narrowed := true }
def HandleWordsUptoSaid : Prop := handleWordsUptoRow.holds Try.pinned (OpenSpec.upto handleWordsSpec)

/-- 'cubiclelaw08.HandleBack', WHERE WHAT IT READS IS OF BULK AT MOST 1048576: true; the input reads as it did. -/
def handleBackUptoRow : OpenClaim := { program := "ytdmiingneodcbaa", sum := "66306a762893029062cb8aa554c0051a6b4f71ee893e7361bd4cc2ce88a8d52e", func := "cubicle/cubiclelaw08.HandleBack", spec := "handleBack", apart := false, narrowed := true }
def HandleBackUptoSaid : Prop := handleBackUptoRow.holds Try.pinned (OpenSpec.upto handleBackSpec)

/-- 'cubiclelaw07.StateWords', WHERE WHAT IT READS IS OF BULK AT MOST 1048576: true; the input reads as it did. -/
def stateWordsUptoRow : OpenClaim := { program := "ytdmiingneodcbaa", sum := "66306a762893029062cb8aa554c0051a6b4f71ee893e7361bd4cc2ce88a8d52e", func := "cubicle/cubiclelaw07.StateWords", spec := "stateWords", apart := false, narrowed := true }
def StateWordsUptoSaid : Prop := stateWordsUptoRow.holds Try.pinned (OpenSpec.upto stateWordsSpec)

/-- 'cubiclelaw08.HandleMine', WHERE WHAT IT READS IS OF BULK AT MOST 1048576: true; the input reads as it did. -/
def handleMineUptoRow : OpenClaim := { program := "ytdmiingneodcbaa", sum := "66306a762893029062cb8aa554c0051a6b4f71ee893e7361bd4cc2ce88a8d52e", func := "cubicle/cubiclelaw08.HandleMine", spec := "handleMine", apart := false, narrowed := true }
def HandleMineUptoSaid : Prop := handleMineUptoRow.holds Try.pinned (OpenSpec.upto handleMineSpec)

/-- 'cubiclelaw08.HandleApart', WHERE WHAT IT READS IS OF BULK AT MOST 1048576: true; the input reads as it did. -/
def handleApartUptoRow : OpenClaim := { program := "ytdmiingneodcbaa", sum := "66306a762893029062cb8aa554c0051a6b4f71ee893e7361bd4cc2ce88a8d52e", func := "cubicle/cubiclelaw08.HandleApart", spec := "handleApart", apart := false, narrowed := true }
def HandleApartUptoSaid : Prop := handleApartUptoRow.holds Try.pinned (OpenSpec.upto handleApartSpec)

/-- 'cubiclelaw07.StateBack', WHERE WHAT IT READS IS OF BULK AT MOST 1048576: true; the input reads as it did. -/
def stateBackUptoRow : OpenClaim := { program := "ytdmiingneodcbaa", sum := "66306a762893029062cb8aa554c0051a6b4f71ee893e7361bd4cc2ce88a8d52e", func := "cubicle/cubiclelaw07.StateBack", spec := "stateBack", apart := false, narrowed := true }
def StateBackUptoSaid : Prop := stateBackUptoRow.holds Try.pinned (OpenSpec.upto stateBackSpec)

end Rows
end Go.Proofs.Ytdmiingneodcbaa
