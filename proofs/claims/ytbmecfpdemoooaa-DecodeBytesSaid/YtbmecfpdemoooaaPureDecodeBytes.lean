/- DecodeBytes, plainly: the program and the reference come to the same. -/
import Derived.Test.YtbmecfpdemoooaaDDecodeBytes
namespace Go.Proofs.Ytbmecfpdemoooaa.Pure
open Go Go.RowKit Go.Proofs.Ytbmecfpdemoooaa.PDecodeBytes Go.Proofs.YtbmecfpdemoooaaW.PrintWords Go.Proofs.Ytbmecfpdemoooaa.DDecodeBytes Go.Proofs.Ytbmecfpdemoooaa.FB
set_option linter.unusedVariables false
theorem DecodeBytes (c d f h a b : Int) (w0 : (Lit.int .i64 c).wf = true) (w1 : (Lit.int .i64 d).wf = true) (w2 : (Lit.int .i64 f).wf = true) (w3 : (Lit.int .u64 h).wf = true) (w4 : (Lit.int .u64 a).wf = true) (w5 : (Lit.int .u64 b).wf = true) :
    ∃ k, cubiclelaw18_DecodeBytes.f k c d f h a b = some true := by
  apply Ev.rounds (g := fun k => cubiclelaw18_DecodeBytes.f k c d f h a b)
  unfold cubiclelaw18_DecodeBytes.f
  have e1 : decode_Formed.f c d f h a b = some (decide (Giv.OpF c d f h a b)) := rfl
  have e2 : decode_Bytes.f c d f h a b = some (if Giv.OpF c d f h a b then strOfNums (Giv3.byt c d f h a b (Giv.askh c) (Giv.askd c) (Giv.askf c) (Giv.aska c) (Giv.askb c)) else ⟨#[]⟩) := rfl
  rw [awake_eq, e1, e2]
  refine Ev.congr (fun k => by rw [Option.bind_some, if_pos rfl, Option.bind_some]) ?_
  refine Ev.bind (rformed_eq c d f h a b) ?_
  refine Ev.congr (fun k => by rw [if_pos (beq_self_eq_true _), Option.bind_some]) ?_
  refine Ev.bind (rbytes_eq c d f h a b) ?_
  rw [beq_self_eq_true]
  exact Ev.now _
end Go.Proofs.Ytbmecfpdemoooaa.Pure
