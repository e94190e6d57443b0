/- DecodeLong, plainly: how many bytes an operation has. -/
import Derived.Test.YtbmecfpdemoooaaDDecodeLong
namespace Go.Proofs.Ytbmecfpdemoooaa.Pure
open Go Go.RowKit Go.Proofs.Ytbmecfpdemoooaa.PDecodeLong Go.Proofs.YtbmecfpdemoooaaW.PrintWords Go.Proofs.Ytbmecfpdemoooaa.DDecodeLong Go.Proofs.Ytbmecfpdemoooaa.FB
set_option linter.unusedVariables false
theorem long_eq (c d f h a b : Int) (h1 : 1 ≤ c) (h2 : c ≤ 12) : ((Giv3.byt c d f h a b (Giv.askh c) (Giv.askd c) (Giv.askf c) (Giv.aska c) (Giv.askb c)).length : Int) = rd [0, 1, 9, 10, 18, 26, 1, 10, 2, 1, 18, 10, 10] c := by
  rcases code_cases h1 h2 with rfl | rfl | rfl | rfl | rfl | rfl | rfl | rfl | rfl | rfl | rfl | rfl <;> simp [Giv3.byt, Giv3.mid, Giv3.put8, Giv3.eightB, Giv.askh, Giv.askd, Giv.askf, Giv.aska, Giv.askb, rd]
theorem DecodeLong (c d f h a b : Int) (w0 : (Lit.int .i64 c).wf = true) (w1 : (Lit.int .i64 d).wf = true) (w2 : (Lit.int .i64 f).wf = true) (w3 : (Lit.int .u64 h).wf = true) (w4 : (Lit.int .u64 a).wf = true) (w5 : (Lit.int .u64 b).wf = true) :
    ∃ k, cubiclelaw18_DecodeLong.f k c d f h a b = some true := by
  apply Ev.rounds (g := fun k => cubiclelaw18_DecodeLong.f k c d f h a b)
  unfold cubiclelaw18_DecodeLong.f
  rw [awake_eq]
  refine Ev.congr (fun k => by rw [Option.bind_some, if_pos rfl]) ?_
  refine Ev.bind (rformed_eq c d f h a b) ?_
  by_cases hF : Giv.OpF c d f h a b
  · rw [decide_eq_true hF]
    refine Ev.step (f := fun _ => some true) (fun k => ?_) (Ev.now _)
    simp only [cubiclelaw18_DecodeLong.j0]
    have e2 : decode_Bytes.f c d f h a b = some (strOfNums (Giv3.byt c d f h a b (Giv.askh c) (Giv.askd c) (Giv.askf c) (Giv.aska c) (Giv.askb c))) := by
      unfold decode_Bytes.f
      rw [if_pos hF]
    have h1 := hF.1.1
    have h2 := hF.1.2.1
    rw [if_neg (by simp), Option.bind_some, e2, Option.bind_some, if_pos (by omega), if_pos (by simp; omega), size_nums, long_eq c d f h a b h1 h2, beq_self_eq_true]
  · rw [decide_eq_false hF]
    refine Ev.step (f := fun _ => some true) (fun k => ?_) (Ev.now _)
    simp only [cubiclelaw18_DecodeLong.j0]
    rw [if_pos (by simp), awake_eq, Option.bind_some]
end Go.Proofs.Ytbmecfpdemoooaa.Pure
