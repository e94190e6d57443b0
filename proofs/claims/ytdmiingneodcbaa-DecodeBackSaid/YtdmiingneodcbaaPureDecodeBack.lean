/- DecodeBack, plainly: an operation's bytes are read back; with a byte more, or without the last, they are none's. -/
import Derived.Test.YtdmiingneodcbaaQDecodeBack
namespace Go.Proofs.Ytdmiingneodcbaa.Pure
open Go Go.RowKit Go.Proofs.Ytdmiingneodcbaa.PDecodeBack Go.Proofs.YtdmiingneodcbaaW.PrintWords Go.Proofs.Ytdmiingneodcbaa.DDecodeBack Go.Proofs.Ytdmiingneodcbaa.FB Giv4
set_option linter.unusedVariables false
theorem DecodeBack (c d f h a b x : Int) (w0 : (Lit.int .i64 c).wf = true) (w1 : (Lit.int .i64 d).wf = true) (w2 : (Lit.int .i64 f).wf = true) (w3 : (Lit.int .u64 h).wf = true) (w4 : (Lit.int .u64 a).wf = true) (w5 : (Lit.int .u64 b).wf = true) (w6 : (Lit.int .u8 x).wf = true) :
    ∃ k, cubiclelaw18_DecodeBack.f k c d f h a b x = some true := by
  apply Ev.rounds (g := fun k => cubiclelaw18_DecodeBack.f k c d f h a b x)
  unfold cubiclelaw18_DecodeBack.f
  rw [awake_eq]
  refine Ev.congr (fun k => by rw [Option.bind_some, if_pos rfl]) ?_
  refine Ev.bind (rformed_eq c d f h a b) ?_
  by_cases hF : Giv.OpF c d f h a b
  · rw [show decide (Giv.OpF c d f h a b) = true from decide_eq_true hF]
    refine Ev.step (f := fun _ => some true) (fun k => ?_) (Ev.now _)
    have r : Rg h a b := ⟨wf_u64 w3, wf_u64 w4, wf_u64 w5⟩
    have hx : 0 ≤ x ∧ x < 256 := by
      have := w6
      simp [Lit.wf, IntKind.min, IntKind.max, IntKind.bits, IntKind.signed] at this
      omega
    have eb : decode_Bytes.f c d f h a b = some (strOfNums (bytO c d f h a b)) := by
      unfold decode_Bytes.f
      rw [if_pos hF]
      rfl
    have hr := bytO_range c d f h a b
    have hlen := bytO_len c d f h a b
    have hpos : 0 < (bytO c d f h a b).length := by omega
    have hsm : (bytO c d f h a b).length ≤ 27 := by
      rw [hlen]
      split <;> split <;> split <;> split <;> split <;> omega
    have n1 : Giv4.nums (strOfNums (bytO c d f h a b)) = bytO c d f h a b := nums_str hr
    have hr2 : ∀ y ∈ bytO c d f h a b ++ [x], 0 ≤ y ∧ y < 256 := by
      intro y hy
      rcases List.mem_append.1 hy with h1 | h1
      · exact hr y h1
      · simp at h1
        omega
    have n2 : Giv4.nums (strOfNums (bytO c d f h a b) ++ strOfNums [x]) = bytO c d f h a b ++ [x] := by rw [app_nums, nums_str hr2]
    have sz : ((strOfNums (bytO c d f h a b)).size : Int) = (bytO c d f h a b).length := by rw [size_nums]
    have sx : (strOfNums [x]).size = 1 := by rw [size_nums]; rfl
    have ew : wrap64 (((strOfNums (bytO c d f h a b)).size : Int) - 1) = (((bytO c d f h a b).length - 1 : Nat) : Int) := by rw [sz]; unfold wrap64; omega
    have e1 : decode_Of.f (strOfNums (bytO c d f h a b)) = some (c, d, f, h, a, b, 0) := by
      unfold decode_Of.f
      rw [n1, ofL_byt hF r]
    have e2 : decode_Of.f (strOfNums (bytO c d f h a b) ++ strOfNums [x]) = some (0, 0, 0, 0, 0, 0, 2) := by
      unfold decode_Of.f
      rw [n2, ofL_none hr2]
      intro c' d' f' h' a' b' hG e
      have ec := bytO_code (x := [x]) (y := []) hF hG (by rw [List.append_nil]; exact e)
      subst ec
      have := congrArg List.length e
      rw [List.length_append, hlen, bytO_len] at this
      simp at this
    have e3 : decode_Of.f ((strOfNums (bytO c d f h a b)).extract 0 ((((bytO c d f h a b).length - 1 : Nat) : Int)).toNat) = some (0, 0, 0, 0, 0, 0, 2) := by
      unfold decode_Of.f
      rw [nums_take, n1, ofL_none (fun y hy => hr y (List.mem_of_mem_take hy))]
      intro c' d' f' h' a' b' hG e
      have el := congrArg List.length e
      rw [List.length_take] at el
      have ec : c = c' := bytO_code (x := []) (y := (bytO c d f h a b).drop ((((bytO c d f h a b).length - 1 : Nat) : Int)).toNat) hF hG (by rw [List.append_nil, ← e, List.take_append_drop])
      subst ec
      rw [bytO_len c d' f' h' a' b', ← hlen] at el
      simp at el
      omega
    simp only [cubiclelaw18_DecodeBack.j0]
    rw [if_neg (by simp), eb, Option.bind_some, if_neg (by rw [sz]; omega), e1, Option.bind_some, Option.bind_some, if_pos (by rw [sx, size_nums]; omega), e2, Option.bind_some, if_pos (by rw [ew]; omega), if_pos (by rw [ew, sz]; omega), ew, e3, Option.bind_some]
    simp
  · rw [show decide (Giv.OpF c d f h a b) = false from decide_eq_false hF]
    refine Ev.step (f := fun _ => some true) (fun k => ?_) (Ev.now _)
    simp only [cubiclelaw18_DecodeBack.j0]
    rw [if_pos (by simp), awake_eq, Option.bind_some]
end Go.Proofs.Ytdmiingneodcbaa.Pure
