/- FieldGets, plainly: what the printed law tells is true. -/
import Derived.Test.YtbmecfpdemoooaaFFieldGets
namespace Go.Proofs.Ytbmecfpdemoooaa.Pure
open Go Go.RowKit Go.Proofs.Ytbmecfpdemoooaa.PFieldGets Go.Proofs.Ytbmecfpdemoooaa.FFieldGets Go.Proofs.Ytbmecfpdemoooaa.FB
theorem FieldGets (a n x y : Int) (wa : (Lit.int .i64 a).wf = true) (wn : (Lit.int .i64 n).wf = true) (wx : (Lit.int .u64 x).wf = true) (wy : (Lit.int .u64 y).wf = true) :
    ∃ k, cubiclelaw01_FieldGets.f k a n x y = some true := by
  refine ⟨200, ?_⟩
  obtain ⟨w, rfl⟩ := u_of wx
  obtain ⟨v, rfl⟩ := u_of wy
  generalize hk : 200 = k
  have hk' : 200 ≤ k := by omega
  unfold cubiclelaw01_FieldGets.f
  rw [awake_eq, Option.bind_some, if_pos rfl]
  by_cases h : Fm a n
  · obtain ⟨A, B, rfl, rfl, _⟩ := h.nat
    rw [formed_yes h, rformed_yes h, most_eq h, rmost_eq h k hk', get_eq h, rget_eq h _ k hk', put_eq h, rput_eq h _ _ k hk']
    simp
  · rw [formed_no h, rformed_no h, most_no h, rmost_no h k hk', get_no h, rget_no h _ k hk', put_no h, rput_no h _ _ k hk']
    simp
theorem FieldGets_calls (k : Nat) (a n x y : Int) (W : World) (h : cubiclelaw01_FieldGets.f k a n x y = some true) :
    Calls Try.prog 3 #[.agg #[.int .i64 a, .int .i64 n], .int .u64 x, .int .u64 y] W fun e w' => e = .returned (.bool true) ∧ Below W.heap.size W w' :=
  PFieldGets.cubiclelaw01_FieldGets.calls k a n x y true W h
end Go.Proofs.Ytbmecfpdemoooaa.Pure
