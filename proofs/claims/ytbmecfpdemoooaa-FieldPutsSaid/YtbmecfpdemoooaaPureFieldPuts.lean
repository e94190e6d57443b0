/- FieldPuts, plainly: what is put is there, and nothing else is otherwise. -/
import Derived.Test.YtbmecfpdemoooaaFFieldPuts
namespace Go.Proofs.Ytbmecfpdemoooaa.Pure
open Go Go.RowKit Go.Proofs.Ytbmecfpdemoooaa.PFieldPuts Go.Proofs.Ytbmecfpdemoooaa.FFieldPuts Go.Proofs.Ytbmecfpdemoooaa.FB
set_option linter.unusedVariables false
theorem get_put {A B : Nat} (h : A + B ≤ 64) (w v : BitVec 64) : get A B (put A B w v) = v &&& ones B := by
  apply ext
  intro i hi
  rw [bit_get h, bit_put h, BitVec.getLsbD_and, bit_ones (by omega)]
  by_cases hb : i < B
  · rw [if_pos (by omega), Nat.add_sub_cancel_left]; simp [hb]
  · simp [hb]
theorem put_get {A B : Nat} (h : A + B ≤ 64) (w v : BitVec 64) : put A B (put A B w v) (get A B w) = w := by
  apply ext
  intro i hi
  rw [bit_put h, bit_put h, bit_get h]
  by_cases hb : A ≤ i ∧ i < A + B
  · rw [if_pos hb, show A + (i - A) = i by omega]; simp; omega
  · rw [if_neg hb, if_neg hb]
theorem put_put {A B : Nat} (h : A + B ≤ 64) (w v x : BitVec 64) : put A B (put A B w v) x = put A B w x := by
  apply ext
  intro i hi
  rw [bit_put h, bit_put h, bit_put h]
  by_cases hb : A ≤ i ∧ i < A + B
  · rw [if_pos hb, if_pos hb]
  · rw [if_neg hb, if_neg hb, if_neg hb]
theorem FieldPuts (a n x y : Int) (wa : (Lit.int .i64 a).wf = true) (wn : (Lit.int .i64 n).wf = true) (wx : (Lit.int .u64 x).wf = true) (wy : (Lit.int .u64 y).wf = true) :
    ∃ k, cubiclelaw01_FieldPuts.f k a n x y = some true := by
  refine ⟨1, ?_⟩
  obtain ⟨w, rfl⟩ := u_of wx
  obtain ⟨v, rfl⟩ := u_of wy
  unfold cubiclelaw01_FieldPuts.f
  rw [awake_eq, Option.bind_some, if_pos rfl]
  by_cases h : Fm a n
  · obtain ⟨A, B, rfl, rfl, _, _, hh⟩ := h.nat
    rw [formed_yes h, Option.bind_some]
    simp only [cubiclelaw01_FieldPuts.j0]
    rw [if_neg (by simp), put_eq h, Option.bind_some, get_eq h, Option.bind_some, most_eq h, Option.bind_some, and_u, if_pos (by rw [get_put hh]), get_eq h, Option.bind_some, put_eq h, Option.bind_some, if_pos (by rw [put_get hh]),
      zero_u, put_eq h, Option.bind_some, put_eq h, Option.bind_some, put_put hh]
    simp
  · rw [formed_no h, Option.bind_some]
    simp only [cubiclelaw01_FieldPuts.j0]
    rw [if_pos (by simp), awake_eq, Option.bind_some]
end Go.Proofs.Ytbmecfpdemoooaa.Pure
