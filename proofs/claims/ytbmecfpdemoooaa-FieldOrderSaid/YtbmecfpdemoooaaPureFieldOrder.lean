/- FieldOrder, plainly: a layout turned round packs the same word. -/
import Derived.Test.YtbmecfpdemoooaaGFieldOrder
namespace Go.Proofs.Ytbmecfpdemoooaa.Pure
open Go Go.RowKit Go.Proofs.Ytbmecfpdemoooaa.PFieldOrder Go.Proofs.YtbmecfpdemoooaaW.PrintWords Go.Proofs.Ytbmecfpdemoooaa.FFieldOrder Go.Proofs.Ytbmecfpdemoooaa.GFieldOrder Go.Proofs.Ytbmecfpdemoooaa.FB Go.Proofs.Ytbmecfpdemoooaa.FL
set_option linter.unusedVariables false
theorem words_of (vs : List Int) (h : ∀ a ∈ vs, (fun x : Int => (Lit.int .u64 x).wf = true) a) : ∃ ws : List (BitVec 64), vs = ws.map u := by
  induction vs with
  | nil => exact ⟨[], rfl⟩
  | cons v vs ih =>
    obtain ⟨w, rfl⟩ := u_of (h v (by simp))
    obtain ⟨ws, rfl⟩ := ih (fun a ha => h a (by simp [ha]))
    exact ⟨w :: ws, rfl⟩
theorem order_loop (b : List S23) : ∀ (a : List S23) (x y : List (BitVec 64)), (b.reverse ++ a).length ≤ 64 → x.length = b.length → y.length = a.length →
    Ev (fun k => cubiclelaw01_FieldOrder.l0 k (b.reverse ++ a) ((x.reverse ++ y).map u) a.reverse (y.reverse.map u) ((b.length : Int) - 1)) true := by
  induction b with
  | nil =>
    intro a x y hn hx hy
    obtain rfl : x = [] := List.eq_nil_of_length_eq_zero hx
    refine Ev.step (f := fun k => (field_Pack.f k a (y.map u)).bind fun p => ((field_Pack.f k a.reverse (y.reverse.map u)).bind fun q => (if p.1 = q.1 then (some (p.2 == q.2)) else (some false)))) (fun k => ?_) ?_
    · simp only [cubiclelaw01_FieldOrder.l0]
      rw [if_neg (by simp)]
      rfl
    · refine Ev.bind (pack_f a y (by simp at hn; omega)) (Ev.bind (pack_f a.reverse y.reverse (by simp at hn ⊢; omega)) ?_)
      rw [show pr a.reverse = (pr a).reverse by simp [pr], packed_rev]
      refine Ev.congr (fun k => if_pos rfl) ?_
      rw [beq_self_eq_true]
      exact Ev.now _
  | cons f b ih =>
    intro a x y hn hx hy
    obtain ⟨v, x, rfl⟩ : ∃ v c, x = v :: c := by cases x with | nil => simp at hx | cons v c => exact ⟨v, c, rfl⟩
    have hgo := ih (f :: a) x (v :: y) (by simp at hn ⊢; omega) (by simpa using hx) (by simp [hy])
    have e1 : (f :: b).reverse ++ a = b.reverse ++ f :: a := by simp
    have e2 : (v :: x).reverse ++ y = x.reverse ++ v :: y := by simp
    have e3 : (((f :: b).length : Nat) : Int) - 1 = (b.length : Int) := by simp
    have e4 := rd_mid b.reverse f a (b.length : Int) (by simp)
    have e5 : rd ((x.reverse ++ v :: y).map u) (b.length : Int) = u v := by
      rw [List.map_append, List.map_cons]
      exact rd_num _ _ _ _ (by simp at hx ⊢; omega)
    have e6 : a.reverse ++ [(⟨f.f0, f.f1⟩ : S23)] = (f :: a).reverse := by simp
    have e7 : y.reverse.map u ++ [u v] = (v :: y).reverse.map u := by simp
    rw [e1, e2, e3]
    refine Ev.step (fun k => ?_) hgo
    simp only [cubiclelaw01_FieldOrder.l0]
    rw [if_pos (by omega), if_pos (by omega), if_pos (by simp; omega), if_pos (by simp at hn ⊢; omega), if_pos (by simp at hx ⊢; omega), if_pos (by simp at hn ⊢; omega), e4, e5, wrap_in (by simp at hn; omega), e6, e7]
theorem FieldOrder (l : List S23) (v : List Int) (hl : ∀ a ∈ l, (fun x : S23 => (Lit.int .i64 x.f0).wf = true ∧ (Lit.int .i64 x.f1).wf = true) a) (hv : ∀ a ∈ v, (fun x : Int => (Lit.int .u64 x).wf = true) a) :
    ∃ k, cubiclelaw01_FieldOrder.f k l v = some true := by
  obtain ⟨ws, rfl⟩ := words_of v hv
  apply Ev.rounds (g := fun k => cubiclelaw01_FieldOrder.f k l (ws.map u))
  unfold cubiclelaw01_FieldOrder.f
  rw [awake_eq]
  refine Ev.congr (fun k => by rw [Option.bind_some, if_pos rfl]) ?_
  have yes : Ev (fun k => cubiclelaw01_FieldOrder.j0 k l (ws.map u) true) true := by
    refine Ev.step (f := fun _ => some true) (fun k => ?_) (Ev.now _)
    simp only [cubiclelaw01_FieldOrder.j0]
    rw [if_pos True.intro, awake_eq, Option.bind_some]
  by_cases h : (l.length : Int) > 64
  · exact Ev.congr (fun k => if_pos h) yes
  · refine Ev.congr (fun k => if_neg h) ?_
    by_cases h2 : l.length = ws.length
    · have hgo := order_loop l.reverse [] ws.reverse [] (by simp; omega) (by simp [h2]) rfl
      have e : ((l.length : Int) != (((ws.map u).length : Nat) : Int)) = false := by simp [h2]
      rw [e]
      refine Ev.step (fun k => ?_) hgo
      simp only [cubiclelaw01_FieldOrder.j0]
      rw [if_neg (by simp), wrap_in (by omega)]
      simp
    · have e : ((l.length : Int) != (((ws.map u).length : Nat) : Int)) = true := by simp; omega
      rw [e]; exact yes
end Go.Proofs.Ytbmecfpdemoooaa.Pure
