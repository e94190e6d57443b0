-- Laid by a program of this session, which builds on the kit's print: it takes some functions' texts as they are given to it.
import Derived.Test.YtbmecfpdemoooaaPDecodeLongx0
namespace Go.Proofs.Ytbmecfpdemoooaa.PDecodeLong
open Go.RowKit Go.Proofs.YtbmecfpdemoooaaW.PrintWords Go.Proofs.YtbmecfpdemoooaaW.PrintLast Go.Proofs.YtbmecfpdemoooaaW.PrintMore
attribute [local go_sem] max2_int min2_int max_two min_two max_three min_three max_four min_four   -- for this text's walks alone
set_option linter.unusedVariables false
set_option linter.unusedSimpArgs false

/-! ### cubicleref18_asks: function 47 -/
def cubicleref18_asks.f (a0 : Int) : Option (ByteArray) := (some (([(⟨#[]⟩ : ByteArray), (⟨#[]⟩ : ByteArray), (⟨#[104]⟩ : ByteArray), (⟨#[104, 102]⟩ : ByteArray), (⟨#[104, 102, 97]⟩ : ByteArray), (⟨#[104, 102, 97, 98]⟩ : ByteArray), (⟨#[]⟩ : ByteArray), (⟨#[100, 97]⟩ : ByteArray), (⟨#[100]⟩ : ByteArray), (⟨#[]⟩ : ByteArray), (⟨#[100, 97, 98]⟩ : ByteArray), (⟨#[100, 97]⟩ : ByteArray), (⟨#[100, 97]⟩ : ByteArray)] : List ByteArray) : List ByteArray)).bind fun y106 => (if a0 < 1 then (some (⟨#[]⟩ : ByteArray)) else (if a0 > 12 then (some (⟨#[]⟩ : ByteArray)) else (if 0 ≤ a0 then (if a0 < (y106.length : Int) then (some (rdOf ByteArray.empty y106 a0)) else (none)) else (none))))
set_option maxHeartbeats 8000000 in
set_option maxRecDepth 100000 in
theorem cubicleref18_asks.calls (a0 : Int) (r : ByteArray) (w : World) (h : cubicleref18_asks.f a0 = some r) :
    Calls Try.prog 47 #[.int .i64 a0] w fun e w' => e = .returned (.string r) ∧ Below w.heap.size w w' := by
  have HB := Aside0.mk (Below.refl w.heap.size w)
  have H : ((some (([(⟨#[]⟩ : ByteArray), (⟨#[]⟩ : ByteArray), (⟨#[104]⟩ : ByteArray), (⟨#[104, 102]⟩ : ByteArray), (⟨#[104, 102, 97]⟩ : ByteArray), (⟨#[104, 102, 97, 98]⟩ : ByteArray), (⟨#[]⟩ : ByteArray), (⟨#[100, 97]⟩ : ByteArray), (⟨#[100]⟩ : ByteArray), (⟨#[]⟩ : ByteArray), (⟨#[100, 97, 98]⟩ : ByteArray), (⟨#[100, 97]⟩ : ByteArray), (⟨#[100, 97]⟩ : ByteArray)] : List ByteArray) : List ByteArray)).bind fun y106 => (if a0 < 1 then (some (⟨#[]⟩ : ByteArray)) else (if a0 > 12 then (some (⟨#[]⟩ : ByteArray)) else (if 0 ≤ a0 then (if a0 < (y106.length : Int) then (some (rdOf ByteArray.empty y106 a0)) else (none)) else (none))))) = some r := h
  clear h
  obtain ⟨y106, hy106⟩ : ∃ y_ : List ByteArray, y_ = (([(⟨#[]⟩ : ByteArray), (⟨#[]⟩ : ByteArray), (⟨#[104]⟩ : ByteArray), (⟨#[104, 102]⟩ : ByteArray), (⟨#[104, 102, 97]⟩ : ByteArray), (⟨#[104, 102, 97, 98]⟩ : ByteArray), (⟨#[]⟩ : ByteArray), (⟨#[100, 97]⟩ : ByteArray), (⟨#[100]⟩ : ByteArray), (⟨#[]⟩ : ByteArray), (⟨#[100, 97, 98]⟩ : ByteArray), (⟨#[100, 97]⟩ : ByteArray), (⟨#[100, 97]⟩ : ByteArray)] : List ByteArray)) := ⟨_, rfl⟩
  replace H : (if a0 < 1 then (some (⟨#[]⟩ : ByteArray)) else (if a0 > 12 then (some (⟨#[]⟩ : ByteArray)) else (if 0 ≤ a0 then (if a0 < (y106.length : Int) then (some (rdOf ByteArray.empty y106 a0)) else (none)) else (none)))) = some r := by first | (rw [hy106]; with_reducible exact H) | (have H2_ := (Option.bind_some _ _).symm.trans H; rw [hy106]; with_reducible exact H2_) | (have H2_ := (Option.bind_some _ _).symm.trans H; with_reducible exact H2_) | with_reducible exact H | (rw [hy106]; exact H) | exact H
  have Ny106 := Aside0.mk hy106
  clear hy106
  by_cases c2 : a0 < 1
  · rw [if_pos c2] at H
    have c2b0 : decide (a0 < 1) = true := decide_eq_true c2
    clear c2
    obtain rfl := Option.some.inj H
    go_enter Try.func47, Try.ntmps47
    go_wp2_with (first | ((with_reducible refine gate_dst (N := 4) rfl ?_); refine Kd.R_lit Kd.string _ 9 ?hg (N := 4) ?hd (xs := ([(⟨#[]⟩ : ByteArray), (⟨#[]⟩ : ByteArray), (⟨#[104]⟩ : ByteArray), (⟨#[104, 102]⟩ : ByteArray), (⟨#[104, 102, 97]⟩ : ByteArray), (⟨#[104, 102, 97, 98]⟩ : ByteArray), (⟨#[]⟩ : ByteArray), (⟨#[100, 97]⟩ : ByteArray), (⟨#[100]⟩ : ByteArray), (⟨#[]⟩ : ByteArray), (⟨#[100, 97, 98]⟩ : ByteArray), (⟨#[100, 97]⟩ : ByteArray), (⟨#[100, 97]⟩ : ByteArray)] : List ByteArray)) (inner := [.string (⟨#[]⟩ : ByteArray), .string (⟨#[]⟩ : ByteArray), .string (⟨#[104]⟩ : ByteArray), .string (⟨#[104, 102]⟩ : ByteArray), .string (⟨#[104, 102, 97]⟩ : ByteArray), .string (⟨#[104, 102, 97, 98]⟩ : ByteArray), .string (⟨#[]⟩ : ByteArray), .string (⟨#[100, 97]⟩ : ByteArray), .string (⟨#[100]⟩ : ByteArray), .string (⟨#[]⟩ : ByteArray), .string (⟨#[100, 97, 98]⟩ : ByteArray), .string (⟨#[100, 97]⟩ : ByteArray), .string (⟨#[100, 97]⟩ : ByteArray)]) (ok := fun _ => True) (okp := fun _ => True) ?hr ?hp (fun _ hk => hk) trivial (Below.refl _ _) (Nat.le_refl _) (by simp) ?_; (case hd => rfl); (case hg => rfl); (case hr => first | (go_simp; done) | (go_simp; rfl)); (case hp => exact (Reps.one (show Kd.M Kd.string _ _ _ (⟨#[]⟩ : ByteArray) [.string (⟨#[]⟩ : ByteArray)] from rfl) (Reps.one (show Kd.M Kd.string _ _ _ (⟨#[]⟩ : ByteArray) [.string (⟨#[]⟩ : ByteArray)] from rfl) (Reps.one (show Kd.M Kd.string _ _ _ (⟨#[104]⟩ : ByteArray) [.string (⟨#[104]⟩ : ByteArray)] from rfl) (Reps.one (show Kd.M Kd.string _ _ _ (⟨#[104, 102]⟩ : ByteArray) [.string (⟨#[104, 102]⟩ : ByteArray)] from rfl) (Reps.one (show Kd.M Kd.string _ _ _ (⟨#[104, 102, 97]⟩ : ByteArray) [.string (⟨#[104, 102, 97]⟩ : ByteArray)] from rfl) (Reps.one (show Kd.M Kd.string _ _ _ (⟨#[104, 102, 97, 98]⟩ : ByteArray) [.string (⟨#[104, 102, 97, 98]⟩ : ByteArray)] from rfl) (Reps.one (show Kd.M Kd.string _ _ _ (⟨#[]⟩ : ByteArray) [.string (⟨#[]⟩ : ByteArray)] from rfl) (Reps.one (show Kd.M Kd.string _ _ _ (⟨#[100, 97]⟩ : ByteArray) [.string (⟨#[100, 97]⟩ : ByteArray)] from rfl) (Reps.one (show Kd.M Kd.string _ _ _ (⟨#[100]⟩ : ByteArray) [.string (⟨#[100]⟩ : ByteArray)] from rfl) (Reps.one (show Kd.M Kd.string _ _ _ (⟨#[]⟩ : ByteArray) [.string (⟨#[]⟩ : ByteArray)] from rfl) (Reps.one (show Kd.M Kd.string _ _ _ (⟨#[100, 97, 98]⟩ : ByteArray) [.string (⟨#[100, 97, 98]⟩ : ByteArray)] from rfl) (Reps.one (show Kd.M Kd.string _ _ _ (⟨#[100, 97]⟩ : ByteArray) [.string (⟨#[100, 97]⟩ : ByteArray)] from rfl) (Reps.one (show Kd.M Kd.string _ _ _ (⟨#[100, 97]⟩ : ByteArray) [.string (⟨#[100, 97]⟩ : ByteArray)] from rfl) (Reps.none _ _))))))))))))))); intro v107 w3 ho4 hb hg_ hnew_; clear hg_ hnew_; (first | rw [← Ny106.out] at ho4 | (simp only [Int.reduceToNat] at ho4; rw [← Ny106.out] at ho4)); have n0_ := Aside0.mk (Kd.R_lower ho4 (below_size (by repeat (first | (with_reducible first | exact HB.out | apply below_alloc | apply pw_below_drewN | apply below_drew1) | exact HB.out)))); have n1_ := Aside0.mk (below_step (by repeat (first | (with_reducible first | exact HB.out | apply below_alloc | apply pw_below_drewN | apply below_drew1) | exact HB.out)) hb); clear HB; have HO108 := n0_; have HB := n1_; clear n0_ n1_; clear hb ho4))
    go_ret
    exact ⟨by first | rfl | (simp [errW_none, errW_some] <;> rfl) | (simp [*, errW_none, errW_some] <;> rfl), by repeat (first | (with_reducible first | exact HB.out | apply below_alloc | apply pw_below_drewN | apply below_drew1) | exact HB.out)⟩
  · rw [if_neg c2] at H
    have c2b0 : decide (a0 < 1) = false := decide_eq_false c2
    clear c2
    by_cases c5 : a0 > 12
    · rw [if_pos c5] at H
      have c5b0 : decide (12 < a0) = true := decide_eq_true c5
      clear c5
      obtain rfl := Option.some.inj H
      go_enter Try.func47, Try.ntmps47
      go_wp2_with (first | ((with_reducible refine gate_dst (N := 4) rfl ?_); refine Kd.R_lit Kd.string _ 9 ?hg (N := 4) ?hd (xs := ([(⟨#[]⟩ : ByteArray), (⟨#[]⟩ : ByteArray), (⟨#[104]⟩ : ByteArray), (⟨#[104, 102]⟩ : ByteArray), (⟨#[104, 102, 97]⟩ : ByteArray), (⟨#[104, 102, 97, 98]⟩ : ByteArray), (⟨#[]⟩ : ByteArray), (⟨#[100, 97]⟩ : ByteArray), (⟨#[100]⟩ : ByteArray), (⟨#[]⟩ : ByteArray), (⟨#[100, 97, 98]⟩ : ByteArray), (⟨#[100, 97]⟩ : ByteArray), (⟨#[100, 97]⟩ : ByteArray)] : List ByteArray)) (inner := [.string (⟨#[]⟩ : ByteArray), .string (⟨#[]⟩ : ByteArray), .string (⟨#[104]⟩ : ByteArray), .string (⟨#[104, 102]⟩ : ByteArray), .string (⟨#[104, 102, 97]⟩ : ByteArray), .string (⟨#[104, 102, 97, 98]⟩ : ByteArray), .string (⟨#[]⟩ : ByteArray), .string (⟨#[100, 97]⟩ : ByteArray), .string (⟨#[100]⟩ : ByteArray), .string (⟨#[]⟩ : ByteArray), .string (⟨#[100, 97, 98]⟩ : ByteArray), .string (⟨#[100, 97]⟩ : ByteArray), .string (⟨#[100, 97]⟩ : ByteArray)]) (ok := fun _ => True) (okp := fun _ => True) ?hr ?hp (fun _ hk => hk) trivial (Below.refl _ _) (Nat.le_refl _) (by simp) ?_; (case hd => rfl); (case hg => rfl); (case hr => first | (go_simp; done) | (go_simp; rfl)); (case hp => exact (Reps.one (show Kd.M Kd.string _ _ _ (⟨#[]⟩ : ByteArray) [.string (⟨#[]⟩ : ByteArray)] from rfl) (Reps.one (show Kd.M Kd.string _ _ _ (⟨#[]⟩ : ByteArray) [.string (⟨#[]⟩ : ByteArray)] from rfl) (Reps.one (show Kd.M Kd.string _ _ _ (⟨#[104]⟩ : ByteArray) [.string (⟨#[104]⟩ : ByteArray)] from rfl) (Reps.one (show Kd.M Kd.string _ _ _ (⟨#[104, 102]⟩ : ByteArray) [.string (⟨#[104, 102]⟩ : ByteArray)] from rfl) (Reps.one (show Kd.M Kd.string _ _ _ (⟨#[104, 102, 97]⟩ : ByteArray) [.string (⟨#[104, 102, 97]⟩ : ByteArray)] from rfl) (Reps.one (show Kd.M Kd.string _ _ _ (⟨#[104, 102, 97, 98]⟩ : ByteArray) [.string (⟨#[104, 102, 97, 98]⟩ : ByteArray)] from rfl) (Reps.one (show Kd.M Kd.string _ _ _ (⟨#[]⟩ : ByteArray) [.string (⟨#[]⟩ : ByteArray)] from rfl) (Reps.one (show Kd.M Kd.string _ _ _ (⟨#[100, 97]⟩ : ByteArray) [.string (⟨#[100, 97]⟩ : ByteArray)] from rfl) (Reps.one (show Kd.M Kd.string _ _ _ (⟨#[100]⟩ : ByteArray) [.string (⟨#[100]⟩ : ByteArray)] from rfl) (Reps.one (show Kd.M Kd.string _ _ _ (⟨#[]⟩ : ByteArray) [.string (⟨#[]⟩ : ByteArray)] from rfl) (Reps.one (show Kd.M Kd.string _ _ _ (⟨#[100, 97, 98]⟩ : ByteArray) [.string (⟨#[100, 97, 98]⟩ : ByteArray)] from rfl) (Reps.one (show Kd.M Kd.string _ _ _ (⟨#[100, 97]⟩ : ByteArray) [.string (⟨#[100, 97]⟩ : ByteArray)] from rfl) (Reps.one (show Kd.M Kd.string _ _ _ (⟨#[100, 97]⟩ : ByteArray) [.string (⟨#[100, 97]⟩ : ByteArray)] from rfl) (Reps.none _ _))))))))))))))); intro v107 w6 ho7 hb hg_ hnew_; clear hg_ hnew_; (first | rw [← Ny106.out] at ho7 | (simp only [Int.reduceToNat] at ho7; rw [← Ny106.out] at ho7)); have n0_ := Aside0.mk (Kd.R_lower ho7 (below_size (by repeat (first | (with_reducible first | exact HB.out | apply below_alloc | apply pw_below_drewN | apply below_drew1) | exact HB.out)))); have n1_ := Aside0.mk (below_step (by repeat (first | (with_reducible first | exact HB.out | apply below_alloc | apply pw_below_drewN | apply below_drew1) | exact HB.out)) hb); clear HB; have HO108 := n0_; have HB := n1_; clear n0_ n1_; clear hb ho7))
      go_ret
      exact ⟨by first | rfl | (simp [errW_none, errW_some] <;> rfl) | (simp [*, errW_none, errW_some] <;> rfl), by repeat (first | (with_reducible first | exact HB.out | apply below_alloc | apply pw_below_drewN | apply below_drew1) | exact HB.out)⟩
    · rw [if_neg c5] at H
      have c5b0 : decide (12 < a0) = false := decide_eq_false c5
      clear c5
      by_cases c8 : 0 ≤ a0
      · rw [if_pos c8] at H
        have c8b0 : decide (0 ≤ a0) = true := decide_eq_true c8
        clear c8
        by_cases c9 : a0 < (y106.length : Int)
        · rw [if_pos c9] at H
          have c9b0 : decide (a0 < (y106.length : Int)) = true := decide_eq_true c9
          clear c9
          obtain rfl := Option.some.inj H
          go_enter Try.func47, Try.ntmps47
          go_wp2_with (first | ((with_reducible refine gate_dst (N := 4) rfl ?_); refine Kd.R_lit Kd.string _ 9 ?hg (N := 4) ?hd (xs := ([(⟨#[]⟩ : ByteArray), (⟨#[]⟩ : ByteArray), (⟨#[104]⟩ : ByteArray), (⟨#[104, 102]⟩ : ByteArray), (⟨#[104, 102, 97]⟩ : ByteArray), (⟨#[104, 102, 97, 98]⟩ : ByteArray), (⟨#[]⟩ : ByteArray), (⟨#[100, 97]⟩ : ByteArray), (⟨#[100]⟩ : ByteArray), (⟨#[]⟩ : ByteArray), (⟨#[100, 97, 98]⟩ : ByteArray), (⟨#[100, 97]⟩ : ByteArray), (⟨#[100, 97]⟩ : ByteArray)] : List ByteArray)) (inner := [.string (⟨#[]⟩ : ByteArray), .string (⟨#[]⟩ : ByteArray), .string (⟨#[104]⟩ : ByteArray), .string (⟨#[104, 102]⟩ : ByteArray), .string (⟨#[104, 102, 97]⟩ : ByteArray), .string (⟨#[104, 102, 97, 98]⟩ : ByteArray), .string (⟨#[]⟩ : ByteArray), .string (⟨#[100, 97]⟩ : ByteArray), .string (⟨#[100]⟩ : ByteArray), .string (⟨#[]⟩ : ByteArray), .string (⟨#[100, 97, 98]⟩ : ByteArray), .string (⟨#[100, 97]⟩ : ByteArray), .string (⟨#[100, 97]⟩ : ByteArray)]) (ok := fun _ => True) (okp := fun _ => True) ?hr ?hp (fun _ hk => hk) trivial (Below.refl _ _) (Nat.le_refl _) (by simp) ?_; (case hd => rfl); (case hg => rfl); (case hr => first | (go_simp; done) | (go_simp; rfl)); (case hp => exact (Reps.one (show Kd.M Kd.string _ _ _ (⟨#[]⟩ : ByteArray) [.string (⟨#[]⟩ : ByteArray)] from rfl) (Reps.one (show Kd.M Kd.string _ _ _ (⟨#[]⟩ : ByteArray) [.string (⟨#[]⟩ : ByteArray)] from rfl) (Reps.one (show Kd.M Kd.string _ _ _ (⟨#[104]⟩ : ByteArray) [.string (⟨#[104]⟩ : ByteArray)] from rfl) (Reps.one (show Kd.M Kd.string _ _ _ (⟨#[104, 102]⟩ : ByteArray) [.string (⟨#[104, 102]⟩ : ByteArray)] from rfl) (Reps.one (show Kd.M Kd.string _ _ _ (⟨#[104, 102, 97]⟩ : ByteArray) [.string (⟨#[104, 102, 97]⟩ : ByteArray)] from rfl) (Reps.one (show Kd.M Kd.string _ _ _ (⟨#[104, 102, 97, 98]⟩ : ByteArray) [.string (⟨#[104, 102, 97, 98]⟩ : ByteArray)] from rfl) (Reps.one (show Kd.M Kd.string _ _ _ (⟨#[]⟩ : ByteArray) [.string (⟨#[]⟩ : ByteArray)] from rfl) (Reps.one (show Kd.M Kd.string _ _ _ (⟨#[100, 97]⟩ : ByteArray) [.string (⟨#[100, 97]⟩ : ByteArray)] from rfl) (Reps.one (show Kd.M Kd.string _ _ _ (⟨#[100]⟩ : ByteArray) [.string (⟨#[100]⟩ : ByteArray)] from rfl) (Reps.one (show Kd.M Kd.string _ _ _ (⟨#[]⟩ : ByteArray) [.string (⟨#[]⟩ : ByteArray)] from rfl) (Reps.one (show Kd.M Kd.string _ _ _ (⟨#[100, 97, 98]⟩ : ByteArray) [.string (⟨#[100, 97, 98]⟩ : ByteArray)] from rfl) (Reps.one (show Kd.M Kd.string _ _ _ (⟨#[100, 97]⟩ : ByteArray) [.string (⟨#[100, 97]⟩ : ByteArray)] from rfl) (Reps.one (show Kd.M Kd.string _ _ _ (⟨#[100, 97]⟩ : ByteArray) [.string (⟨#[100, 97]⟩ : ByteArray)] from rfl) (Reps.none _ _))))))))))))))); intro v107 w10 ho11 hb hg_ hnew_; clear hg_ hnew_; (first | rw [← Ny106.out] at ho11 | (simp only [Int.reduceToNat] at ho11; rw [← Ny106.out] at ho11)); have n0_ := Aside0.mk (Kd.R_lower ho11 (below_size (by repeat (first | (with_reducible first | exact HB.out | apply below_alloc | apply pw_below_drewN | apply below_drew1) | exact HB.out)))); have n1_ := Aside0.mk (below_step (by repeat (first | (with_reducible first | exact HB.out | apply below_alloc | apply pw_below_drewN | apply below_drew1) | exact HB.out)) hb); clear HB; have HO108 := n0_; have HB := n1_; clear n0_ n1_; clear hb ho11; obtain ⟨Ao12, co12, eo12⟩ := Kd.R_slice HO108.out; subst eo12; have p109 : 0 ≤ (a0 : Int) := of_decide_eq_true (by first | (with_reducible assumption) | assumption); have q109 : a0 < (y106.length : Int) := of_decide_eq_true (by first | (with_reducible assumption) | assumption); obtain ⟨ad109, e109, hx109_0⟩ := Kd.at_string (Kd.R_reads' HO108.out).2.2 a0 p109 q109; cases e109; replace p109 := eq_true p109; replace q109 := eq_true q109))
          go_ret
          exact ⟨by first | rfl | (simp [errW_none, errW_some] <;> rfl) | (simp [*, errW_none, errW_some] <;> rfl), by repeat (first | (with_reducible first | exact HB.out | apply below_alloc | apply pw_below_drewN | apply below_drew1) | exact HB.out)⟩
        · rw [if_neg c9] at H
          exact absurd H (by simp)
      · rw [if_neg c8] at H
        exact absurd H (by simp)

/-! ### cubicleref18_has: function 48 -/
def cubicleref18_has.l0 : Nat → ByteArray → Int → Int → Option (Bool)
  | 0, _, _, _ => none
  | k + 1, x0, x1, x5 => if x5 < (x0.size : Int) then (if 0 ≤ x5 then (if (bt x0 x5) = x1 then (some true) else (cubicleref18_has.l0 k x0 x1 (wrap64 (x5 + 1)))) else (none)) else (some false)
def cubicleref18_has.f (k : Nat) (a0 : ByteArray) (a1 : Int) : Option (Bool) := cubicleref18_has.l0 k a0 a1 0
theorem cubicleref18_has.mono_l : ∀ k, (∀ y0 y1 y2, LeO (cubicleref18_has.l0 k y0 y1 y2) (cubicleref18_has.l0 (k + 1) y0 y1 y2))
  | 0 => fun _ _ _ r h => by simp [cubicleref18_has.l0] at h
  | k + 1 => by
    have ih0 := cubicleref18_has.mono_l k
    · intro y0 y1 y2
      unfold cubicleref18_has.l0
      repeat' first
      | (with_reducible exact ih0 _ _ _)
      | (with_reducible exact LeO.refl _)
      | (with_reducible exact LeO.none _)
      | (with_reducible refine LeO.ite ?_ ?_)
      | (with_reducible refine LeO.bind ?_ (fun _ => ?_))
      | exact ih0 _ _ _
      | exact LeO.none _
      | refine LeO.ite ?_ ?_
      | refine LeO.bind ?_ (fun _ => ?_)
theorem cubicleref18_has.mono : ∀ a0 a1 k, LeO (cubicleref18_has.f k a0 a1) (cubicleref18_has.f (k + 1) a0 a1) := by
  intro a0 a1 k
  have ih0 := cubicleref18_has.mono_l k
  unfold cubicleref18_has.f
  repeat' first
      | (with_reducible exact ih0 _ _ _)
      | (with_reducible exact LeO.refl _)
      | (with_reducible exact LeO.none _)
      | (with_reducible refine LeO.ite ?_ ?_)
      | (with_reducible refine LeO.bind ?_ (fun _ => ?_))
      | exact ih0 _ _ _
      | exact LeO.none _
      | refine LeO.ite ?_ ?_
      | refine LeO.bind ?_ (fun _ => ?_)
set_option maxHeartbeats 8000000 in
set_option maxRecDepth 100000 in
theorem cubicleref18_has.calls (k : Nat) (a0 : ByteArray) (a1 : Int) (r : Bool) (w : World) (h : cubicleref18_has.f k a0 a1 = some r) :
    Calls Try.prog 48 #[.string a0, .int .u8 a1] w fun e w' => e = .returned (.bool r) ∧ Drawn0 w w' := by
  have H : (cubicleref18_has.l0 k a0 a1 0) = some r := h
  clear h
  have H' := Aside0.mk H
  clear H
  go_enter Try.func48, Try.ntmps48
  go_wp2
  go_loopg [5] k (fun kq v5 w' => ∃ (x5_1 : Int), v5 = .int .i64 x5_1 ∧ Aside0 (cubicleref18_has.l0 kq a0 a1 x5_1 = some r) ∧ Aside0 (kq ≤ k) ∧ Drawn0 w w')
  case atStart => exact ⟨(0), (by first | rfl | (simp; done) | (simp [*]; done)), H', ⟨Nat.le_refl _⟩, by repeat (first | exact Drawn0.refl _ | apply Drawn0.step)⟩
  case round =>
    clear H'
    try clear p2
    obtain ⟨x5_1, rfl, HA, HK1, ⟨m1, rfl⟩⟩ := hrel
    cases gk with
    | zero => exact absurd HA.out (by simp [cubicleref18_has.l0])
    | succ k1 =>
      have H := HA.out
      clear HA
      simp only [cubicleref18_has.l0] at H
      by_cases c3 : x5_1 < (a0.size : Int)
      · rw [if_pos c3] at H
        have c3b0 : decide (x5_1 < (a0.size : Int)) = true := decide_eq_true c3
        clear c3
        by_cases c4 : 0 ≤ x5_1
        · rw [if_pos c4] at H
          have c4b0 : decide (0 ≤ x5_1) = true := decide_eq_true c4
          clear c4
          by_cases c6 : (bt a0 x5_1) = a1
          · rw [if_pos c6] at H
            have c6b0 : ((bt a0 x5_1) == a1) = true := beq_iff_eq.mpr c6
            have c6b1 : ((bt a0 x5_1) != a1) = false := bne_eq_false_iff_eq.mpr c6
            clear c6
            obtain rfl := Option.some.inj H
            have p5 : 0 ≤ (x5_1 : Int) := of_decide_eq_true (by first | (with_reducible assumption) | assumption)
            have q5 : x5_1 < (a0.size : Int) := of_decide_eq_true (by first | (with_reducible assumption) | assumption)
            have hx5 := bt_at a0 x5_1
            replace p5 := eq_true p5
            replace q5 := eq_true q5
            go_wp2
            go_ret
            exact ⟨by first | rfl | (simp; done) | (simp [*]; done), by repeat (first | exact Drawn0.refl _ | apply Drawn0.step)⟩
          · rw [if_neg c6] at H
            have c6b0 : ((bt a0 x5_1) == a1) = false := beq_eq_false_iff_ne.mpr c6
            have c6b1 : ((bt a0 x5_1) != a1) = true := bne_iff_ne.mpr c6
            have H' := Aside0.mk H
            clear H
            have p5 : 0 ≤ (x5_1 : Int) := of_decide_eq_true (by first | (with_reducible assumption) | assumption)
            have q5 : x5_1 < (a0.size : Int) := of_decide_eq_true (by first | (with_reducible assumption) | assumption)
            have hx5 := bt_at a0 x5_1
            replace p5 := eq_true p5
            replace q5 := eq_true q5
            go_wp2
            go_roundg k1
            case measure => have := HK1.out; omega
            case rel => exact ⟨(wrap64 (x5_1 + 1)), (by first | rfl | (simp; done) | (simp [*]; done)), H', ⟨by have := HK1.out; omega⟩, by repeat (first | exact Drawn0.refl _ | apply Drawn0.step)⟩
        · rw [if_neg c4] at H
          exact absurd H (by simp)
      · rw [if_neg c3] at H
        have c3b0 : decide (x5_1 < (a0.size : Int)) = false := decide_eq_false c3
        clear c3
        obtain rfl := Option.some.inj H
        go_wp2
        go_ret
        exact ⟨by first | rfl | (simp; done) | (simp [*]; done), by repeat (first | exact Drawn0.refl _ | apply Drawn0.step)⟩

end Go.Proofs.Ytbmecfpdemoooaa.PDecodeLong
