-- PRINTED BY print.sh 35421559b90ae4d0a3588c463048766b98c2df88dd9212a6774a882060cdf62d: not written by this session
import Derived.Test.YtbmecfpdemoooaaPFieldSplitsx0
import Derived.Test.YtbmecfpdemoooaaPFieldSplitsx1
namespace Go.Proofs.Ytbmecfpdemoooaa.PFieldSplits
open Go.RowKit Go.Proofs.YtbmecfpdemoooaaW.PrintWords Go.Proofs.YtbmecfpdemoooaaW.PrintLast Go.Proofs.YtbmecfpdemoooaaW.PrintMore
attribute [local go_sem] max2_int min2_int max_two min_two max_three min_three max_four min_four   -- for this text's walks alone
set_option linter.unusedVariables false
set_option linter.unusedSimpArgs false

/-! ### cubicleref01_Get: function 21 -/
mutual
def cubicleref01_Get.l0 : Nat → Int → Int → Int → Int → Int → Option (Int)
  | 0, _, _, _, _, _ => none
  | k + 1, x1, x5, x6, x129000, x129001 => if x6 < x129001 then ((cubicleref01_Formed.f x129000 x129001).bind fun t129 => (cubicleref01_Get.j1 k x1 x5 x6 t129 x129000 x129001)) else (cubicleref01_Get.j1 k x1 x5 x6 false x129000 x129001)
def cubicleref01_Get.j1 : Nat → Int → Int → Int → Bool → Int → Int → Option (Int)
  | 0, _, _, _, _, _, _ => none
  | k + 1, x1, x5, x6, x14, x129000, x129001 => if x14 = true then (if 0 ≤ (wrap64 (x129000 + x6)) then (if (Go.bits .and .u64 (shr .u64 x1 (wrap64 (x129000 + x6))) 1) = 1 then (if 0 ≤ x6 then (cubicleref01_Get.l0 k x1 (Go.bits .or .u64 x5 (shl .u64 1 x6)) (wrap64 (x6 + 1)) x129000 x129001) else (none)) else (cubicleref01_Get.l0 k x1 x5 (wrap64 (x6 + 1)) x129000 x129001)) else (none)) else (some x5)
end
def cubicleref01_Get.f (k : Nat) (a0_0 : Int) (a0_1 : Int) (a1 : Int) : Option (Int) := cubicleref01_Get.l0 k a1 0 0 a0_0 a0_1
theorem cubicleref01_Get.mono_l : ∀ k, (∀ y0 y1 y2 y3 y4, LeO (cubicleref01_Get.l0 k y0 y1 y2 y3 y4) (cubicleref01_Get.l0 (k + 1) y0 y1 y2 y3 y4)) ∧ (∀ y0 y1 y2 y3 y4 y5, LeO (cubicleref01_Get.j1 k y0 y1 y2 y3 y4 y5) (cubicleref01_Get.j1 (k + 1) y0 y1 y2 y3 y4 y5))
  | 0 => ⟨fun _ _ _ _ _ r h => by simp [cubicleref01_Get.l0] at h, fun _ _ _ _ _ _ r h => by simp [cubicleref01_Get.j1] at h⟩
  | k + 1 => by
    obtain ⟨ih0, ih1⟩ := cubicleref01_Get.mono_l k
    refine ⟨?_, ?_⟩
    · intro y0 y1 y2 y3 y4
      unfold cubicleref01_Get.l0
      repeat' first
      | (with_reducible exact ih0 _ _ _ _ _)
      | (with_reducible exact ih1 _ _ _ _ _ _)
      | (with_reducible exact LeO.refl _)
      | (with_reducible exact LeO.none _)
      | (with_reducible refine LeO.ite ?_ ?_)
      | (with_reducible refine LeO.bind ?_ (fun _ => ?_))
      | exact ih0 _ _ _ _ _
      | exact ih1 _ _ _ _ _ _
      | exact LeO.none _
      | refine LeO.ite ?_ ?_
      | refine LeO.bind ?_ (fun _ => ?_)
    · intro y0 y1 y2 y3 y4 y5
      unfold cubicleref01_Get.j1
      repeat' first
      | (with_reducible exact ih0 _ _ _ _ _)
      | (with_reducible exact ih1 _ _ _ _ _ _)
      | (with_reducible exact LeO.refl _)
      | (with_reducible exact LeO.none _)
      | (with_reducible refine LeO.ite ?_ ?_)
      | (with_reducible refine LeO.bind ?_ (fun _ => ?_))
      | exact ih0 _ _ _ _ _
      | exact ih1 _ _ _ _ _ _
      | exact LeO.none _
      | refine LeO.ite ?_ ?_
      | refine LeO.bind ?_ (fun _ => ?_)
theorem cubicleref01_Get.mono : ∀ a0 a1 a2 k, LeO (cubicleref01_Get.f k a0 a1 a2) (cubicleref01_Get.f (k + 1) a0 a1 a2) := by
  intro a0 a1 a2 k
  obtain ⟨ih0, ih1⟩ := cubicleref01_Get.mono_l k
  unfold cubicleref01_Get.f
  repeat' first
      | (with_reducible exact ih0 _ _ _ _ _)
      | (with_reducible exact ih1 _ _ _ _ _ _)
      | (with_reducible exact LeO.refl _)
      | (with_reducible exact LeO.none _)
      | (with_reducible refine LeO.ite ?_ ?_)
      | (with_reducible refine LeO.bind ?_ (fun _ => ?_))
      | exact ih0 _ _ _ _ _
      | exact ih1 _ _ _ _ _ _
      | exact LeO.none _
      | refine LeO.ite ?_ ?_
      | refine LeO.bind ?_ (fun _ => ?_)
set_option maxHeartbeats 8000000 in
set_option maxRecDepth 100000 in
theorem cubicleref01_Get.calls (k : Nat) (a0_0 : Int) (a0_1 : Int) (a1 : Int) (r : Int) (w : World) (h : cubicleref01_Get.f k a0_0 a0_1 a1 = some r) :
    Calls Try.prog 21 #[.agg #[.int .i64 a0_0, .int .i64 a0_1], .int .u64 a1] w fun e w' => e = .returned (.int .u64 r) ∧ Below w.heap.size w w' := by
  have hu23 := Try.underlying23
  have HB := Aside0.mk (Below.refl w.heap.size w)
  have H : (cubicleref01_Get.l0 k a1 0 0 a0_0 a0_1) = some r := h
  clear h
  have H' := Aside0.mk H
  clear H
  go_enter Try.func21, Try.ntmps21
  go_wp2_with (first | ((with_reducible refine gate_dst (N := 2) rfl ?_); refine box_event ?hg (N := 2) ?hd (cs := #[.int .i64 a0_0, .int .i64 a0_1]) (t := 23) ?hr ?_; (case hd => rfl); (case hg => rfl); (case hr => first | (go_simp; done) | (go_simp; rfl)); intro gb128 hg w3 hbox hb; have n0_ := Aside0.mk (below_step (by repeat (first | (with_reducible first | exact HB.out | apply below_alloc | apply pw_below_drewN | apply below_drew1) | exact HB.out)) hb); have n1_ := Aside0.mk (hbox); have n2_ := Aside0.mk ((by rw [hg]; exact (below_size (by repeat (first | (with_reducible first | exact HB.out | apply below_alloc | apply pw_below_drewN | apply below_drew1) | exact HB.out))) : w.heap.size ≤ gb128)); have n3_ := Aside0.mk ((by rw [hg]; exact (below_size (by repeat (first | (with_reducible first | exact HB.out | apply below_alloc | apply pw_below_drewN | apply below_drew1) | exact HB.out))) : w.heap.size ≤ gb128)); clear HB; have HB := n0_; have BK128 := n1_; have GW128 := n2_; have GE128 := n3_; clear n0_ n1_ n2_ n3_; clear hb hbox hg))
  go_loopg [5, 6] k (fun kq v5 v6 w' => ∃ (x5_1 : Int) (x6_1 : Int), v5 = .int .u64 x5_1 ∧ v6 = .int .i64 x6_1 ∧ Aside0 (cubicleref01_Get.l0 kq a1 x5_1 x6_1 a0_0 a0_1 = some r) ∧ Aside0 (kq ≤ k) ∧ Aside0 (w'.heap[gb128]? = some (.cells #[.int .i64 a0_0, .int .i64 a0_1] 23 (0, 0))) ∧ Aside0 (Below w.heap.size w w'))
  case atStart => exact ⟨(0), (0), (by first | rfl | (simp; done) | (simp [*]; done)), (by first | rfl | (simp; done) | (simp [*]; done)), H', ⟨Nat.le_refl _⟩, ⟨by (with_reducible repeat (first | refine blk_drewN ?_ _ | refine blk_drew ?_ | refine blk_alloc ?_ _)); exact BK128.out⟩, ⟨by repeat (first | (with_reducible first | exact HB.out | apply below_alloc | apply pw_below_drewN | apply below_drew1 | refine below_set ?_ GE128.out) | exact HB.out)⟩⟩
  case round =>
    clear H'
    try clear c2
    try clear p2
    obtain ⟨x5_1, x6_1, rfl, rfl, HA, HK1, BK128, HB⟩ := hrel
    cases gk with
    | zero => exact absurd HA.out (by simp [cubicleref01_Get.l0])
    | succ k1 =>
      have H := HA.out
      clear HA
      simp only [cubicleref01_Get.l0] at H
      have HC4 := Aside0.mk H
      clear H
      go_upto_region 3 with (fail)
      go_cut [14] (fun v14 wc => ∃ (kq : Nat) (x14_3 : Bool), v14 = .bool x14_3 ∧ Aside0 (cubicleref01_Get.j1 kq a1 x5_1 x6_1 x14_3 a0_0 a0_1 = some r) ∧ Aside0 (kq ≤ k1) ∧ Aside0 (wc.heap[gb128]? = some (.cells #[.int .i64 a0_0, .int .i64 a0_1] 23 (0, 0))) ∧ Aside0 (Below w.heap.size w wc))
      case first =>
        have H := HC4.out
        clear HC4
        by_cases c5 : x6_1 < a0_1
        · rw [if_pos c5] at H
          have c5b0 : decide (x6_1 < a0_1) = true := decide_eq_true c5
          clear c5
          (first | rw [c5b0] | (simp only [i64_w, i32_w]; rw [c5b0]) | skip)
          replace H := Option.bind_eq_some_iff.mp H
          obtain ⟨t129, A60, H⟩ := H
          replace H : (cubicleref01_Get.j1 k1 a1 x5_1 x6_1 t129 a0_0 a0_1) = some r := H
          have A6 := Aside0.mk A60
          clear A60
          have H' := Aside0.mk H
          clear H
          have hcz7_0 : wr.cell? ⟨gb128, 0, none⟩ = some (.int .i64 a0_0) := (blk_cell BK128.out 0).trans rfl
          have hcz7_1 : wr.cell? ⟨gb128, 1, none⟩ = some (.int .i64 a0_1) := (blk_cell BK128.out 1).trans rfl
          have hfz7_0 := blk_frozen BK128.out 0
          have hfz7_1 := blk_frozen BK128.out 1
          go_wp2_with (first | (go_at_call 17; (with_reducible refine (cubicleref01_Formed.calls a0_0 a0_1 t129 _ A6.out).mono ?_); rintro e w8 ⟨rfl, hb⟩; have n0_ := Aside0.mk (blk_below (g := gb128) (o := .cells #[.int .i64 a0_0, .int .i64 a0_1] 23 (0, 0)) (by (with_reducible repeat (first | refine blk_drewN ?_ _ | refine blk_drew ?_ | refine blk_alloc ?_ _)); exact BK128.out) hb); have n1_ := Aside0.mk (below_step (by repeat (first | (with_reducible first | exact HB.out | apply below_alloc | apply pw_below_drewN | apply below_drew1 | refine below_set ?_ GE128.out) | exact HB.out)) hb); clear BK128; clear HB; have BK128 := n0_; have HB := n1_; clear n0_ n1_; (try clear hb); (try clear hb2); (try clear hk); (try clear hi)))
          go_meet
          case rel => exact ⟨_, (t129), (by first | rfl | (simp; done) | (simp [*]; done)), H', ⟨by have := HK1.out; first | omega | exact Nat.le_refl _⟩, ⟨by (with_reducible repeat (first | refine blk_drewN ?_ _ | refine blk_drew ?_ | refine blk_alloc ?_ _)); exact BK128.out⟩, ⟨by repeat (first | (with_reducible first | exact HB.out | apply below_alloc | apply pw_below_drewN | apply below_drew1 | refine below_set ?_ GE128.out) | exact HB.out)⟩⟩
        · rw [if_neg c5] at H
          have c5b0 : decide (x6_1 < a0_1) = false := decide_eq_false c5
          clear c5
          (first | rw [c5b0] | (simp only [i64_w, i32_w]; rw [c5b0]) | skip)
          have H' := Aside0.mk H
          clear H
          have hcz9_0 : wr.cell? ⟨gb128, 0, none⟩ = some (.int .i64 a0_0) := (blk_cell BK128.out 0).trans rfl
          have hcz9_1 : wr.cell? ⟨gb128, 1, none⟩ = some (.int .i64 a0_1) := (blk_cell BK128.out 1).trans rfl
          have hfz9_0 := blk_frozen BK128.out 0
          have hfz9_1 := blk_frozen BK128.out 1
          go_wp2
          go_meet
          case rel => exact ⟨_, (false), (by first | rfl | (simp; done) | (simp [*]; done)), H', ⟨by have := HK1.out; first | omega | exact Nat.le_refl _⟩, ⟨by (with_reducible repeat (first | refine blk_drewN ?_ _ | refine blk_drew ?_ | refine blk_alloc ?_ _)); exact BK128.out⟩, ⟨by repeat (first | (with_reducible first | exact HB.out | apply below_alloc | apply pw_below_drewN | apply below_drew1 | refine below_set ?_ GE128.out) | exact HB.out)⟩⟩
      case rest =>
        clear HC4
        try clear c2
        try clear p2
        try clear c5
        try clear c5b0
        try clear hcz7_0
        try clear hcz7_1
        try clear hcz9_0
        try clear hcz9_1
        try clear hfz7_0
        try clear hfz7_1
        try clear hfz9_0
        try clear hfz9_1
        try clear p2
        obtain ⟨kq, x14_3, rfl, HA, HJ3, BK128, HB⟩ := hcut
        cases kq with
        | zero => exact absurd HA.out (by simp [cubicleref01_Get.j1])
        | succ kj3 =>
          have H := HA.out
          clear HA
          simp only [cubicleref01_Get.j1] at H
          by_cases c10 : x14_3 = true
          · subst c10
            have H1 : (if 0 ≤ (wrap64 (a0_0 + x6_1)) then (if (Go.bits .and .u64 (shr .u64 a1 (wrap64 (a0_0 + x6_1))) 1) = 1 then (if 0 ≤ x6_1 then (cubicleref01_Get.l0 kj3 a1 (Go.bits .or .u64 x5_1 (shl .u64 1 x6_1)) (wrap64 (x6_1 + 1)) a0_0 a0_1) else (none)) else (cubicleref01_Get.l0 kj3 a1 x5_1 (wrap64 (x6_1 + 1)) a0_0 a0_1)) else (none)) = some r := by rw [if_pos rfl] at H; exact H
            clear H
            have H := H1
            clear H1
            obtain ⟨ji11, hji11⟩ : ∃ j_ : Int, (wrap64 (a0_0 + x6_1)) = j_ := ⟨_, rfl⟩
            replace H : (if 0 ≤ (ji11) then (if (Go.bits .and .u64 (shr .u64 a1 (ji11)) 1) = 1 then (if 0 ≤ x6_1 then (cubicleref01_Get.l0 kj3 a1 (Go.bits .or .u64 x5_1 (shl .u64 1 x6_1)) (wrap64 (x6_1 + 1)) a0_0 a0_1) else (none)) else (cubicleref01_Get.l0 kj3 a1 x5_1 (wrap64 (x6_1 + 1)) a0_0 a0_1)) else (none)) = some r := by first | (rw [hji11] at H; exact H) | (simp only [hji11] at H ⊢; exact H)
            have hji11w : (IntKind.i64.wrap (a0_0 + x6_1)) = ji11 := (i64_w _).trans hji11
            by_cases c12 : 0 ≤ (ji11)
            · rw [if_pos c12] at H
              have c12b0 := eq_true c12
              have c12b1 : decide (0 ≤ (ji11)) = true := decide_eq_true c12
              clear c12
              obtain ⟨ji13, hji13⟩ : ∃ j_ : Int, (shr .u64 a1 (ji11)) = j_ := ⟨_, rfl⟩
              replace H : (if (Go.bits .and .u64 (ji13) 1) = 1 then (if 0 ≤ x6_1 then (cubicleref01_Get.l0 kj3 a1 (Go.bits .or .u64 x5_1 (shl .u64 1 x6_1)) (wrap64 (x6_1 + 1)) a0_0 a0_1) else (none)) else (cubicleref01_Get.l0 kj3 a1 x5_1 (wrap64 (x6_1 + 1)) a0_0 a0_1)) = some r := by first | (rw [hji13] at H; exact H) | (simp only [hji13] at H ⊢; exact H)
              have hji13_ : (a1 / 2 ^ min (ji11).toNat 64) = ji13 := hji13
              have hji13z : (ji11) ≤ 64 → (a1 / 2 ^ (ji11).toNat) = ji13 := shr_small hji13
              by_cases c14 : (Go.bits .and .u64 (ji13) 1) = 1
              · rw [if_pos c14] at H
                have c14b0 : ((Go.bits .and .u64 (ji13) 1) == 1) = true := beq_iff_eq.mpr c14
                have c14b1 : ((Go.bits .and .u64 (ji13) 1) != 1) = false := bne_eq_false_iff_eq.mpr c14
                clear c14
                by_cases c15 : 0 ≤ x6_1
                · rw [if_pos c15] at H
                  have c15b0 := eq_true c15
                  have c15b1 : decide (0 ≤ x6_1) = true := decide_eq_true c15
                  clear c15
                  obtain ⟨ji16, hji16⟩ : ∃ j_ : Int, (shl .u64 1 x6_1) = j_ := ⟨_, rfl⟩
                  replace H : (cubicleref01_Get.l0 kj3 a1 (Go.bits .or .u64 x5_1 (ji16)) (wrap64 (x6_1 + 1)) a0_0 a0_1) = some r := by first | (rw [hji16] at H; exact H) | (simp only [hji16] at H ⊢; exact H)
                  have hji16_ : (IntKind.u64.wrap (1 * 2 ^ min x6_1.toNat 64)) = ji16 := hji16
                  have hji16z : x6_1 ≤ 64 → (IntKind.u64.wrap (1 * 2 ^ x6_1.toNat)) = ji16 := shl_small hji16
                  have hji16u : (IntKind.u64.wrap (2 ^ min x6_1.toNat 64)) = ji16 := by have h_ := hji16_; rw [Int.one_mul] at h_; exact h_
                  have hji16v : x6_1 ≤ 64 → (IntKind.u64.wrap (2 ^ x6_1.toNat)) = ji16 := fun hle_ => by have h_ := hji16z hle_; rw [Int.one_mul] at h_; exact h_
                  have H' := Aside0.mk H
                  clear H
                  have hcz17_0 : wc.cell? ⟨gb128, 0, none⟩ = some (.int .i64 a0_0) := (blk_cell BK128.out 0).trans rfl
                  have hcz17_1 : wc.cell? ⟨gb128, 1, none⟩ = some (.int .i64 a0_1) := (blk_cell BK128.out 1).trans rfl
                  have hfz17_0 := blk_frozen BK128.out 0
                  have hfz17_1 := blk_frozen BK128.out 1
                  go_wp2
                  go_roundg kj3
                  case measure => have := HK1.out; have := HJ3.out; omega
                  case rel => exact ⟨(Go.bits .or .u64 x5_1 (ji16)), (wrap64 (x6_1 + 1)), (by first | rfl | (simp; done) | (simp only [← hji16] <;> (first | rfl | simp)) | (simp [*]; done)), (by first | rfl | (simp; done) | (simp [*]; done)), H', ⟨by have := HK1.out; have := HJ3.out; omega⟩, ⟨by (with_reducible repeat (first | refine blk_drewN ?_ _ | refine blk_drew ?_ | refine blk_alloc ?_ _)); exact BK128.out⟩, ⟨by repeat (first | (with_reducible first | exact HB.out | apply below_alloc | apply pw_below_drewN | apply below_drew1 | refine below_set ?_ GE128.out) | exact HB.out)⟩⟩
                · rw [if_neg c15] at H
                  exact absurd H (by simp)
              · rw [if_neg c14] at H
                have c14b0 : ((Go.bits .and .u64 (ji13) 1) == 1) = false := beq_eq_false_iff_ne.mpr c14
                have c14b1 : ((Go.bits .and .u64 (ji13) 1) != 1) = true := bne_iff_ne.mpr c14
                have H' := Aside0.mk H
                clear H
                have hcz18_0 : wc.cell? ⟨gb128, 0, none⟩ = some (.int .i64 a0_0) := (blk_cell BK128.out 0).trans rfl
                have hcz18_1 : wc.cell? ⟨gb128, 1, none⟩ = some (.int .i64 a0_1) := (blk_cell BK128.out 1).trans rfl
                have hfz18_0 := blk_frozen BK128.out 0
                have hfz18_1 := blk_frozen BK128.out 1
                go_wp2
                go_roundg kj3
                case measure => have := HK1.out; have := HJ3.out; omega
                case rel => exact ⟨(x5_1), (wrap64 (x6_1 + 1)), (by first | rfl | (simp; done) | (simp [*]; done)), (by first | rfl | (simp; done) | (simp [*]; done)), H', ⟨by have := HK1.out; have := HJ3.out; omega⟩, ⟨by (with_reducible repeat (first | refine blk_drewN ?_ _ | refine blk_drew ?_ | refine blk_alloc ?_ _)); exact BK128.out⟩, ⟨by repeat (first | (with_reducible first | exact HB.out | apply below_alloc | apply pw_below_drewN | apply below_drew1 | refine below_set ?_ GE128.out) | exact HB.out)⟩⟩
            · rw [if_neg c12] at H
              exact absurd H (by simp)
          · replace c10 := Bool.eq_false_iff.mpr c10
            subst c10
            have H1 : (some x5_1) = some r := by rw [if_neg (show ¬ (false = true) by decide)] at H; exact H
            clear H
            have H := H1
            clear H1
            obtain rfl := Option.some.inj H
            go_wp2
            go_ret
            exact ⟨by first | rfl | (simp [errW_none, errW_some] <;> rfl) | (simp [*, errW_none, errW_some] <;> rfl), by repeat (first | (with_reducible first | exact HB.out | apply below_alloc | apply pw_below_drewN | apply below_drew1 | refine below_set ?_ GE128.out) | exact HB.out)⟩

/-! ### cubicleref01_Put: function 23 -/
mutual
def cubicleref01_Put.l0 : Nat → Int → Int → Int → Int → Int → Option (Int)
  | 0, _, _, _, _, _ => none
  | k + 1, x1, x2, x7, x131000, x131001 => if x7 < x131001 then ((cubicleref01_Formed.f x131000 x131001).bind fun t131 => (cubicleref01_Put.j1 k x1 x2 x7 t131 x131000 x131001)) else (cubicleref01_Put.j1 k x1 x2 x7 false x131000 x131001)
def cubicleref01_Put.j1 : Nat → Int → Int → Int → Bool → Int → Int → Option (Int)
  | 0, _, _, _, _, _, _ => none
  | k + 1, x1, x2, x7, x16, x131000, x131001 => if x16 = true then (if 0 ≤ (wrap64 (x131000 + x7)) then (if 0 ≤ x7 then (if (Go.bits .and .u64 (shr .u64 x2 x7) 1) = 1 then (cubicleref01_Put.l0 k (Go.bits .or .u64 x1 (shl .u64 1 (wrap64 (x131000 + x7)))) x2 (wrap64 (x7 + 1)) x131000 x131001) else (cubicleref01_Put.l0 k (Go.bits .andNot .u64 x1 (shl .u64 1 (wrap64 (x131000 + x7)))) x2 (wrap64 (x7 + 1)) x131000 x131001)) else (none)) else (none)) else (some x1)
end
def cubicleref01_Put.f (k : Nat) (a0_0 : Int) (a0_1 : Int) (a1 : Int) (a2 : Int) : Option (Int) := cubicleref01_Put.l0 k a1 a2 0 a0_0 a0_1
theorem cubicleref01_Put.mono_l : ∀ k, (∀ y0 y1 y2 y3 y4, LeO (cubicleref01_Put.l0 k y0 y1 y2 y3 y4) (cubicleref01_Put.l0 (k + 1) y0 y1 y2 y3 y4)) ∧ (∀ y0 y1 y2 y3 y4 y5, LeO (cubicleref01_Put.j1 k y0 y1 y2 y3 y4 y5) (cubicleref01_Put.j1 (k + 1) y0 y1 y2 y3 y4 y5))
  | 0 => ⟨fun _ _ _ _ _ r h => by simp [cubicleref01_Put.l0] at h, fun _ _ _ _ _ _ r h => by simp [cubicleref01_Put.j1] at h⟩
  | k + 1 => by
    obtain ⟨ih0, ih1⟩ := cubicleref01_Put.mono_l k
    refine ⟨?_, ?_⟩
    · intro y0 y1 y2 y3 y4
      unfold cubicleref01_Put.l0
      repeat' first
      | (with_reducible exact ih0 _ _ _ _ _)
      | (with_reducible exact ih1 _ _ _ _ _ _)
      | (with_reducible exact LeO.refl _)
      | (with_reducible exact LeO.none _)
      | (with_reducible refine LeO.ite ?_ ?_)
      | (with_reducible refine LeO.bind ?_ (fun _ => ?_))
      | exact ih0 _ _ _ _ _
      | exact ih1 _ _ _ _ _ _
      | exact LeO.none _
      | refine LeO.ite ?_ ?_
      | refine LeO.bind ?_ (fun _ => ?_)
    · intro y0 y1 y2 y3 y4 y5
      unfold cubicleref01_Put.j1
      repeat' first
      | (with_reducible exact ih0 _ _ _ _ _)
      | (with_reducible exact ih1 _ _ _ _ _ _)
      | (with_reducible exact LeO.refl _)
      | (with_reducible exact LeO.none _)
      | (with_reducible refine LeO.ite ?_ ?_)
      | (with_reducible refine LeO.bind ?_ (fun _ => ?_))
      | exact ih0 _ _ _ _ _
      | exact ih1 _ _ _ _ _ _
      | exact LeO.none _
      | refine LeO.ite ?_ ?_
      | refine LeO.bind ?_ (fun _ => ?_)
theorem cubicleref01_Put.mono : ∀ a0 a1 a2 a3 k, LeO (cubicleref01_Put.f k a0 a1 a2 a3) (cubicleref01_Put.f (k + 1) a0 a1 a2 a3) := by
  intro a0 a1 a2 a3 k
  obtain ⟨ih0, ih1⟩ := cubicleref01_Put.mono_l k
  unfold cubicleref01_Put.f
  repeat' first
      | (with_reducible exact ih0 _ _ _ _ _)
      | (with_reducible exact ih1 _ _ _ _ _ _)
      | (with_reducible exact LeO.refl _)
      | (with_reducible exact LeO.none _)
      | (with_reducible refine LeO.ite ?_ ?_)
      | (with_reducible refine LeO.bind ?_ (fun _ => ?_))
      | exact ih0 _ _ _ _ _
      | exact ih1 _ _ _ _ _ _
      | exact LeO.none _
      | refine LeO.ite ?_ ?_
      | refine LeO.bind ?_ (fun _ => ?_)
set_option maxHeartbeats 8000000 in
set_option maxRecDepth 100000 in
theorem cubicleref01_Put.calls (k : Nat) (a0_0 : Int) (a0_1 : Int) (a1 : Int) (a2 : Int) (r : Int) (w : World) (h : cubicleref01_Put.f k a0_0 a0_1 a1 a2 = some r) :
    Calls Try.prog 23 #[.agg #[.int .i64 a0_0, .int .i64 a0_1], .int .u64 a1, .int .u64 a2] w fun e w' => e = .returned (.int .u64 r) ∧ Below w.heap.size w w' := by
  have hu23 := Try.underlying23
  have HB := Aside0.mk (Below.refl w.heap.size w)
  have H : (cubicleref01_Put.l0 k a1 a2 0 a0_0 a0_1) = some r := h
  clear h
  have H' := Aside0.mk H
  clear H
  go_enter Try.func23, Try.ntmps23
  go_wp2_with (first | ((with_reducible refine gate_dst (N := 3) rfl ?_); refine box_event ?hg (N := 3) ?hd (cs := #[.int .i64 a0_0, .int .i64 a0_1]) (t := 23) ?hr ?_; (case hd => rfl); (case hg => rfl); (case hr => first | (go_simp; done) | (go_simp; rfl)); intro gb130 hg w4 hbox hb; have n0_ := Aside0.mk (below_step (by repeat (first | (with_reducible first | exact HB.out | apply below_alloc | apply pw_below_drewN | apply below_drew1) | exact HB.out)) hb); have n1_ := Aside0.mk (hbox); have n2_ := Aside0.mk ((by rw [hg]; exact (below_size (by repeat (first | (with_reducible first | exact HB.out | apply below_alloc | apply pw_below_drewN | apply below_drew1) | exact HB.out))) : w.heap.size ≤ gb130)); have n3_ := Aside0.mk ((by rw [hg]; exact (below_size (by repeat (first | (with_reducible first | exact HB.out | apply below_alloc | apply pw_below_drewN | apply below_drew1) | exact HB.out))) : w.heap.size ≤ gb130)); clear HB; have HB := n0_; have BK130 := n1_; have GW130 := n2_; have GE130 := n3_; clear n0_ n1_ n2_ n3_; clear hb hbox hg))
  go_loopg [1, 7] k (fun kq v1 v7 w' => ∃ (x1_1 : Int) (x7_1 : Int), v1 = .int .u64 x1_1 ∧ v7 = .int .i64 x7_1 ∧ Aside0 (cubicleref01_Put.l0 kq x1_1 a2 x7_1 a0_0 a0_1 = some r) ∧ Aside0 (kq ≤ k) ∧ Aside0 (w'.heap[gb130]? = some (.cells #[.int .i64 a0_0, .int .i64 a0_1] 23 (0, 0))) ∧ Aside0 (Below w.heap.size w w'))
  case atStart => exact ⟨(a1), (0), (by first | rfl | (simp; done) | (simp [*]; done)), (by first | rfl | (simp; done) | (simp [*]; done)), H', ⟨Nat.le_refl _⟩, ⟨by (with_reducible repeat (first | refine blk_drewN ?_ _ | refine blk_drew ?_ | refine blk_alloc ?_ _)); exact BK130.out⟩, ⟨by repeat (first | (with_reducible first | exact HB.out | apply below_alloc | apply pw_below_drewN | apply below_drew1 | refine below_set ?_ GE130.out) | exact HB.out)⟩⟩
  case round =>
    clear H'
    try clear c2
    try clear p2
    obtain ⟨x1_1, x7_1, rfl, rfl, HA, HK1, BK130, HB⟩ := hrel
    cases gk with
    | zero => exact absurd HA.out (by simp [cubicleref01_Put.l0])
    | succ k1 =>
      have H := HA.out
      clear HA
      simp only [cubicleref01_Put.l0] at H
      have HC5 := Aside0.mk H
      clear H
      go_upto_region 2 with (fail)
      go_cut [16] (fun v16 wc => ∃ (kq : Nat) (x16_4 : Bool), v16 = .bool x16_4 ∧ Aside0 (cubicleref01_Put.j1 kq x1_1 a2 x7_1 x16_4 a0_0 a0_1 = some r) ∧ Aside0 (kq ≤ k1) ∧ Aside0 (wc.heap[gb130]? = some (.cells #[.int .i64 a0_0, .int .i64 a0_1] 23 (0, 0))) ∧ Aside0 (Below w.heap.size w wc))
      case first =>
        have H := HC5.out
        clear HC5
        by_cases c6 : x7_1 < a0_1
        · rw [if_pos c6] at H
          have c6b0 : decide (x7_1 < a0_1) = true := decide_eq_true c6
          clear c6
          (first | rw [c6b0] | (simp only [i64_w, i32_w]; rw [c6b0]) | skip)
          replace H := Option.bind_eq_some_iff.mp H
          obtain ⟨t131, A70, H⟩ := H
          replace H : (cubicleref01_Put.j1 k1 x1_1 a2 x7_1 t131 a0_0 a0_1) = some r := H
          have A7 := Aside0.mk A70
          clear A70
          have H' := Aside0.mk H
          clear H
          have hcz8_0 : wr.cell? ⟨gb130, 0, none⟩ = some (.int .i64 a0_0) := (blk_cell BK130.out 0).trans rfl
          have hcz8_1 : wr.cell? ⟨gb130, 1, none⟩ = some (.int .i64 a0_1) := (blk_cell BK130.out 1).trans rfl
          have hfz8_0 := blk_frozen BK130.out 0
          have hfz8_1 := blk_frozen BK130.out 1
          go_wp2_with (first | (go_at_call 17; (with_reducible refine (cubicleref01_Formed.calls a0_0 a0_1 t131 _ A7.out).mono ?_); rintro e w9 ⟨rfl, hb⟩; have n0_ := Aside0.mk (blk_below (g := gb130) (o := .cells #[.int .i64 a0_0, .int .i64 a0_1] 23 (0, 0)) (by (with_reducible repeat (first | refine blk_drewN ?_ _ | refine blk_drew ?_ | refine blk_alloc ?_ _)); exact BK130.out) hb); have n1_ := Aside0.mk (below_step (by repeat (first | (with_reducible first | exact HB.out | apply below_alloc | apply pw_below_drewN | apply below_drew1 | refine below_set ?_ GE130.out) | exact HB.out)) hb); clear BK130; clear HB; have BK130 := n0_; have HB := n1_; clear n0_ n1_; (try clear hb); (try clear hb2); (try clear hk); (try clear hi)))
          go_meet
          case rel => exact ⟨_, (t131), (by first | rfl | (simp; done) | (simp [*]; done)), H', ⟨by have := HK1.out; first | omega | exact Nat.le_refl _⟩, ⟨by (with_reducible repeat (first | refine blk_drewN ?_ _ | refine blk_drew ?_ | refine blk_alloc ?_ _)); exact BK130.out⟩, ⟨by repeat (first | (with_reducible first | exact HB.out | apply below_alloc | apply pw_below_drewN | apply below_drew1 | refine below_set ?_ GE130.out) | exact HB.out)⟩⟩
        · rw [if_neg c6] at H
          have c6b0 : decide (x7_1 < a0_1) = false := decide_eq_false c6
          clear c6
          (first | rw [c6b0] | (simp only [i64_w, i32_w]; rw [c6b0]) | skip)
          have H' := Aside0.mk H
          clear H
          have hcz10_0 : wr.cell? ⟨gb130, 0, none⟩ = some (.int .i64 a0_0) := (blk_cell BK130.out 0).trans rfl
          have hcz10_1 : wr.cell? ⟨gb130, 1, none⟩ = some (.int .i64 a0_1) := (blk_cell BK130.out 1).trans rfl
          have hfz10_0 := blk_frozen BK130.out 0
          have hfz10_1 := blk_frozen BK130.out 1
          go_wp2
          go_meet
          case rel => exact ⟨_, (false), (by first | rfl | (simp; done) | (simp [*]; done)), H', ⟨by have := HK1.out; first | omega | exact Nat.le_refl _⟩, ⟨by (with_reducible repeat (first | refine blk_drewN ?_ _ | refine blk_drew ?_ | refine blk_alloc ?_ _)); exact BK130.out⟩, ⟨by repeat (first | (with_reducible first | exact HB.out | apply below_alloc | apply pw_below_drewN | apply below_drew1 | refine below_set ?_ GE130.out) | exact HB.out)⟩⟩
      case rest =>
        clear HC5
        try clear c2
        try clear p2
        try clear c6
        try clear c6b0
        try clear hcz10_0
        try clear hcz10_1
        try clear hcz8_0
        try clear hcz8_1
        try clear hfz10_0
        try clear hfz10_1
        try clear hfz8_0
        try clear hfz8_1
        try clear p2
        obtain ⟨kq, x16_4, rfl, HA, HJ4, BK130, HB⟩ := hcut
        cases kq with
        | zero => exact absurd HA.out (by simp [cubicleref01_Put.j1])
        | succ kj4 =>
          have H := HA.out
          clear HA
          simp only [cubicleref01_Put.j1] at H
          by_cases c11 : x16_4 = true
          · subst c11
            have H1 : (if 0 ≤ (wrap64 (a0_0 + x7_1)) then (if 0 ≤ x7_1 then (if (Go.bits .and .u64 (shr .u64 a2 x7_1) 1) = 1 then (cubicleref01_Put.l0 kj4 (Go.bits .or .u64 x1_1 (shl .u64 1 (wrap64 (a0_0 + x7_1)))) a2 (wrap64 (x7_1 + 1)) a0_0 a0_1) else (cubicleref01_Put.l0 kj4 (Go.bits .andNot .u64 x1_1 (shl .u64 1 (wrap64 (a0_0 + x7_1)))) a2 (wrap64 (x7_1 + 1)) a0_0 a0_1)) else (none)) else (none)) = some r := by rw [if_pos rfl] at H; exact H
            clear H
            have H := H1
            clear H1
            obtain ⟨ji12, hji12⟩ : ∃ j_ : Int, (wrap64 (a0_0 + x7_1)) = j_ := ⟨_, rfl⟩
            replace H : (if 0 ≤ (ji12) then (if 0 ≤ x7_1 then (if (Go.bits .and .u64 (shr .u64 a2 x7_1) 1) = 1 then (cubicleref01_Put.l0 kj4 (Go.bits .or .u64 x1_1 (shl .u64 1 (ji12))) a2 (wrap64 (x7_1 + 1)) a0_0 a0_1) else (cubicleref01_Put.l0 kj4 (Go.bits .andNot .u64 x1_1 (shl .u64 1 (ji12))) a2 (wrap64 (x7_1 + 1)) a0_0 a0_1)) else (none)) else (none)) = some r := by first | (rw [hji12] at H; exact H) | (simp only [hji12] at H ⊢; exact H)
            have hji12w : (IntKind.i64.wrap (a0_0 + x7_1)) = ji12 := (i64_w _).trans hji12
            by_cases c13 : 0 ≤ (ji12)
            · rw [if_pos c13] at H
              have c13b0 := eq_true c13
              have c13b1 : decide (0 ≤ (ji12)) = true := decide_eq_true c13
              clear c13
              obtain ⟨ji14, hji14⟩ : ∃ j_ : Int, (shl .u64 1 (ji12)) = j_ := ⟨_, rfl⟩
              replace H : (if 0 ≤ x7_1 then (if (Go.bits .and .u64 (shr .u64 a2 x7_1) 1) = 1 then (cubicleref01_Put.l0 kj4 (Go.bits .or .u64 x1_1 (ji14)) a2 (wrap64 (x7_1 + 1)) a0_0 a0_1) else (cubicleref01_Put.l0 kj4 (Go.bits .andNot .u64 x1_1 (ji14)) a2 (wrap64 (x7_1 + 1)) a0_0 a0_1)) else (none)) = some r := by first | (rw [hji14] at H; exact H) | (simp only [hji14] at H ⊢; exact H)
              have hji14_ : (IntKind.u64.wrap (1 * 2 ^ min (ji12).toNat 64)) = ji14 := hji14
              have hji14z : (ji12) ≤ 64 → (IntKind.u64.wrap (1 * 2 ^ (ji12).toNat)) = ji14 := shl_small hji14
              have hji14u : (IntKind.u64.wrap (2 ^ min (ji12).toNat 64)) = ji14 := by have h_ := hji14_; rw [Int.one_mul] at h_; exact h_
              have hji14v : (ji12) ≤ 64 → (IntKind.u64.wrap (2 ^ (ji12).toNat)) = ji14 := fun hle_ => by have h_ := hji14z hle_; rw [Int.one_mul] at h_; exact h_
              by_cases c15 : 0 ≤ x7_1
              · rw [if_pos c15] at H
                have c15b0 := eq_true c15
                have c15b1 : decide (0 ≤ x7_1) = true := decide_eq_true c15
                clear c15
                obtain ⟨ji16, hji16⟩ : ∃ j_ : Int, (shr .u64 a2 x7_1) = j_ := ⟨_, rfl⟩
                replace H : (if (Go.bits .and .u64 (ji16) 1) = 1 then (cubicleref01_Put.l0 kj4 (Go.bits .or .u64 x1_1 (ji14)) a2 (wrap64 (x7_1 + 1)) a0_0 a0_1) else (cubicleref01_Put.l0 kj4 (Go.bits .andNot .u64 x1_1 (ji14)) a2 (wrap64 (x7_1 + 1)) a0_0 a0_1)) = some r := by first | (rw [hji16] at H; exact H) | (simp only [hji16] at H ⊢; exact H)
                have hji16_ : (a2 / 2 ^ min x7_1.toNat 64) = ji16 := hji16
                have hji16z : x7_1 ≤ 64 → (a2 / 2 ^ x7_1.toNat) = ji16 := shr_small hji16
                by_cases c17 : (Go.bits .and .u64 (ji16) 1) = 1
                · rw [if_pos c17] at H
                  have c17b0 : ((Go.bits .and .u64 (ji16) 1) == 1) = true := beq_iff_eq.mpr c17
                  have c17b1 : ((Go.bits .and .u64 (ji16) 1) != 1) = false := bne_eq_false_iff_eq.mpr c17
                  clear c17
                  have H' := Aside0.mk H
                  clear H
                  have hcz18_0 : wc.cell? ⟨gb130, 0, none⟩ = some (.int .i64 a0_0) := (blk_cell BK130.out 0).trans rfl
                  have hcz18_1 : wc.cell? ⟨gb130, 1, none⟩ = some (.int .i64 a0_1) := (blk_cell BK130.out 1).trans rfl
                  have hfz18_0 := blk_frozen BK130.out 0
                  have hfz18_1 := blk_frozen BK130.out 1
                  go_wp2
                  go_roundg kj4
                  case measure => have := HK1.out; have := HJ4.out; omega
                  case rel => exact ⟨(Go.bits .or .u64 x1_1 (ji14)), (wrap64 (x7_1 + 1)), (by first | rfl | (simp; done) | (simp only [← hji14] <;> (first | rfl | simp)) | (simp [*]; done)), (by first | rfl | (simp; done) | (simp [*]; done)), H', ⟨by have := HK1.out; have := HJ4.out; omega⟩, ⟨by (with_reducible repeat (first | refine blk_drewN ?_ _ | refine blk_drew ?_ | refine blk_alloc ?_ _)); exact BK130.out⟩, ⟨by repeat (first | (with_reducible first | exact HB.out | apply below_alloc | apply pw_below_drewN | apply below_drew1 | refine below_set ?_ GE130.out) | exact HB.out)⟩⟩
                · rw [if_neg c17] at H
                  have c17b0 : ((Go.bits .and .u64 (ji16) 1) == 1) = false := beq_eq_false_iff_ne.mpr c17
                  have c17b1 : ((Go.bits .and .u64 (ji16) 1) != 1) = true := bne_iff_ne.mpr c17
                  have H' := Aside0.mk H
                  clear H
                  have hcz19_0 : wc.cell? ⟨gb130, 0, none⟩ = some (.int .i64 a0_0) := (blk_cell BK130.out 0).trans rfl
                  have hcz19_1 : wc.cell? ⟨gb130, 1, none⟩ = some (.int .i64 a0_1) := (blk_cell BK130.out 1).trans rfl
                  have hfz19_0 := blk_frozen BK130.out 0
                  have hfz19_1 := blk_frozen BK130.out 1
                  go_wp2
                  go_roundg kj4
                  case measure => have := HK1.out; have := HJ4.out; omega
                  case rel => exact ⟨(Go.bits .andNot .u64 x1_1 (ji14)), (wrap64 (x7_1 + 1)), (by first | rfl | (simp; done) | (simp only [← hji14] <;> (first | rfl | simp)) | (simp [*]; done)), (by first | rfl | (simp; done) | (simp [*]; done)), H', ⟨by have := HK1.out; have := HJ4.out; omega⟩, ⟨by (with_reducible repeat (first | refine blk_drewN ?_ _ | refine blk_drew ?_ | refine blk_alloc ?_ _)); exact BK130.out⟩, ⟨by repeat (first | (with_reducible first | exact HB.out | apply below_alloc | apply pw_below_drewN | apply below_drew1 | refine below_set ?_ GE130.out) | exact HB.out)⟩⟩
              · rw [if_neg c15] at H
                exact absurd H (by simp)
            · rw [if_neg c13] at H
              exact absurd H (by simp)
          · replace c11 := Bool.eq_false_iff.mpr c11
            subst c11
            have H1 : (some x1_1) = some r := by rw [if_neg (show ¬ (false = true) by decide)] at H; exact H
            clear H
            have H := H1
            clear H1
            obtain rfl := Option.some.inj H
            go_wp2
            go_ret
            exact ⟨by first | rfl | (simp [errW_none, errW_some] <;> rfl) | (simp [*, errW_none, errW_some] <;> rfl), by repeat (first | (with_reducible first | exact HB.out | apply below_alloc | apply pw_below_drewN | apply below_drew1 | refine below_set ?_ GE130.out) | exact HB.out)⟩

/-! ### cubicleref01_Layout: function 24 -/
mutual
def cubicleref01_Layout.l0 : Nat → List (S23) → Int → Option (Bool)
  | 0, _, _ => none
  | k + 1, x0, x3 => if x3 < (x0.length : Int) then (if 0 ≤ x3 then ((cubicleref01_Formed.f ((rd_T23 x0 x3).f0) ((rd_T23 x0 x3).f1)).bind fun t133 => (if t133 = true then (cubicleref01_Layout.l1 k x0 x3 0) else (some false))) else (none)) else (some true)
def cubicleref01_Layout.l1 : Nat → List (S23) → Int → Int → Option (Bool)
  | 0, _, _, _ => none
  | k + 1, x0, x3, x4 => if x4 < x3 then (if 0 ≤ x4 then (if x4 < (x0.length : Int) then (if 0 ≤ x3 then (if x3 < (x0.length : Int) then (if ((rd_T23 x0 x4).f0) < (wrap64 (((rd_T23 x0 x3).f0) + ((rd_T23 x0 x3).f1))) then (if ((rd_T23 x0 x3).f0) < (wrap64 (((rd_T23 x0 x4).f0) + ((rd_T23 x0 x4).f1))) then (some false) else (cubicleref01_Layout.l1 k x0 x3 (wrap64 (x4 + 1)))) else (cubicleref01_Layout.l1 k x0 x3 (wrap64 (x4 + 1)))) else (none)) else (none)) else (none)) else (none)) else (cubicleref01_Layout.l0 k x0 (wrap64 (x3 + 1)))
end
def cubicleref01_Layout.f (k : Nat) (l0 : List (S23)) : Option (Bool) := cubicleref01_Layout.l0 k l0 0
theorem cubicleref01_Layout.mono_l : ∀ k, (∀ y0 y1, LeO (cubicleref01_Layout.l0 k y0 y1) (cubicleref01_Layout.l0 (k + 1) y0 y1)) ∧ (∀ y0 y1 y2, LeO (cubicleref01_Layout.l1 k y0 y1 y2) (cubicleref01_Layout.l1 (k + 1) y0 y1 y2))
  | 0 => ⟨fun _ _ r h => by simp [cubicleref01_Layout.l0] at h, fun _ _ _ r h => by simp [cubicleref01_Layout.l1] at h⟩
  | k + 1 => by
    obtain ⟨ih0, ih1⟩ := cubicleref01_Layout.mono_l k
    refine ⟨?_, ?_⟩
    · intro y0 y1
      unfold cubicleref01_Layout.l0
      repeat' first
      | (with_reducible exact ih0 _ _)
      | (with_reducible exact ih1 _ _ _)
      | (with_reducible exact LeO.refl _)
      | (with_reducible exact LeO.none _)
      | (with_reducible refine LeO.ite ?_ ?_)
      | (with_reducible refine LeO.bind ?_ (fun _ => ?_))
      | exact ih0 _ _
      | exact ih1 _ _ _
      | exact LeO.none _
      | refine LeO.ite ?_ ?_
      | refine LeO.bind ?_ (fun _ => ?_)
    · intro y0 y1 y2
      unfold cubicleref01_Layout.l1
      repeat' first
      | (with_reducible exact ih0 _ _)
      | (with_reducible exact ih1 _ _ _)
      | (with_reducible exact LeO.refl _)
      | (with_reducible exact LeO.none _)
      | (with_reducible refine LeO.ite ?_ ?_)
      | (with_reducible refine LeO.bind ?_ (fun _ => ?_))
      | exact ih0 _ _
      | exact ih1 _ _ _
      | exact LeO.none _
      | refine LeO.ite ?_ ?_
      | refine LeO.bind ?_ (fun _ => ?_)
theorem cubicleref01_Layout.mono : ∀ a0 k, LeO (cubicleref01_Layout.f k a0) (cubicleref01_Layout.f (k + 1) a0) := by
  intro a0 k
  obtain ⟨ih0, ih1⟩ := cubicleref01_Layout.mono_l k
  unfold cubicleref01_Layout.f
  repeat' first
      | (with_reducible exact ih0 _ _)
      | (with_reducible exact ih1 _ _ _)
      | (with_reducible exact LeO.refl _)
      | (with_reducible exact LeO.none _)
      | (with_reducible refine LeO.ite ?_ ?_)
      | (with_reducible refine LeO.bind ?_ (fun _ => ?_))
      | exact ih0 _ _
      | exact ih1 _ _ _
      | exact LeO.none _
      | refine LeO.ite ?_ ?_
      | refine LeO.bind ?_ (fun _ => ?_)
set_option maxHeartbeats 8000000 in
set_option maxRecDepth 100000 in
theorem cubicleref01_Layout.calls (k : Nat) (A0 : Option Addr) (c0 : Nat) (l0 : List (S23)) (r : Bool) (w : World) (hr0 : Kd.C k23 w A0 l0.length l0) (hc0 : l0.length ≤ c0) (h : cubicleref01_Layout.f k l0 = some r) :
    Calls Try.prog 24 #[.slice A0 l0.length c0] w fun e w' => e = .returned (.bool r) ∧ Below w.heap.size w w' := by
  have hu23 := Try.underlying23
  have HR0 := Aside0.mk hr0
  have HC0 := Aside0.mk hc0
  clear hr0 hc0
  have HB := Aside0.mk (Below.refl w.heap.size w)
  have H : (cubicleref01_Layout.l0 k l0 0) = some r := h
  clear h
  have H' := Aside0.mk H
  clear H
  go_enter Try.func24, Try.ntmps24
  go_wp2
  repeat (go_quiet (fail); try go_wp2)
  go_loopg [3] k (fun kq v3 w' => ∃ (x3_1 : Int), v3 = .int .i64 x3_1 ∧ Aside0 (cubicleref01_Layout.l0 kq l0 x3_1 = some r) ∧ Aside0 (kq ≤ k) ∧ Aside0 (Below w.heap.size w w'))
  case atStart => exact ⟨(0), (by first | rfl | (simp; done) | (simp [*]; done)), H', ⟨Nat.le_refl _⟩, ⟨by repeat (first | (with_reducible first | exact HB.out | apply below_alloc | apply pw_below_drewN | apply below_drew1) | exact HB.out)⟩⟩
  case round =>
    clear H'
    obtain ⟨x3_1, rfl, HA, HK1, HB⟩ := hrel
    cases gk with
    | zero => exact absurd HA.out (by simp [cubicleref01_Layout.l0])
    | succ k1 =>
      have H := HA.out
      clear HA
      simp only [cubicleref01_Layout.l0] at H
      by_cases c2 : x3_1 < (l0.length : Int)
      · rw [if_pos c2] at H
        have c2b0 : decide (x3_1 < (l0.length : Int)) = true := decide_eq_true c2
        clear c2
        by_cases c3 : 0 ≤ x3_1
        · rw [if_pos c3] at H
          have c3b0 : decide (0 ≤ x3_1) = true := decide_eq_true c3
          clear c3
          replace H := Option.bind_eq_some_iff.mp H
          obtain ⟨t133, A40, H⟩ := H
          replace H : (if t133 = true then (cubicleref01_Layout.l1 k1 l0 x3_1 0) else (some false)) = some r := H
          have A4 := Aside0.mk A40
          clear A40
          by_cases c5 : t133 = true
          · subst c5
            have H1 : (cubicleref01_Layout.l1 k1 l0 x3_1 0) = some r := by rw [if_pos rfl] at H; exact H
            clear H
            have H := H1
            clear H1
            have H' := Aside0.mk H
            clear H
            have p132 : 0 ≤ (x3_1 : Int) := of_decide_eq_true (by first | (with_reducible assumption) | assumption)
            have q132 : x3_1 < (l0.length : Int) := of_decide_eq_true (by first | (with_reducible assumption) | assumption)
            obtain ⟨ad132, e132, hx132_0, hx132_1⟩ := at_T23 HR0.out x3_1 p132 q132
            cases e132
            replace hx132_0 := (HB.out.cell (World.block_lt_of_cell? w _ hx132_0)).trans hx132_0
            replace hx132_1 := (HB.out.cell (World.block_lt_of_cell? w _ hx132_1)).trans hx132_1
            replace p132 := eq_true p132
            replace q132 := eq_true q132
            go_wp2_with (first | (go_at_call 17; (with_reducible refine (cubicleref01_Formed.calls ((rd_T23 l0 x3_1).f0) ((rd_T23 l0 x3_1).f1) true _ A4.out).mono ?_); rintro e w6 ⟨rfl, hb⟩; have n0_ := Aside0.mk (below_step (by repeat (first | (with_reducible first | exact HB.out | apply below_alloc | apply pw_below_drewN | apply below_drew1) | exact HB.out)) hb); clear HB; have HB := n0_; clear n0_; (try clear hb); (try clear hb2); (try clear hk); (try clear hi)))
            repeat (go_quiet (first | (go_at_call 17; (with_reducible refine (cubicleref01_Formed.calls ((rd_T23 l0 x3_1).f0) ((rd_T23 l0 x3_1).f1) true _ A4.out).mono ?_); rintro e w6 ⟨rfl, hb⟩; have n0_ := Aside0.mk (below_step (by repeat (first | (with_reducible first | exact HB.out | apply below_alloc | apply pw_below_drewN | apply below_drew1) | exact HB.out)) hb); clear HB; have HB := n0_; clear n0_; (try clear hb); (try clear hb2); (try clear hk); (try clear hi))); try go_wp2_with (first | (go_at_call 17; (with_reducible refine (cubicleref01_Formed.calls ((rd_T23 l0 x3_1).f0) ((rd_T23 l0 x3_1).f1) true _ A4.out).mono ?_); rintro e w6 ⟨rfl, hb⟩; have n0_ := Aside0.mk (below_step (by repeat (first | (with_reducible first | exact HB.out | apply below_alloc | apply pw_below_drewN | apply below_drew1) | exact HB.out)) hb); clear HB; have HB := n0_; clear n0_; (try clear hb); (try clear hb2); (try clear hk); (try clear hi))))
            go_loopg [4] k1 (fun kq v4 w' => ∃ (x4_2 : Int), v4 = .int .i64 x4_2 ∧ Aside0 (cubicleref01_Layout.l1 kq l0 x3_1 x4_2 = some r) ∧ Aside0 (kq ≤ k1) ∧ Aside0 (Below w.heap.size w w'))
            case atStart => exact ⟨(0), (by first | rfl | (simp; done) | (simp [*]; done)), H', ⟨Nat.le_refl _⟩, ⟨by repeat (first | (with_reducible first | exact HB.out | apply below_alloc | apply pw_below_drewN | apply below_drew1) | exact HB.out)⟩⟩
            case round =>
              clear H'
              try clear p1
              try clear q1
              try clear hx1
              try clear c2
              try clear c2b0
              try clear p2
              try clear c3
              try clear c3b0
              try clear c5
              try clear hx132_0
              try clear hx132_1
              try clear p132
              try clear q132
              obtain ⟨x4_2, rfl, HA, HK2, HB⟩ := hrel
              cases gk with
              | zero => exact absurd HA.out (by simp [cubicleref01_Layout.l1])
              | succ k2 =>
                have H := HA.out
                clear HA
                simp only [cubicleref01_Layout.l1] at H
                by_cases c7 : x4_2 < x3_1
                · rw [if_pos c7] at H
                  have c7b0 : decide (x4_2 < x3_1) = true := decide_eq_true c7
                  clear c7
                  by_cases c8 : 0 ≤ x4_2
                  · rw [if_pos c8] at H
                    have c8b0 : decide (0 ≤ x4_2) = true := decide_eq_true c8
                    clear c8
                    by_cases c9 : x4_2 < (l0.length : Int)
                    · rw [if_pos c9] at H
                      have c9b0 : decide (x4_2 < (l0.length : Int)) = true := decide_eq_true c9
                      clear c9
                      by_cases c10 : 0 ≤ x3_1
                      · rw [if_pos c10] at H
                        have c10b0 : decide (0 ≤ x3_1) = true := decide_eq_true c10
                        clear c10
                        by_cases c11 : x3_1 < (l0.length : Int)
                        · rw [if_pos c11] at H
                          have c11b0 : decide (x3_1 < (l0.length : Int)) = true := decide_eq_true c11
                          clear c11
                          by_cases c12 : ((rd_T23 l0 x4_2).f0) < (wrap64 (((rd_T23 l0 x3_1).f0) + ((rd_T23 l0 x3_1).f1)))
                          · rw [if_pos c12] at H
                            have c12b0 : decide (((rd_T23 l0 x4_2).f0) < (wrap64 (((rd_T23 l0 x3_1).f0) + ((rd_T23 l0 x3_1).f1)))) = true := decide_eq_true c12
                            clear c12
                            by_cases c13 : ((rd_T23 l0 x3_1).f0) < (wrap64 (((rd_T23 l0 x4_2).f0) + ((rd_T23 l0 x4_2).f1)))
                            · rw [if_pos c13] at H
                              have c13b0 : decide (((rd_T23 l0 x3_1).f0) < (wrap64 (((rd_T23 l0 x4_2).f0) + ((rd_T23 l0 x4_2).f1)))) = true := decide_eq_true c13
                              clear c13
                              obtain rfl := Option.some.inj H
                              have p134 : 0 ≤ (x4_2 : Int) := of_decide_eq_true (by first | (with_reducible assumption) | assumption)
                              have q134 : x4_2 < (l0.length : Int) := of_decide_eq_true (by first | (with_reducible assumption) | assumption)
                              obtain ⟨ad134, e134, hx134_0, hx134_1⟩ := at_T23 HR0.out x4_2 p134 q134
                              obtain rfl : ad132 = ad134 := (by injection e134)
                              replace hx134_0 := (HB.out.cell (World.block_lt_of_cell? w _ hx134_0)).trans hx134_0
                              replace hx134_1 := (HB.out.cell (World.block_lt_of_cell? w _ hx134_1)).trans hx134_1
                              replace p134 := eq_true p134
                              replace q134 := eq_true q134
                              have p135 : 0 ≤ (x3_1 : Int) := of_decide_eq_true (by first | (with_reducible assumption) | assumption)
                              have q135 : x3_1 < (l0.length : Int) := of_decide_eq_true (by first | (with_reducible assumption) | assumption)
                              obtain ⟨ad135, e135, hx135_0, hx135_1⟩ := at_T23 HR0.out x3_1 p135 q135
                              obtain rfl : ad132 = ad135 := (by injection e135)
                              replace hx135_0 := (HB.out.cell (World.block_lt_of_cell? w _ hx135_0)).trans hx135_0
                              replace hx135_1 := (HB.out.cell (World.block_lt_of_cell? w _ hx135_1)).trans hx135_1
                              replace p135 := eq_true p135
                              replace q135 := eq_true q135
                              have p136 : 0 ≤ (x3_1 : Int) := of_decide_eq_true (by first | (with_reducible assumption) | assumption)
                              have q136 : x3_1 < (l0.length : Int) := of_decide_eq_true (by first | (with_reducible assumption) | assumption)
                              obtain ⟨ad136, e136, hx136_0, hx136_1⟩ := at_T23 HR0.out x3_1 p136 q136
                              obtain rfl : ad132 = ad136 := (by injection e136)
                              replace hx136_0 := (HB.out.cell (World.block_lt_of_cell? w _ hx136_0)).trans hx136_0
                              replace hx136_1 := (HB.out.cell (World.block_lt_of_cell? w _ hx136_1)).trans hx136_1
                              replace p136 := eq_true p136
                              replace q136 := eq_true q136
                              have p137 : 0 ≤ (x3_1 : Int) := of_decide_eq_true (by first | (with_reducible assumption) | assumption)
                              have q137 : x3_1 < (l0.length : Int) := of_decide_eq_true (by first | (with_reducible assumption) | assumption)
                              obtain ⟨ad137, e137, hx137_0, hx137_1⟩ := at_T23 HR0.out x3_1 p137 q137
                              obtain rfl : ad132 = ad137 := (by injection e137)
                              replace hx137_0 := (HB.out.cell (World.block_lt_of_cell? w _ hx137_0)).trans hx137_0
                              replace hx137_1 := (HB.out.cell (World.block_lt_of_cell? w _ hx137_1)).trans hx137_1
                              replace p137 := eq_true p137
                              replace q137 := eq_true q137
                              have p138 : 0 ≤ (x4_2 : Int) := of_decide_eq_true (by first | (with_reducible assumption) | assumption)
                              have q138 : x4_2 < (l0.length : Int) := of_decide_eq_true (by first | (with_reducible assumption) | assumption)
                              obtain ⟨ad138, e138, hx138_0, hx138_1⟩ := at_T23 HR0.out x4_2 p138 q138
                              obtain rfl : ad132 = ad138 := (by injection e138)
                              replace hx138_0 := (HB.out.cell (World.block_lt_of_cell? w _ hx138_0)).trans hx138_0
                              replace hx138_1 := (HB.out.cell (World.block_lt_of_cell? w _ hx138_1)).trans hx138_1
                              replace p138 := eq_true p138
                              replace q138 := eq_true q138
                              have p139 : 0 ≤ (x4_2 : Int) := of_decide_eq_true (by first | (with_reducible assumption) | assumption)
                              have q139 : x4_2 < (l0.length : Int) := of_decide_eq_true (by first | (with_reducible assumption) | assumption)
                              obtain ⟨ad139, e139, hx139_0, hx139_1⟩ := at_T23 HR0.out x4_2 p139 q139
                              obtain rfl : ad132 = ad139 := (by injection e139)
                              replace hx139_0 := (HB.out.cell (World.block_lt_of_cell? w _ hx139_0)).trans hx139_0
                              replace hx139_1 := (HB.out.cell (World.block_lt_of_cell? w _ hx139_1)).trans hx139_1
                              replace p139 := eq_true p139
                              replace q139 := eq_true q139
                              go_wp2
                              repeat (go_quiet (fail); try go_wp2)
                              go_ret
                              exact ⟨by first | rfl | (simp [errW_none, errW_some] <;> rfl) | (simp [*, errW_none, errW_some] <;> rfl), by repeat (first | (with_reducible first | exact HB.out | apply below_alloc | apply pw_below_drewN | apply below_drew1) | exact HB.out)⟩
                            · rw [if_neg c13] at H
                              have c13b0 : decide (((rd_T23 l0 x3_1).f0) < (wrap64 (((rd_T23 l0 x4_2).f0) + ((rd_T23 l0 x4_2).f1)))) = false := decide_eq_false c13
                              clear c13
                              have H' := Aside0.mk H
                              clear H
                              have p134 : 0 ≤ (x4_2 : Int) := of_decide_eq_true (by first | (with_reducible assumption) | assumption)
                              have q134 : x4_2 < (l0.length : Int) := of_decide_eq_true (by first | (with_reducible assumption) | assumption)
                              obtain ⟨ad134, e134, hx134_0, hx134_1⟩ := at_T23 HR0.out x4_2 p134 q134
                              obtain rfl : ad132 = ad134 := (by injection e134)
                              replace hx134_0 := (HB.out.cell (World.block_lt_of_cell? w _ hx134_0)).trans hx134_0
                              replace hx134_1 := (HB.out.cell (World.block_lt_of_cell? w _ hx134_1)).trans hx134_1
                              replace p134 := eq_true p134
                              replace q134 := eq_true q134
                              have p135 : 0 ≤ (x3_1 : Int) := of_decide_eq_true (by first | (with_reducible assumption) | assumption)
                              have q135 : x3_1 < (l0.length : Int) := of_decide_eq_true (by first | (with_reducible assumption) | assumption)
                              obtain ⟨ad135, e135, hx135_0, hx135_1⟩ := at_T23 HR0.out x3_1 p135 q135
                              obtain rfl : ad132 = ad135 := (by injection e135)
                              replace hx135_0 := (HB.out.cell (World.block_lt_of_cell? w _ hx135_0)).trans hx135_0
                              replace hx135_1 := (HB.out.cell (World.block_lt_of_cell? w _ hx135_1)).trans hx135_1
                              replace p135 := eq_true p135
                              replace q135 := eq_true q135
                              have p136 : 0 ≤ (x3_1 : Int) := of_decide_eq_true (by first | (with_reducible assumption) | assumption)
                              have q136 : x3_1 < (l0.length : Int) := of_decide_eq_true (by first | (with_reducible assumption) | assumption)
                              obtain ⟨ad136, e136, hx136_0, hx136_1⟩ := at_T23 HR0.out x3_1 p136 q136
                              obtain rfl : ad132 = ad136 := (by injection e136)
                              replace hx136_0 := (HB.out.cell (World.block_lt_of_cell? w _ hx136_0)).trans hx136_0
                              replace hx136_1 := (HB.out.cell (World.block_lt_of_cell? w _ hx136_1)).trans hx136_1
                              replace p136 := eq_true p136
                              replace q136 := eq_true q136
                              have p137 : 0 ≤ (x3_1 : Int) := of_decide_eq_true (by first | (with_reducible assumption) | assumption)
                              have q137 : x3_1 < (l0.length : Int) := of_decide_eq_true (by first | (with_reducible assumption) | assumption)
                              obtain ⟨ad137, e137, hx137_0, hx137_1⟩ := at_T23 HR0.out x3_1 p137 q137
                              obtain rfl : ad132 = ad137 := (by injection e137)
                              replace hx137_0 := (HB.out.cell (World.block_lt_of_cell? w _ hx137_0)).trans hx137_0
                              replace hx137_1 := (HB.out.cell (World.block_lt_of_cell? w _ hx137_1)).trans hx137_1
                              replace p137 := eq_true p137
                              replace q137 := eq_true q137
                              have p138 : 0 ≤ (x4_2 : Int) := of_decide_eq_true (by first | (with_reducible assumption) | assumption)
                              have q138 : x4_2 < (l0.length : Int) := of_decide_eq_true (by first | (with_reducible assumption) | assumption)
                              obtain ⟨ad138, e138, hx138_0, hx138_1⟩ := at_T23 HR0.out x4_2 p138 q138
                              obtain rfl : ad132 = ad138 := (by injection e138)
                              replace hx138_0 := (HB.out.cell (World.block_lt_of_cell? w _ hx138_0)).trans hx138_0
                              replace hx138_1 := (HB.out.cell (World.block_lt_of_cell? w _ hx138_1)).trans hx138_1
                              replace p138 := eq_true p138
                              replace q138 := eq_true q138
                              have p139 : 0 ≤ (x4_2 : Int) := of_decide_eq_true (by first | (with_reducible assumption) | assumption)
                              have q139 : x4_2 < (l0.length : Int) := of_decide_eq_true (by first | (with_reducible assumption) | assumption)
                              obtain ⟨ad139, e139, hx139_0, hx139_1⟩ := at_T23 HR0.out x4_2 p139 q139
                              obtain rfl : ad132 = ad139 := (by injection e139)
                              replace hx139_0 := (HB.out.cell (World.block_lt_of_cell? w _ hx139_0)).trans hx139_0
                              replace hx139_1 := (HB.out.cell (World.block_lt_of_cell? w _ hx139_1)).trans hx139_1
                              replace p139 := eq_true p139
                              replace q139 := eq_true q139
                              go_wp2
                              repeat (go_quiet (fail); try go_wp2)
                              go_roundg k2
                              case measure => have := HK1.out; have := HK2.out; omega
                              case rel => exact ⟨(wrap64 (x4_2 + 1)), (by first | rfl | (simp; done) | (simp [*]; done)), H', ⟨by have := HK1.out; have := HK2.out; omega⟩, ⟨by repeat (first | (with_reducible first | exact HB.out | apply below_alloc | apply pw_below_drewN | apply below_drew1) | exact HB.out)⟩⟩
                          · rw [if_neg c12] at H
                            have c12b0 : decide (((rd_T23 l0 x4_2).f0) < (wrap64 (((rd_T23 l0 x3_1).f0) + ((rd_T23 l0 x3_1).f1)))) = false := decide_eq_false c12
                            clear c12
                            have H' := Aside0.mk H
                            clear H
                            have p134 : 0 ≤ (x4_2 : Int) := of_decide_eq_true (by first | (with_reducible assumption) | assumption)
                            have q134 : x4_2 < (l0.length : Int) := of_decide_eq_true (by first | (with_reducible assumption) | assumption)
                            obtain ⟨ad134, e134, hx134_0, hx134_1⟩ := at_T23 HR0.out x4_2 p134 q134
                            obtain rfl : ad132 = ad134 := (by injection e134)
                            replace hx134_0 := (HB.out.cell (World.block_lt_of_cell? w _ hx134_0)).trans hx134_0
                            replace hx134_1 := (HB.out.cell (World.block_lt_of_cell? w _ hx134_1)).trans hx134_1
                            replace p134 := eq_true p134
                            replace q134 := eq_true q134
                            have p135 : 0 ≤ (x3_1 : Int) := of_decide_eq_true (by first | (with_reducible assumption) | assumption)
                            have q135 : x3_1 < (l0.length : Int) := of_decide_eq_true (by first | (with_reducible assumption) | assumption)
                            obtain ⟨ad135, e135, hx135_0, hx135_1⟩ := at_T23 HR0.out x3_1 p135 q135
                            obtain rfl : ad132 = ad135 := (by injection e135)
                            replace hx135_0 := (HB.out.cell (World.block_lt_of_cell? w _ hx135_0)).trans hx135_0
                            replace hx135_1 := (HB.out.cell (World.block_lt_of_cell? w _ hx135_1)).trans hx135_1
                            replace p135 := eq_true p135
                            replace q135 := eq_true q135
                            have p136 : 0 ≤ (x3_1 : Int) := of_decide_eq_true (by first | (with_reducible assumption) | assumption)
                            have q136 : x3_1 < (l0.length : Int) := of_decide_eq_true (by first | (with_reducible assumption) | assumption)
                            obtain ⟨ad136, e136, hx136_0, hx136_1⟩ := at_T23 HR0.out x3_1 p136 q136
                            obtain rfl : ad132 = ad136 := (by injection e136)
                            replace hx136_0 := (HB.out.cell (World.block_lt_of_cell? w _ hx136_0)).trans hx136_0
                            replace hx136_1 := (HB.out.cell (World.block_lt_of_cell? w _ hx136_1)).trans hx136_1
                            replace p136 := eq_true p136
                            replace q136 := eq_true q136
                            go_wp2
                            repeat (go_quiet (fail); try go_wp2)
                            go_roundg k2
                            case measure => have := HK1.out; have := HK2.out; omega
                            case rel => exact ⟨(wrap64 (x4_2 + 1)), (by first | rfl | (simp; done) | (simp [*]; done)), H', ⟨by have := HK1.out; have := HK2.out; omega⟩, ⟨by repeat (first | (with_reducible first | exact HB.out | apply below_alloc | apply pw_below_drewN | apply below_drew1) | exact HB.out)⟩⟩
                        · rw [if_neg c11] at H
                          exact absurd H (by simp)
                      · rw [if_neg c10] at H
                        exact absurd H (by simp)
                    · rw [if_neg c9] at H
                      exact absurd H (by simp)
                  · rw [if_neg c8] at H
                    exact absurd H (by simp)
                · rw [if_neg c7] at H
                  have c7b0 : decide (x4_2 < x3_1) = false := decide_eq_false c7
                  clear c7
                  have H' := Aside0.mk H
                  clear H
                  go_wp2
                  repeat (go_quiet (fail); try go_wp2)
                  go_roundg k2
                  case measure => have := HK1.out; have := HK2.out; omega
                  case rel => exact ⟨(wrap64 (x3_1 + 1)), (by first | rfl | (simp; done) | (simp [*]; done)), H', ⟨by have := HK1.out; have := HK2.out; omega⟩, ⟨by repeat (first | (with_reducible first | exact HB.out | apply below_alloc | apply pw_below_drewN | apply below_drew1) | exact HB.out)⟩⟩
          · replace c5 := Bool.eq_false_iff.mpr c5
            subst c5
            have H1 : (some false) = some r := by rw [if_neg (show ¬ (false = true) by decide)] at H; exact H
            clear H
            have H := H1
            clear H1
            obtain rfl := Option.some.inj H
            have p132 : 0 ≤ (x3_1 : Int) := of_decide_eq_true (by first | (with_reducible assumption) | assumption)
            have q132 : x3_1 < (l0.length : Int) := of_decide_eq_true (by first | (with_reducible assumption) | assumption)
            obtain ⟨ad132, e132, hx132_0, hx132_1⟩ := at_T23 HR0.out x3_1 p132 q132
            cases e132
            replace hx132_0 := (HB.out.cell (World.block_lt_of_cell? w _ hx132_0)).trans hx132_0
            replace hx132_1 := (HB.out.cell (World.block_lt_of_cell? w _ hx132_1)).trans hx132_1
            replace p132 := eq_true p132
            replace q132 := eq_true q132
            go_wp2_with (first | (go_at_call 17; (with_reducible refine (cubicleref01_Formed.calls ((rd_T23 l0 x3_1).f0) ((rd_T23 l0 x3_1).f1) false _ A4.out).mono ?_); rintro e w14 ⟨rfl, hb⟩; have n0_ := Aside0.mk (below_step (by repeat (first | (with_reducible first | exact HB.out | apply below_alloc | apply pw_below_drewN | apply below_drew1) | exact HB.out)) hb); clear HB; have HB := n0_; clear n0_; (try clear hb); (try clear hb2); (try clear hk); (try clear hi)))
            repeat (go_quiet (first | (go_at_call 17; (with_reducible refine (cubicleref01_Formed.calls ((rd_T23 l0 x3_1).f0) ((rd_T23 l0 x3_1).f1) false _ A4.out).mono ?_); rintro e w14 ⟨rfl, hb⟩; have n0_ := Aside0.mk (below_step (by repeat (first | (with_reducible first | exact HB.out | apply below_alloc | apply pw_below_drewN | apply below_drew1) | exact HB.out)) hb); clear HB; have HB := n0_; clear n0_; (try clear hb); (try clear hb2); (try clear hk); (try clear hi))); try go_wp2_with (first | (go_at_call 17; (with_reducible refine (cubicleref01_Formed.calls ((rd_T23 l0 x3_1).f0) ((rd_T23 l0 x3_1).f1) false _ A4.out).mono ?_); rintro e w14 ⟨rfl, hb⟩; have n0_ := Aside0.mk (below_step (by repeat (first | (with_reducible first | exact HB.out | apply below_alloc | apply pw_below_drewN | apply below_drew1) | exact HB.out)) hb); clear HB; have HB := n0_; clear n0_; (try clear hb); (try clear hb2); (try clear hk); (try clear hi))))
            go_ret
            exact ⟨by first | rfl | (simp [errW_none, errW_some] <;> rfl) | (simp [*, errW_none, errW_some] <;> rfl), by repeat (first | (with_reducible first | exact HB.out | apply below_alloc | apply pw_below_drewN | apply below_drew1) | exact HB.out)⟩
        · rw [if_neg c3] at H
          exact absurd H (by simp)
      · rw [if_neg c2] at H
        have c2b0 : decide (x3_1 < (l0.length : Int)) = false := decide_eq_false c2
        clear c2
        obtain rfl := Option.some.inj H
        go_wp2
        repeat (go_quiet (fail); try go_wp2)
        go_ret
        exact ⟨by first | rfl | (simp [errW_none, errW_some] <;> rfl) | (simp [*, errW_none, errW_some] <;> rfl), by repeat (first | (with_reducible first | exact HB.out | apply below_alloc | apply pw_below_drewN | apply below_drew1) | exact HB.out)⟩

end Go.Proofs.Ytbmecfpdemoooaa.PFieldSplits
