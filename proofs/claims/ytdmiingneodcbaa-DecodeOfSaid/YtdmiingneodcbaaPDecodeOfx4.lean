-- Laid by a program of this session, which builds on the kit's print: it takes some functions' texts as they are given to it.
import Derived.Test.YtdmiingneodcbaaPDecodeOfx0
import Derived.Test.YtdmiingneodcbaaPDecodeOfx3
namespace Go.Proofs.Ytdmiingneodcbaa.PDecodeOf
open Go.RowKit Go.Proofs.YtdmiingneodcbaaW.PrintWords Go.Proofs.YtdmiingneodcbaaW.PrintLast Go.Proofs.YtdmiingneodcbaaW.PrintMore
attribute [local go_sem] max2_int min2_int max_two min_two max_three min_three max_four min_four   -- for this text's walks alone
set_option linter.unusedVariables false
set_option linter.unusedSimpArgs false

/-! ### cubicleref18_Formed: function 14 -/
def cubicleref18_Formed.j0 : Nat → ByteArray → Bool → Int → Int → Int → Int → Int → Int → Option (Bool)
  | 0, _, _, _, _, _, _, _, _ => none
  | k + 1, x3, x34, x111000, x111001, x111002, x111003, x111004, x111005 => if x34 = true then (some false) else ((cubicleref18_has.f k x3 104).bind fun t112 => (if t112 = true then ((cubicleref18_has.f k x3 100).bind fun t113 => (if t113 = true then ((cubicleref18_has.f k x3 102).bind fun t114 => (if t114 = true then ((cubicleref18_has.f k x3 97).bind fun t115 => (if t115 = true then ((cubicleref18_has.f k x3 98).bind fun t116 => (if t116 = true then (some true) else (some (x111005 == 0)))) else (if x111004 = 0 then ((cubicleref18_has.f k x3 98).bind fun t117 => (if t117 = true then (some true) else (some (x111005 == 0)))) else (some false)))) else (if x111002 = 0 then ((cubicleref18_has.f k x3 97).bind fun t118 => (if t118 = true then ((cubicleref18_has.f k x3 98).bind fun t119 => (if t119 = true then (some true) else (some (x111005 == 0)))) else (if x111004 = 0 then ((cubicleref18_has.f k x3 98).bind fun t120 => (if t120 = true then (some true) else (some (x111005 == 0)))) else (some false)))) else (some false)))) else (if x111001 = 0 then ((cubicleref18_has.f k x3 102).bind fun t121 => (if t121 = true then ((cubicleref18_has.f k x3 97).bind fun t122 => (if t122 = true then ((cubicleref18_has.f k x3 98).bind fun t123 => (if t123 = true then (some true) else (some (x111005 == 0)))) else (if x111004 = 0 then ((cubicleref18_has.f k x3 98).bind fun t124 => (if t124 = true then (some true) else (some (x111005 == 0)))) else (some false)))) else (if x111002 = 0 then ((cubicleref18_has.f k x3 97).bind fun t125 => (if t125 = true then ((cubicleref18_has.f k x3 98).bind fun t126 => (if t126 = true then (some true) else (some (x111005 == 0)))) else (if x111004 = 0 then ((cubicleref18_has.f k x3 98).bind fun t127 => (if t127 = true then (some true) else (some (x111005 == 0)))) else (some false)))) else (some false)))) else (some false)))) else (if x111003 = 0 then ((cubicleref18_has.f k x3 100).bind fun t128 => (if t128 = true then ((cubicleref18_has.f k x3 102).bind fun t129 => (if t129 = true then ((cubicleref18_has.f k x3 97).bind fun t130 => (if t130 = true then ((cubicleref18_has.f k x3 98).bind fun t131 => (if t131 = true then (some true) else (some (x111005 == 0)))) else (if x111004 = 0 then ((cubicleref18_has.f k x3 98).bind fun t132 => (if t132 = true then (some true) else (some (x111005 == 0)))) else (some false)))) else (if x111002 = 0 then ((cubicleref18_has.f k x3 97).bind fun t133 => (if t133 = true then ((cubicleref18_has.f k x3 98).bind fun t134 => (if t134 = true then (some true) else (some (x111005 == 0)))) else (if x111004 = 0 then ((cubicleref18_has.f k x3 98).bind fun t135 => (if t135 = true then (some true) else (some (x111005 == 0)))) else (some false)))) else (some false)))) else (if x111001 = 0 then ((cubicleref18_has.f k x3 102).bind fun t136 => (if t136 = true then ((cubicleref18_has.f k x3 97).bind fun t137 => (if t137 = true then ((cubicleref18_has.f k x3 98).bind fun t138 => (if t138 = true then (some true) else (some (x111005 == 0)))) else (if x111004 = 0 then ((cubicleref18_has.f k x3 98).bind fun t139 => (if t139 = true then (some true) else (some (x111005 == 0)))) else (some false)))) else (if x111002 = 0 then ((cubicleref18_has.f k x3 97).bind fun t140 => (if t140 = true then ((cubicleref18_has.f k x3 98).bind fun t141 => (if t141 = true then (some true) else (some (x111005 == 0)))) else (if x111004 = 0 then ((cubicleref18_has.f k x3 98).bind fun t142 => (if t142 = true then (some true) else (some (x111005 == 0)))) else (some false)))) else (some false)))) else (some false)))) else (some false))))
def cubicleref18_Formed.f (k : Nat) (a0_0 : Int) (a0_1 : Int) (a0_2 : Int) (a0_3 : Int) (a0_4 : Int) (a0_5 : Int) : Option (Bool) := (cubicleref18_asks.f a0_0).bind fun t111 => (if a0_0 < 1 then (cubicleref18_Formed.j0 k t111 true a0_0 a0_1 a0_2 a0_3 a0_4 a0_5) else (if a0_0 > 12 then (cubicleref18_Formed.j0 k t111 true a0_0 a0_1 a0_2 a0_3 a0_4 a0_5) else (if a0_1 < 0 then (cubicleref18_Formed.j0 k t111 true a0_0 a0_1 a0_2 a0_3 a0_4 a0_5) else (if a0_1 > 255 then (cubicleref18_Formed.j0 k t111 true a0_0 a0_1 a0_2 a0_3 a0_4 a0_5) else (if a0_2 < 0 then (cubicleref18_Formed.j0 k t111 true a0_0 a0_1 a0_2 a0_3 a0_4 a0_5) else (cubicleref18_Formed.j0 k t111 (decide (a0_2 > 2)) a0_0 a0_1 a0_2 a0_3 a0_4 a0_5))))))
theorem cubicleref18_Formed.mono_l : ∀ k, (∀ y0 y1 y2 y3 y4 y5 y6 y7, LeO (cubicleref18_Formed.j0 k y0 y1 y2 y3 y4 y5 y6 y7) (cubicleref18_Formed.j0 (k + 1) y0 y1 y2 y3 y4 y5 y6 y7))
  | 0 => fun _ _ _ _ _ _ _ _ r h => by simp [cubicleref18_Formed.j0] at h
  | k + 1 => by
    have ih0 := cubicleref18_Formed.mono_l k
    · intro y0 y1 y2 y3 y4 y5 y6 y7
      unfold cubicleref18_Formed.j0
      repeat' first
      | (with_reducible exact ih0 _ _ _ _ _ _ _ _)
      | (with_reducible exact cubicleref18_has.mono _ _ _)
      | (with_reducible exact LeO.refl _)
      | (with_reducible exact LeO.none _)
      | (with_reducible refine LeO.ite ?_ ?_)
      | (with_reducible refine LeO.bind ?_ (fun _ => ?_))
      | exact ih0 _ _ _ _ _ _ _ _
      | exact cubicleref18_has.mono _ _ _
      | exact LeO.none _
      | refine LeO.ite ?_ ?_
      | refine LeO.bind ?_ (fun _ => ?_)
theorem cubicleref18_Formed.mono : ∀ a0 a1 a2 a3 a4 a5 k, LeO (cubicleref18_Formed.f k a0 a1 a2 a3 a4 a5) (cubicleref18_Formed.f (k + 1) a0 a1 a2 a3 a4 a5) := by
  intro a0 a1 a2 a3 a4 a5 k
  have ih0 := cubicleref18_Formed.mono_l k
  unfold cubicleref18_Formed.f
  repeat' first
      | (with_reducible exact ih0 _ _ _ _ _ _ _ _)
      | (with_reducible exact cubicleref18_has.mono _ _ _)
      | (with_reducible exact LeO.refl _)
      | (with_reducible exact LeO.none _)
      | (with_reducible refine LeO.ite ?_ ?_)
      | (with_reducible refine LeO.bind ?_ (fun _ => ?_))
      | exact ih0 _ _ _ _ _ _ _ _
      | exact cubicleref18_has.mono _ _ _
      | exact LeO.none _
      | refine LeO.ite ?_ ?_
      | refine LeO.bind ?_ (fun _ => ?_)
set_option maxHeartbeats 8000000 in
set_option maxRecDepth 100000 in
theorem cubicleref18_Formed.calls (k : Nat) (a0_0 : Int) (a0_1 : Int) (a0_2 : Int) (a0_3 : Int) (a0_4 : Int) (a0_5 : Int) (r : Bool) (w : World) (h : cubicleref18_Formed.f k a0_0 a0_1 a0_2 a0_3 a0_4 a0_5 = some r) :
    Calls Try.prog 14 #[.agg #[.int .i64 a0_0, .int .i64 a0_1, .int .i64 a0_2, .int .u64 a0_3, .int .u64 a0_4, .int .u64 a0_5]] w fun e w' => e = .returned (.bool r) ∧ Below w.heap.size w w' := by
  have hu25 := Try.underlying25
  have HB := Aside0.mk (Below.refl w.heap.size w)
  have H : ((cubicleref18_asks.f a0_0).bind fun t111 => (if a0_0 < 1 then (cubicleref18_Formed.j0 k t111 true a0_0 a0_1 a0_2 a0_3 a0_4 a0_5) else (if a0_0 > 12 then (cubicleref18_Formed.j0 k t111 true a0_0 a0_1 a0_2 a0_3 a0_4 a0_5) else (if a0_1 < 0 then (cubicleref18_Formed.j0 k t111 true a0_0 a0_1 a0_2 a0_3 a0_4 a0_5) else (if a0_1 > 255 then (cubicleref18_Formed.j0 k t111 true a0_0 a0_1 a0_2 a0_3 a0_4 a0_5) else (if a0_2 < 0 then (cubicleref18_Formed.j0 k t111 true a0_0 a0_1 a0_2 a0_3 a0_4 a0_5) else (cubicleref18_Formed.j0 k t111 (decide (a0_2 > 2)) a0_0 a0_1 a0_2 a0_3 a0_4 a0_5))))))) = some r := h
  clear h
  replace H := Option.bind_eq_some_iff.mp H
  obtain ⟨t111, A20, H⟩ := H
  replace H : (if a0_0 < 1 then (cubicleref18_Formed.j0 k t111 true a0_0 a0_1 a0_2 a0_3 a0_4 a0_5) else (if a0_0 > 12 then (cubicleref18_Formed.j0 k t111 true a0_0 a0_1 a0_2 a0_3 a0_4 a0_5) else (if a0_1 < 0 then (cubicleref18_Formed.j0 k t111 true a0_0 a0_1 a0_2 a0_3 a0_4 a0_5) else (if a0_1 > 255 then (cubicleref18_Formed.j0 k t111 true a0_0 a0_1 a0_2 a0_3 a0_4 a0_5) else (if a0_2 < 0 then (cubicleref18_Formed.j0 k t111 true a0_0 a0_1 a0_2 a0_3 a0_4 a0_5) else (cubicleref18_Formed.j0 k t111 (decide (a0_2 > 2)) a0_0 a0_1 a0_2 a0_3 a0_4 a0_5)))))) = some r := H
  have A2 := Aside0.mk A20
  clear A20
  have HC3 := Aside0.mk H
  clear H
  go_enter Try.func14, Try.ntmps14
  go_upto_region 2 with (first | ((with_reducible refine gate_dst (N := 1) rfl ?_); refine box_event ?hg (N := 1) ?hd (cs := #[.int .i64 a0_0, .int .i64 a0_1, .int .i64 a0_2, .int .u64 a0_3, .int .u64 a0_4, .int .u64 a0_5]) (t := 25) ?hr ?_; (case hd => rfl); (case hg => rfl); (case hr => first | (go_simp; done) | (go_simp; rfl)); intro gb110 hg w4 hbox hb; have n0_ := Aside0.mk (below_step (by repeat (first | (with_reducible first | exact HB.out | apply below_alloc | apply pw_below_drewN | apply below_drew1) | exact HB.out)) hb); have n1_ := Aside0.mk (hbox); have n2_ := Aside0.mk ((by rw [hg]; exact (below_size (by repeat (first | (with_reducible first | exact HB.out | apply below_alloc | apply pw_below_drewN | apply below_drew1) | exact HB.out))) : w.heap.size ≤ gb110)); have n3_ := Aside0.mk ((by rw [hg]; exact (below_size (by repeat (first | (with_reducible first | exact HB.out | apply below_alloc | apply pw_below_drewN | apply below_drew1) | exact HB.out))) : w.heap.size ≤ gb110)); clear HB; have HB := n0_; have BK110 := n1_; have GW110 := n2_; have GE110 := n3_; clear n0_ n1_ n2_ n3_; clear hb hbox hg; have hcz5_0 : w4.cell? ⟨gb110, 0, none⟩ = some (.int .i64 a0_0) := (blk_cell BK110.out 0).trans rfl; have hcz5_1 : w4.cell? ⟨gb110, 1, none⟩ = some (.int .i64 a0_1) := (blk_cell BK110.out 1).trans rfl; have hcz5_2 : w4.cell? ⟨gb110, 2, none⟩ = some (.int .i64 a0_2) := (blk_cell BK110.out 2).trans rfl; have hcz5_3 : w4.cell? ⟨gb110, 3, none⟩ = some (.int .u64 a0_3) := (blk_cell BK110.out 3).trans rfl; have hcz5_4 : w4.cell? ⟨gb110, 4, none⟩ = some (.int .u64 a0_4) := (blk_cell BK110.out 4).trans rfl; have hcz5_5 : w4.cell? ⟨gb110, 5, none⟩ = some (.int .u64 a0_5) := (blk_cell BK110.out 5).trans rfl; have hfz5_0 := blk_frozen BK110.out 0; have hfz5_1 := blk_frozen BK110.out 1; have hfz5_2 := blk_frozen BK110.out 2; have hfz5_3 := blk_frozen BK110.out 3; have hfz5_4 := blk_frozen BK110.out 4; have hfz5_5 := blk_frozen BK110.out 5) | ((with_reducible refine gate_callee (f := 39) rfl ?_); refine goesL_ (some 6) rfl rfl Try.func39 (by kernel_rfl) rfl #[.int .i64 a0_0] rfl (by (try simp only [List.map_toArray, List.map_cons, List.map_nil]); first | done | rfl | (simp only [List.length_drop, List.length_take]; rfl)) ?_; (with_reducible refine (cubicleref18_asks.calls a0_0 t111 _ A2.out).mono ?_); rintro e w6 ⟨rfl, hb⟩; refine ⟨_, rfl, ?_⟩; have n0_ := Aside0.mk (blk_below (g := gb110) (o := .cells #[.int .i64 a0_0, .int .i64 a0_1, .int .i64 a0_2, .int .u64 a0_3, .int .u64 a0_4, .int .u64 a0_5] 25 (0, 0)) (by (with_reducible repeat (first | refine blk_drewN ?_ _ | refine blk_drew ?_ | refine blk_alloc ?_ _)); exact BK110.out) hb); have n1_ := Aside0.mk (below_step (by repeat (first | (with_reducible first | exact HB.out | apply below_alloc | apply pw_below_drewN | apply below_drew1 | refine below_set ?_ GE110.out) | exact HB.out)) hb); clear BK110; clear HB; have BK110 := n0_; have HB := n1_; clear n0_ n1_; (try clear hb); (try clear hb2); (try clear hk); (try clear hi)))
  (try simp only [Act.put, List.setIfInBounds_toArray, List.set_cons_zero, List.set_cons_succ])
  go_cut [34] (fun v34 wc => ∃ (kq : Nat) (x34_2 : Bool), v34 = .bool x34_2 ∧ Aside0 (cubicleref18_Formed.j0 kq t111 x34_2 a0_0 a0_1 a0_2 a0_3 a0_4 a0_5 = some r) ∧ Aside0 (kq ≤ k) ∧ Aside0 (wc.heap[gb110]? = some (.cells #[.int .i64 a0_0, .int .i64 a0_1, .int .i64 a0_2, .int .u64 a0_3, .int .u64 a0_4, .int .u64 a0_5] 25 (0, 0))) ∧ Aside0 (Below w.heap.size w wc))
  case first =>
    have H := HC3.out
    clear HC3
    by_cases c7 : a0_0 < 1
    · rw [if_pos c7] at H
      have c7b0 : decide (a0_0 < 1) = true := decide_eq_true c7
      clear c7
      (first | rw [c7b0] | (simp only [i64_w, i32_w]; rw [c7b0]) | skip)
      have H' := Aside0.mk H
      clear H
      have hcz8_0 : w6.cell? ⟨gb110, 0, none⟩ = some (.int .i64 a0_0) := (blk_cell BK110.out 0).trans rfl
      have hcz8_1 : w6.cell? ⟨gb110, 1, none⟩ = some (.int .i64 a0_1) := (blk_cell BK110.out 1).trans rfl
      have hcz8_2 : w6.cell? ⟨gb110, 2, none⟩ = some (.int .i64 a0_2) := (blk_cell BK110.out 2).trans rfl
      have hcz8_3 : w6.cell? ⟨gb110, 3, none⟩ = some (.int .u64 a0_3) := (blk_cell BK110.out 3).trans rfl
      have hcz8_4 : w6.cell? ⟨gb110, 4, none⟩ = some (.int .u64 a0_4) := (blk_cell BK110.out 4).trans rfl
      have hcz8_5 : w6.cell? ⟨gb110, 5, none⟩ = some (.int .u64 a0_5) := (blk_cell BK110.out 5).trans rfl
      have hfz8_0 := blk_frozen BK110.out 0
      have hfz8_1 := blk_frozen BK110.out 1
      have hfz8_2 := blk_frozen BK110.out 2
      have hfz8_3 := blk_frozen BK110.out 3
      have hfz8_4 := blk_frozen BK110.out 4
      have hfz8_5 := blk_frozen BK110.out 5
      go_wp2
      go_meet
      case rel => exact ⟨_, (true), (by first | rfl | (simp; done) | (simp [*]; done)), H', ⟨by first | omega | exact Nat.le_refl _⟩, ⟨by (with_reducible repeat (first | refine blk_drewN ?_ _ | refine blk_drew ?_ | refine blk_alloc ?_ _)); exact BK110.out⟩, ⟨by repeat (first | (with_reducible first | exact HB.out | apply below_alloc | apply pw_below_drewN | apply below_drew1 | refine below_set ?_ GE110.out) | exact HB.out)⟩⟩
    · rw [if_neg c7] at H
      have c7b0 : decide (a0_0 < 1) = false := decide_eq_false c7
      clear c7
      (first | rw [c7b0] | (simp only [i64_w, i32_w]; rw [c7b0]) | skip)
      by_cases c9 : a0_0 > 12
      · rw [if_pos c9] at H
        have c9b0 : decide (12 < a0_0) = true := decide_eq_true c9
        clear c9
        have H' := Aside0.mk H
        clear H
        have hcz10_0 : w6.cell? ⟨gb110, 0, none⟩ = some (.int .i64 a0_0) := (blk_cell BK110.out 0).trans rfl
        have hcz10_1 : w6.cell? ⟨gb110, 1, none⟩ = some (.int .i64 a0_1) := (blk_cell BK110.out 1).trans rfl
        have hcz10_2 : w6.cell? ⟨gb110, 2, none⟩ = some (.int .i64 a0_2) := (blk_cell BK110.out 2).trans rfl
        have hcz10_3 : w6.cell? ⟨gb110, 3, none⟩ = some (.int .u64 a0_3) := (blk_cell BK110.out 3).trans rfl
        have hcz10_4 : w6.cell? ⟨gb110, 4, none⟩ = some (.int .u64 a0_4) := (blk_cell BK110.out 4).trans rfl
        have hcz10_5 : w6.cell? ⟨gb110, 5, none⟩ = some (.int .u64 a0_5) := (blk_cell BK110.out 5).trans rfl
        have hfz10_0 := blk_frozen BK110.out 0
        have hfz10_1 := blk_frozen BK110.out 1
        have hfz10_2 := blk_frozen BK110.out 2
        have hfz10_3 := blk_frozen BK110.out 3
        have hfz10_4 := blk_frozen BK110.out 4
        have hfz10_5 := blk_frozen BK110.out 5
        go_wp2
        go_meet
        case rel => exact ⟨_, (true), (by first | rfl | (simp; done) | (simp [*]; done)), H', ⟨by first | omega | exact Nat.le_refl _⟩, ⟨by (with_reducible repeat (first | refine blk_drewN ?_ _ | refine blk_drew ?_ | refine blk_alloc ?_ _)); exact BK110.out⟩, ⟨by repeat (first | (with_reducible first | exact HB.out | apply below_alloc | apply pw_below_drewN | apply below_drew1 | refine below_set ?_ GE110.out) | exact HB.out)⟩⟩
      · rw [if_neg c9] at H
        have c9b0 : decide (12 < a0_0) = false := decide_eq_false c9
        clear c9
        by_cases c11 : a0_1 < 0
        · rw [if_pos c11] at H
          have c11b0 : decide (a0_1 < 0) = true := decide_eq_true c11
          clear c11
          have H' := Aside0.mk H
          clear H
          have hcz12_0 : w6.cell? ⟨gb110, 0, none⟩ = some (.int .i64 a0_0) := (blk_cell BK110.out 0).trans rfl
          have hcz12_1 : w6.cell? ⟨gb110, 1, none⟩ = some (.int .i64 a0_1) := (blk_cell BK110.out 1).trans rfl
          have hcz12_2 : w6.cell? ⟨gb110, 2, none⟩ = some (.int .i64 a0_2) := (blk_cell BK110.out 2).trans rfl
          have hcz12_3 : w6.cell? ⟨gb110, 3, none⟩ = some (.int .u64 a0_3) := (blk_cell BK110.out 3).trans rfl
          have hcz12_4 : w6.cell? ⟨gb110, 4, none⟩ = some (.int .u64 a0_4) := (blk_cell BK110.out 4).trans rfl
          have hcz12_5 : w6.cell? ⟨gb110, 5, none⟩ = some (.int .u64 a0_5) := (blk_cell BK110.out 5).trans rfl
          have hfz12_0 := blk_frozen BK110.out 0
          have hfz12_1 := blk_frozen BK110.out 1
          have hfz12_2 := blk_frozen BK110.out 2
          have hfz12_3 := blk_frozen BK110.out 3
          have hfz12_4 := blk_frozen BK110.out 4
          have hfz12_5 := blk_frozen BK110.out 5
          go_wp2
          go_meet
          case rel => exact ⟨_, (true), (by first | rfl | (simp; done) | (simp [*]; done)), H', ⟨by first | omega | exact Nat.le_refl _⟩, ⟨by (with_reducible repeat (first | refine blk_drewN ?_ _ | refine blk_drew ?_ | refine blk_alloc ?_ _)); exact BK110.out⟩, ⟨by repeat (first | (with_reducible first | exact HB.out | apply below_alloc | apply pw_below_drewN | apply below_drew1 | refine below_set ?_ GE110.out) | exact HB.out)⟩⟩
        · rw [if_neg c11] at H
          have c11b0 : decide (a0_1 < 0) = false := decide_eq_false c11
          clear c11
          by_cases c13 : a0_1 > 255
          · rw [if_pos c13] at H
            have c13b0 : decide (255 < a0_1) = true := decide_eq_true c13
            clear c13
            have H' := Aside0.mk H
            clear H
            have hcz14_0 : w6.cell? ⟨gb110, 0, none⟩ = some (.int .i64 a0_0) := (blk_cell BK110.out 0).trans rfl
            have hcz14_1 : w6.cell? ⟨gb110, 1, none⟩ = some (.int .i64 a0_1) := (blk_cell BK110.out 1).trans rfl
            have hcz14_2 : w6.cell? ⟨gb110, 2, none⟩ = some (.int .i64 a0_2) := (blk_cell BK110.out 2).trans rfl
            have hcz14_3 : w6.cell? ⟨gb110, 3, none⟩ = some (.int .u64 a0_3) := (blk_cell BK110.out 3).trans rfl
            have hcz14_4 : w6.cell? ⟨gb110, 4, none⟩ = some (.int .u64 a0_4) := (blk_cell BK110.out 4).trans rfl
            have hcz14_5 : w6.cell? ⟨gb110, 5, none⟩ = some (.int .u64 a0_5) := (blk_cell BK110.out 5).trans rfl
            have hfz14_0 := blk_frozen BK110.out 0
            have hfz14_1 := blk_frozen BK110.out 1
            have hfz14_2 := blk_frozen BK110.out 2
            have hfz14_3 := blk_frozen BK110.out 3
            have hfz14_4 := blk_frozen BK110.out 4
            have hfz14_5 := blk_frozen BK110.out 5
            go_wp2
            go_meet
            case rel => exact ⟨_, (true), (by first | rfl | (simp; done) | (simp [*]; done)), H', ⟨by first | omega | exact Nat.le_refl _⟩, ⟨by (with_reducible repeat (first | refine blk_drewN ?_ _ | refine blk_drew ?_ | refine blk_alloc ?_ _)); exact BK110.out⟩, ⟨by repeat (first | (with_reducible first | exact HB.out | apply below_alloc | apply pw_below_drewN | apply below_drew1 | refine below_set ?_ GE110.out) | exact HB.out)⟩⟩
          · rw [if_neg c13] at H
            have c13b0 : decide (255 < a0_1) = false := decide_eq_false c13
            clear c13
            by_cases c15 : a0_2 < 0
            · rw [if_pos c15] at H
              have c15b0 : decide (a0_2 < 0) = true := decide_eq_true c15
              clear c15
              have H' := Aside0.mk H
              clear H
              have hcz16_0 : w6.cell? ⟨gb110, 0, none⟩ = some (.int .i64 a0_0) := (blk_cell BK110.out 0).trans rfl
              have hcz16_1 : w6.cell? ⟨gb110, 1, none⟩ = some (.int .i64 a0_1) := (blk_cell BK110.out 1).trans rfl
              have hcz16_2 : w6.cell? ⟨gb110, 2, none⟩ = some (.int .i64 a0_2) := (blk_cell BK110.out 2).trans rfl
              have hcz16_3 : w6.cell? ⟨gb110, 3, none⟩ = some (.int .u64 a0_3) := (blk_cell BK110.out 3).trans rfl
              have hcz16_4 : w6.cell? ⟨gb110, 4, none⟩ = some (.int .u64 a0_4) := (blk_cell BK110.out 4).trans rfl
              have hcz16_5 : w6.cell? ⟨gb110, 5, none⟩ = some (.int .u64 a0_5) := (blk_cell BK110.out 5).trans rfl
              have hfz16_0 := blk_frozen BK110.out 0
              have hfz16_1 := blk_frozen BK110.out 1
              have hfz16_2 := blk_frozen BK110.out 2
              have hfz16_3 := blk_frozen BK110.out 3
              have hfz16_4 := blk_frozen BK110.out 4
              have hfz16_5 := blk_frozen BK110.out 5
              go_wp2
              go_meet
              case rel => exact ⟨_, (true), (by first | rfl | (simp; done) | (simp [*]; done)), H', ⟨by first | omega | exact Nat.le_refl _⟩, ⟨by (with_reducible repeat (first | refine blk_drewN ?_ _ | refine blk_drew ?_ | refine blk_alloc ?_ _)); exact BK110.out⟩, ⟨by repeat (first | (with_reducible first | exact HB.out | apply below_alloc | apply pw_below_drewN | apply below_drew1 | refine below_set ?_ GE110.out) | exact HB.out)⟩⟩
            · rw [if_neg c15] at H
              have c15b0 : decide (a0_2 < 0) = false := decide_eq_false c15
              clear c15
              have H' := Aside0.mk H
              clear H
              have hcz17_0 : w6.cell? ⟨gb110, 0, none⟩ = some (.int .i64 a0_0) := (blk_cell BK110.out 0).trans rfl
              have hcz17_1 : w6.cell? ⟨gb110, 1, none⟩ = some (.int .i64 a0_1) := (blk_cell BK110.out 1).trans rfl
              have hcz17_2 : w6.cell? ⟨gb110, 2, none⟩ = some (.int .i64 a0_2) := (blk_cell BK110.out 2).trans rfl
              have hcz17_3 : w6.cell? ⟨gb110, 3, none⟩ = some (.int .u64 a0_3) := (blk_cell BK110.out 3).trans rfl
              have hcz17_4 : w6.cell? ⟨gb110, 4, none⟩ = some (.int .u64 a0_4) := (blk_cell BK110.out 4).trans rfl
              have hcz17_5 : w6.cell? ⟨gb110, 5, none⟩ = some (.int .u64 a0_5) := (blk_cell BK110.out 5).trans rfl
              have hfz17_0 := blk_frozen BK110.out 0
              have hfz17_1 := blk_frozen BK110.out 1
              have hfz17_2 := blk_frozen BK110.out 2
              have hfz17_3 := blk_frozen BK110.out 3
              have hfz17_4 := blk_frozen BK110.out 4
              have hfz17_5 := blk_frozen BK110.out 5
              go_wp2
              go_meet
              case rel => exact ⟨_, (decide (a0_2 > 2)), (by first | rfl | (simp; done) | (simp [*]; done)), H', ⟨by first | omega | exact Nat.le_refl _⟩, ⟨by (with_reducible repeat (first | refine blk_drewN ?_ _ | refine blk_drew ?_ | refine blk_alloc ?_ _)); exact BK110.out⟩, ⟨by repeat (first | (with_reducible first | exact HB.out | apply below_alloc | apply pw_below_drewN | apply below_drew1 | refine below_set ?_ GE110.out) | exact HB.out)⟩⟩
  case rest =>
    clear HC3
    try clear c1
    try clear p2
    try clear c3
    try clear c7
    try clear c7b0
    try clear c9
    try clear c9b0
    try clear c11
    try clear c11b0
    try clear c13
    try clear c13b0
    try clear c14
    try clear c15
    try clear c15b0
    try clear hcz10_0
    try clear hcz10_1
    try clear hcz10_2
    try clear hcz10_3
    try clear hcz10_4
    try clear hcz10_5
    try clear hcz12_0
    try clear hcz12_1
    try clear hcz12_2
    try clear hcz12_3
    try clear hcz12_4
    try clear hcz12_5
    try clear hcz14_0
    try clear hcz14_1
    try clear hcz14_2
    try clear hcz14_3
    try clear hcz14_4
    try clear hcz14_5
    try clear hcz16_0
    try clear hcz16_1
    try clear hcz16_2
    try clear hcz16_3
    try clear hcz16_4
    try clear hcz16_5
    try clear hcz17_0
    try clear hcz17_1
    try clear hcz17_2
    try clear hcz17_3
    try clear hcz17_4
    try clear hcz17_5
    try clear hcz5_0
    try clear hcz5_1
    try clear hcz5_2
    try clear hcz5_3
    try clear hcz5_4
    try clear hcz5_5
    try clear hcz8_0
    try clear hcz8_1
    try clear hcz8_2
    try clear hcz8_3
    try clear hcz8_4
    try clear hcz8_5
    try clear hfz10_0
    try clear hfz10_1
    try clear hfz10_2
    try clear hfz10_3
    try clear hfz10_4
    try clear hfz10_5
    try clear hfz12_0
    try clear hfz12_1
    try clear hfz12_2
    try clear hfz12_3
    try clear hfz12_4
    try clear hfz12_5
    try clear hfz14_0
    try clear hfz14_1
    try clear hfz14_2
    try clear hfz14_3
    try clear hfz14_4
    try clear hfz14_5
    try clear hfz16_0
    try clear hfz16_1
    try clear hfz16_2
    try clear hfz16_3
    try clear hfz16_4
    try clear hfz16_5
    try clear hfz17_0
    try clear hfz17_1
    try clear hfz17_2
    try clear hfz17_3
    try clear hfz17_4
    try clear hfz17_5
    try clear hfz5_0
    try clear hfz5_1
    try clear hfz5_2
    try clear hfz5_3
    try clear hfz5_4
    try clear hfz5_5
    try clear hfz8_0
    try clear hfz8_1
    try clear hfz8_2
    try clear hfz8_3
    try clear hfz8_4
    try clear hfz8_5
    obtain ⟨kq, x34_2, rfl, HA, HJ2, BK110, HB⟩ := hcut
    cases kq with
    | zero => exact absurd HA.out (by simp [cubicleref18_Formed.j0])
    | succ kj2 =>
      have H := HA.out
      clear HA
      simp only [cubicleref18_Formed.j0] at H
      by_cases c18 : x34_2 = true
      · subst c18
        have H1 : (some false) = some r := by rw [if_pos rfl] at H; exact H
        clear H
        have H := H1
        clear H1
        obtain rfl := Option.some.inj H
        go_wp2
        go_ret
        exact ⟨by first | rfl | (simp [errW_none, errW_some] <;> rfl) | (simp [*, errW_none, errW_some] <;> rfl), by repeat (first | (with_reducible first | exact HB.out | apply below_alloc | apply pw_below_drewN | apply below_drew1 | refine below_set ?_ GE110.out) | exact HB.out)⟩
      · replace c18 := Bool.eq_false_iff.mpr c18
        subst c18
        have H1 : ((cubicleref18_has.f kj2 t111 104).bind fun t112 => (if t112 = true then ((cubicleref18_has.f kj2 t111 100).bind fun t113 => (if t113 = true then ((cubicleref18_has.f kj2 t111 102).bind fun t114 => (if t114 = true then ((cubicleref18_has.f kj2 t111 97).bind fun t115 => (if t115 = true then ((cubicleref18_has.f kj2 t111 98).bind fun t116 => (if t116 = true then (some true) else (some (a0_5 == 0)))) else (if a0_4 = 0 then ((cubicleref18_has.f kj2 t111 98).bind fun t117 => (if t117 = true then (some true) else (some (a0_5 == 0)))) else (some false)))) else (if a0_2 = 0 then ((cubicleref18_has.f kj2 t111 97).bind fun t118 => (if t118 = true then ((cubicleref18_has.f kj2 t111 98).bind fun t119 => (if t119 = true then (some true) else (some (a0_5 == 0)))) else (if a0_4 = 0 then ((cubicleref18_has.f kj2 t111 98).bind fun t120 => (if t120 = true then (some true) else (some (a0_5 == 0)))) else (some false)))) else (some false)))) else (if a0_1 = 0 then ((cubicleref18_has.f kj2 t111 102).bind fun t121 => (if t121 = true then ((cubicleref18_has.f kj2 t111 97).bind fun t122 => (if t122 = true then ((cubicleref18_has.f kj2 t111 98).bind fun t123 => (if t123 = true then (some true) else (some (a0_5 == 0)))) else (if a0_4 = 0 then ((cubicleref18_has.f kj2 t111 98).bind fun t124 => (if t124 = true then (some true) else (some (a0_5 == 0)))) else (some false)))) else (if a0_2 = 0 then ((cubicleref18_has.f kj2 t111 97).bind fun t125 => (if t125 = true then ((cubicleref18_has.f kj2 t111 98).bind fun t126 => (if t126 = true then (some true) else (some (a0_5 == 0)))) else (if a0_4 = 0 then ((cubicleref18_has.f kj2 t111 98).bind fun t127 => (if t127 = true then (some true) else (some (a0_5 == 0)))) else (some false)))) else (some false)))) else (some false)))) else (if a0_3 = 0 then ((cubicleref18_has.f kj2 t111 100).bind fun t128 => (if t128 = true then ((cubicleref18_has.f kj2 t111 102).bind fun t129 => (if t129 = true then ((cubicleref18_has.f kj2 t111 97).bind fun t130 => (if t130 = true then ((cubicleref18_has.f kj2 t111 98).bind fun t131 => (if t131 = true then (some true) else (some (a0_5 == 0)))) else (if a0_4 = 0 then ((cubicleref18_has.f kj2 t111 98).bind fun t132 => (if t132 = true then (some true) else (some (a0_5 == 0)))) else (some false)))) else (if a0_2 = 0 then ((cubicleref18_has.f kj2 t111 97).bind fun t133 => (if t133 = true then ((cubicleref18_has.f kj2 t111 98).bind fun t134 => (if t134 = true then (some true) else (some (a0_5 == 0)))) else (if a0_4 = 0 then ((cubicleref18_has.f kj2 t111 98).bind fun t135 => (if t135 = true then (some true) else (some (a0_5 == 0)))) else (some false)))) else (some false)))) else (if a0_1 = 0 then ((cubicleref18_has.f kj2 t111 102).bind fun t136 => (if t136 = true then ((cubicleref18_has.f kj2 t111 97).bind fun t137 => (if t137 = true then ((cubicleref18_has.f kj2 t111 98).bind fun t138 => (if t138 = true then (some true) else (some (a0_5 == 0)))) else (if a0_4 = 0 then ((cubicleref18_has.f kj2 t111 98).bind fun t139 => (if t139 = true then (some true) else (some (a0_5 == 0)))) else (some false)))) else (if a0_2 = 0 then ((cubicleref18_has.f kj2 t111 97).bind fun t140 => (if t140 = true then ((cubicleref18_has.f kj2 t111 98).bind fun t141 => (if t141 = true then (some true) else (some (a0_5 == 0)))) else (if a0_4 = 0 then ((cubicleref18_has.f kj2 t111 98).bind fun t142 => (if t142 = true then (some true) else (some (a0_5 == 0)))) else (some false)))) else (some false)))) else (some false)))) else (some false)))) = some r := by rw [if_neg (show ¬ (false = true) by decide)] at H; exact H
        clear H
        have H := H1
        clear H1
        replace H := Option.bind_eq_some_iff.mp H
        obtain ⟨t112, A190, H⟩ := H
        replace H : (if t112 = true then ((cubicleref18_has.f kj2 t111 100).bind fun t113 => (if t113 = true then ((cubicleref18_has.f kj2 t111 102).bind fun t114 => (if t114 = true then ((cubicleref18_has.f kj2 t111 97).bind fun t115 => (if t115 = true then ((cubicleref18_has.f kj2 t111 98).bind fun t116 => (if t116 = true then (some true) else (some (a0_5 == 0)))) else (if a0_4 = 0 then ((cubicleref18_has.f kj2 t111 98).bind fun t117 => (if t117 = true then (some true) else (some (a0_5 == 0)))) else (some false)))) else (if a0_2 = 0 then ((cubicleref18_has.f kj2 t111 97).bind fun t118 => (if t118 = true then ((cubicleref18_has.f kj2 t111 98).bind fun t119 => (if t119 = true then (some true) else (some (a0_5 == 0)))) else (if a0_4 = 0 then ((cubicleref18_has.f kj2 t111 98).bind fun t120 => (if t120 = true then (some true) else (some (a0_5 == 0)))) else (some false)))) else (some false)))) else (if a0_1 = 0 then ((cubicleref18_has.f kj2 t111 102).bind fun t121 => (if t121 = true then ((cubicleref18_has.f kj2 t111 97).bind fun t122 => (if t122 = true then ((cubicleref18_has.f kj2 t111 98).bind fun t123 => (if t123 = true then (some true) else (some (a0_5 == 0)))) else (if a0_4 = 0 then ((cubicleref18_has.f kj2 t111 98).bind fun t124 => (if t124 = true then (some true) else (some (a0_5 == 0)))) else (some false)))) else (if a0_2 = 0 then ((cubicleref18_has.f kj2 t111 97).bind fun t125 => (if t125 = true then ((cubicleref18_has.f kj2 t111 98).bind fun t126 => (if t126 = true then (some true) else (some (a0_5 == 0)))) else (if a0_4 = 0 then ((cubicleref18_has.f kj2 t111 98).bind fun t127 => (if t127 = true then (some true) else (some (a0_5 == 0)))) else (some false)))) else (some false)))) else (some false)))) else (if a0_3 = 0 then ((cubicleref18_has.f kj2 t111 100).bind fun t128 => (if t128 = true then ((cubicleref18_has.f kj2 t111 102).bind fun t129 => (if t129 = true then ((cubicleref18_has.f kj2 t111 97).bind fun t130 => (if t130 = true then ((cubicleref18_has.f kj2 t111 98).bind fun t131 => (if t131 = true then (some true) else (some (a0_5 == 0)))) else (if a0_4 = 0 then ((cubicleref18_has.f kj2 t111 98).bind fun t132 => (if t132 = true then (some true) else (some (a0_5 == 0)))) else (some false)))) else (if a0_2 = 0 then ((cubicleref18_has.f kj2 t111 97).bind fun t133 => (if t133 = true then ((cubicleref18_has.f kj2 t111 98).bind fun t134 => (if t134 = true then (some true) else (some (a0_5 == 0)))) else (if a0_4 = 0 then ((cubicleref18_has.f kj2 t111 98).bind fun t135 => (if t135 = true then (some true) else (some (a0_5 == 0)))) else (some false)))) else (some false)))) else (if a0_1 = 0 then ((cubicleref18_has.f kj2 t111 102).bind fun t136 => (if t136 = true then ((cubicleref18_has.f kj2 t111 97).bind fun t137 => (if t137 = true then ((cubicleref18_has.f kj2 t111 98).bind fun t138 => (if t138 = true then (some true) else (some (a0_5 == 0)))) else (if a0_4 = 0 then ((cubicleref18_has.f kj2 t111 98).bind fun t139 => (if t139 = true then (some true) else (some (a0_5 == 0)))) else (some false)))) else (if a0_2 = 0 then ((cubicleref18_has.f kj2 t111 97).bind fun t140 => (if t140 = true then ((cubicleref18_has.f kj2 t111 98).bind fun t141 => (if t141 = true then (some true) else (some (a0_5 == 0)))) else (if a0_4 = 0 then ((cubicleref18_has.f kj2 t111 98).bind fun t142 => (if t142 = true then (some true) else (some (a0_5 == 0)))) else (some false)))) else (some false)))) else (some false)))) else (some false))) = some r := H
        have A19 := Aside0.mk A190
        clear A190
        by_cases c20 : t112 = true
        · subst c20
          have H1 : ((cubicleref18_has.f kj2 t111 100).bind fun t113 => (if t113 = true then ((cubicleref18_has.f kj2 t111 102).bind fun t114 => (if t114 = true then ((cubicleref18_has.f kj2 t111 97).bind fun t115 => (if t115 = true then ((cubicleref18_has.f kj2 t111 98).bind fun t116 => (if t116 = true then (some true) else (some (a0_5 == 0)))) else (if a0_4 = 0 then ((cubicleref18_has.f kj2 t111 98).bind fun t117 => (if t117 = true then (some true) else (some (a0_5 == 0)))) else (some false)))) else (if a0_2 = 0 then ((cubicleref18_has.f kj2 t111 97).bind fun t118 => (if t118 = true then ((cubicleref18_has.f kj2 t111 98).bind fun t119 => (if t119 = true then (some true) else (some (a0_5 == 0)))) else (if a0_4 = 0 then ((cubicleref18_has.f kj2 t111 98).bind fun t120 => (if t120 = true then (some true) else (some (a0_5 == 0)))) else (some false)))) else (some false)))) else (if a0_1 = 0 then ((cubicleref18_has.f kj2 t111 102).bind fun t121 => (if t121 = true then ((cubicleref18_has.f kj2 t111 97).bind fun t122 => (if t122 = true then ((cubicleref18_has.f kj2 t111 98).bind fun t123 => (if t123 = true then (some true) else (some (a0_5 == 0)))) else (if a0_4 = 0 then ((cubicleref18_has.f kj2 t111 98).bind fun t124 => (if t124 = true then (some true) else (some (a0_5 == 0)))) else (some false)))) else (if a0_2 = 0 then ((cubicleref18_has.f kj2 t111 97).bind fun t125 => (if t125 = true then ((cubicleref18_has.f kj2 t111 98).bind fun t126 => (if t126 = true then (some true) else (some (a0_5 == 0)))) else (if a0_4 = 0 then ((cubicleref18_has.f kj2 t111 98).bind fun t127 => (if t127 = true then (some true) else (some (a0_5 == 0)))) else (some false)))) else (some false)))) else (some false)))) = some r := by rw [if_pos rfl] at H; exact H
          clear H
          have H := H1
          clear H1
          replace H := Option.bind_eq_some_iff.mp H
          obtain ⟨t113, A210, H⟩ := H
          replace H : (if t113 = true then ((cubicleref18_has.f kj2 t111 102).bind fun t114 => (if t114 = true then ((cubicleref18_has.f kj2 t111 97).bind fun t115 => (if t115 = true then ((cubicleref18_has.f kj2 t111 98).bind fun t116 => (if t116 = true then (some true) else (some (a0_5 == 0)))) else (if a0_4 = 0 then ((cubicleref18_has.f kj2 t111 98).bind fun t117 => (if t117 = true then (some true) else (some (a0_5 == 0)))) else (some false)))) else (if a0_2 = 0 then ((cubicleref18_has.f kj2 t111 97).bind fun t118 => (if t118 = true then ((cubicleref18_has.f kj2 t111 98).bind fun t119 => (if t119 = true then (some true) else (some (a0_5 == 0)))) else (if a0_4 = 0 then ((cubicleref18_has.f kj2 t111 98).bind fun t120 => (if t120 = true then (some true) else (some (a0_5 == 0)))) else (some false)))) else (some false)))) else (if a0_1 = 0 then ((cubicleref18_has.f kj2 t111 102).bind fun t121 => (if t121 = true then ((cubicleref18_has.f kj2 t111 97).bind fun t122 => (if t122 = true then ((cubicleref18_has.f kj2 t111 98).bind fun t123 => (if t123 = true then (some true) else (some (a0_5 == 0)))) else (if a0_4 = 0 then ((cubicleref18_has.f kj2 t111 98).bind fun t124 => (if t124 = true then (some true) else (some (a0_5 == 0)))) else (some false)))) else (if a0_2 = 0 then ((cubicleref18_has.f kj2 t111 97).bind fun t125 => (if t125 = true then ((cubicleref18_has.f kj2 t111 98).bind fun t126 => (if t126 = true then (some true) else (some (a0_5 == 0)))) else (if a0_4 = 0 then ((cubicleref18_has.f kj2 t111 98).bind fun t127 => (if t127 = true then (some true) else (some (a0_5 == 0)))) else (some false)))) else (some false)))) else (some false))) = some r := H
          have A21 := Aside0.mk A210
          clear A210
          by_cases c22 : t113 = true
          · subst c22
            have H1 : ((cubicleref18_has.f kj2 t111 102).bind fun t114 => (if t114 = true then ((cubicleref18_has.f kj2 t111 97).bind fun t115 => (if t115 = true then ((cubicleref18_has.f kj2 t111 98).bind fun t116 => (if t116 = true then (some true) else (some (a0_5 == 0)))) else (if a0_4 = 0 then ((cubicleref18_has.f kj2 t111 98).bind fun t117 => (if t117 = true then (some true) else (some (a0_5 == 0)))) else (some false)))) else (if a0_2 = 0 then ((cubicleref18_has.f kj2 t111 97).bind fun t118 => (if t118 = true then ((cubicleref18_has.f kj2 t111 98).bind fun t119 => (if t119 = true then (some true) else (some (a0_5 == 0)))) else (if a0_4 = 0 then ((cubicleref18_has.f kj2 t111 98).bind fun t120 => (if t120 = true then (some true) else (some (a0_5 == 0)))) else (some false)))) else (some false)))) = some r := by rw [if_pos rfl] at H; exact H
            clear H
            have H := H1
            clear H1
            replace H := Option.bind_eq_some_iff.mp H
            obtain ⟨t114, A230, H⟩ := H
            replace H : (if t114 = true then ((cubicleref18_has.f kj2 t111 97).bind fun t115 => (if t115 = true then ((cubicleref18_has.f kj2 t111 98).bind fun t116 => (if t116 = true then (some true) else (some (a0_5 == 0)))) else (if a0_4 = 0 then ((cubicleref18_has.f kj2 t111 98).bind fun t117 => (if t117 = true then (some true) else (some (a0_5 == 0)))) else (some false)))) else (if a0_2 = 0 then ((cubicleref18_has.f kj2 t111 97).bind fun t118 => (if t118 = true then ((cubicleref18_has.f kj2 t111 98).bind fun t119 => (if t119 = true then (some true) else (some (a0_5 == 0)))) else (if a0_4 = 0 then ((cubicleref18_has.f kj2 t111 98).bind fun t120 => (if t120 = true then (some true) else (some (a0_5 == 0)))) else (some false)))) else (some false))) = some r := H
            have A23 := Aside0.mk A230
            clear A230
            by_cases c24 : t114 = true
            · subst c24
              have H1 : ((cubicleref18_has.f kj2 t111 97).bind fun t115 => (if t115 = true then ((cubicleref18_has.f kj2 t111 98).bind fun t116 => (if t116 = true then (some true) else (some (a0_5 == 0)))) else (if a0_4 = 0 then ((cubicleref18_has.f kj2 t111 98).bind fun t117 => (if t117 = true then (some true) else (some (a0_5 == 0)))) else (some false)))) = some r := by rw [if_pos rfl] at H; exact H
              clear H
              have H := H1
              clear H1
              replace H := Option.bind_eq_some_iff.mp H
              obtain ⟨t115, A250, H⟩ := H
              replace H : (if t115 = true then ((cubicleref18_has.f kj2 t111 98).bind fun t116 => (if t116 = true then (some true) else (some (a0_5 == 0)))) else (if a0_4 = 0 then ((cubicleref18_has.f kj2 t111 98).bind fun t117 => (if t117 = true then (some true) else (some (a0_5 == 0)))) else (some false))) = some r := H
              have A25 := Aside0.mk A250
              clear A250
              by_cases c26 : t115 = true
              · subst c26
                have H1 : ((cubicleref18_has.f kj2 t111 98).bind fun t116 => (if t116 = true then (some true) else (some (a0_5 == 0)))) = some r := by rw [if_pos rfl] at H; exact H
                clear H
                have H := H1
                clear H1
                replace H := Option.bind_eq_some_iff.mp H
                obtain ⟨t116, A270, H⟩ := H
                replace H : (if t116 = true then (some true) else (some (a0_5 == 0))) = some r := H
                have A27 := Aside0.mk A270
                clear A270
                by_cases c28 : t116 = true
                · subst c28
                  have H1 : (some true) = some r := by rw [if_pos rfl] at H; exact H
                  clear H
                  have H := H1
                  clear H1
                  obtain rfl := Option.some.inj H
                  go_wp2_with (first | ((with_reducible refine gate_callee (f := 42) rfl ?_); refine goesL_ (some 36) rfl rfl Try.func42 (by kernel_rfl) rfl #[.string t111, .int .u8 104] rfl (by (try simp only [List.map_toArray, List.map_cons, List.map_nil]); first | done | rfl | (simp only [List.length_drop, List.length_take]; rfl)) ?_; (with_reducible refine (cubicleref18_has.calls kj2 t111 104 true _ A19.out).mono ?_); rintro e w' ⟨rfl, ⟨nd, rfl⟩⟩; refine ⟨_, rfl, ?_⟩) | (go_at_call 42; (with_reducible refine (cubicleref18_has.calls kj2 t111 100 true _ A21.out).mono ?_); rintro e w' ⟨rfl, ⟨nd, rfl⟩⟩) | (go_at_call 42; (with_reducible refine (cubicleref18_has.calls kj2 t111 102 true _ A23.out).mono ?_); rintro e w' ⟨rfl, ⟨nd, rfl⟩⟩) | (go_at_call 42; (with_reducible refine (cubicleref18_has.calls kj2 t111 97 true _ A25.out).mono ?_); rintro e w' ⟨rfl, ⟨nd, rfl⟩⟩) | (go_at_call 42; (with_reducible refine (cubicleref18_has.calls kj2 t111 98 true _ A27.out).mono ?_); rintro e w' ⟨rfl, ⟨nd, rfl⟩⟩))
                  go_ret
                  exact ⟨by first | rfl | (simp [errW_none, errW_some] <;> rfl) | (simp [*, errW_none, errW_some] <;> rfl), by repeat (first | (with_reducible first | exact HB.out | apply below_alloc | apply pw_below_drewN | apply below_drew1 | refine below_set ?_ GE110.out) | exact HB.out)⟩
                · replace c28 := Bool.eq_false_iff.mpr c28
                  subst c28
                  have H1 : (some (a0_5 == 0)) = some r := by rw [if_neg (show ¬ (false = true) by decide)] at H; exact H
                  clear H
                  have H := H1
                  clear H1
                  obtain rfl := Option.some.inj H
                  go_wp2_with (first | ((with_reducible refine gate_callee (f := 42) rfl ?_); refine goesL_ (some 36) rfl rfl Try.func42 (by kernel_rfl) rfl #[.string t111, .int .u8 104] rfl (by (try simp only [List.map_toArray, List.map_cons, List.map_nil]); first | done | rfl | (simp only [List.length_drop, List.length_take]; rfl)) ?_; (with_reducible refine (cubicleref18_has.calls kj2 t111 104 true _ A19.out).mono ?_); rintro e w' ⟨rfl, ⟨nd, rfl⟩⟩; refine ⟨_, rfl, ?_⟩) | (go_at_call 42; (with_reducible refine (cubicleref18_has.calls kj2 t111 100 true _ A21.out).mono ?_); rintro e w' ⟨rfl, ⟨nd, rfl⟩⟩) | (go_at_call 42; (with_reducible refine (cubicleref18_has.calls kj2 t111 102 true _ A23.out).mono ?_); rintro e w' ⟨rfl, ⟨nd, rfl⟩⟩) | (go_at_call 42; (with_reducible refine (cubicleref18_has.calls kj2 t111 97 true _ A25.out).mono ?_); rintro e w' ⟨rfl, ⟨nd, rfl⟩⟩) | (go_at_call 42; (with_reducible refine (cubicleref18_has.calls kj2 t111 98 false _ A27.out).mono ?_); rintro e w' ⟨rfl, ⟨nd, rfl⟩⟩; have hcz29_0 : wc.cell? ⟨gb110, 0, none⟩ = some (.int .i64 a0_0) := (blk_cell BK110.out 0).trans rfl; have hcz29_1 : wc.cell? ⟨gb110, 1, none⟩ = some (.int .i64 a0_1) := (blk_cell BK110.out 1).trans rfl; have hcz29_2 : wc.cell? ⟨gb110, 2, none⟩ = some (.int .i64 a0_2) := (blk_cell BK110.out 2).trans rfl; have hcz29_3 : wc.cell? ⟨gb110, 3, none⟩ = some (.int .u64 a0_3) := (blk_cell BK110.out 3).trans rfl; have hcz29_4 : wc.cell? ⟨gb110, 4, none⟩ = some (.int .u64 a0_4) := (blk_cell BK110.out 4).trans rfl; have hcz29_5 : wc.cell? ⟨gb110, 5, none⟩ = some (.int .u64 a0_5) := (blk_cell BK110.out 5).trans rfl; have hfz29_0 := blk_frozen BK110.out 0; have hfz29_1 := blk_frozen BK110.out 1; have hfz29_2 := blk_frozen BK110.out 2; have hfz29_3 := blk_frozen BK110.out 3; have hfz29_4 := blk_frozen BK110.out 4; have hfz29_5 := blk_frozen BK110.out 5))
                  go_ret
                  exact ⟨by first | rfl | (simp [errW_none, errW_some] <;> rfl) | (simp [*, errW_none, errW_some] <;> rfl), by repeat (first | (with_reducible first | exact HB.out | apply below_alloc | apply pw_below_drewN | apply below_drew1 | refine below_set ?_ GE110.out) | exact HB.out)⟩
              · replace c26 := Bool.eq_false_iff.mpr c26
                subst c26
                have H1 : (if a0_4 = 0 then ((cubicleref18_has.f kj2 t111 98).bind fun t117 => (if t117 = true then (some true) else (some (a0_5 == 0)))) else (some false)) = some r := by rw [if_neg (show ¬ (false = true) by decide)] at H; exact H
                clear H
                have H := H1
                clear H1
                by_cases c30 : a0_4 = 0
                · rw [if_pos c30] at H
                  have c30b0 : (a0_4 == 0) = true := beq_iff_eq.mpr c30
                  have c30b1 : (a0_4 != 0) = false := bne_eq_false_iff_eq.mpr c30
                  clear c30
                  replace H := Option.bind_eq_some_iff.mp H
                  obtain ⟨t117, A310, H⟩ := H
                  replace H : (if t117 = true then (some true) else (some (a0_5 == 0))) = some r := H
                  have A31 := Aside0.mk A310
                  clear A310
                  by_cases c32 : t117 = true
                  · subst c32
                    have H1 : (some true) = some r := by rw [if_pos rfl] at H; exact H
                    clear H
                    have H := H1
                    clear H1
                    obtain rfl := Option.some.inj H
                    go_wp2_with (first | ((with_reducible refine gate_callee (f := 42) rfl ?_); refine goesL_ (some 36) rfl rfl Try.func42 (by kernel_rfl) rfl #[.string t111, .int .u8 104] rfl (by (try simp only [List.map_toArray, List.map_cons, List.map_nil]); first | done | rfl | (simp only [List.length_drop, List.length_take]; rfl)) ?_; (with_reducible refine (cubicleref18_has.calls kj2 t111 104 true _ A19.out).mono ?_); rintro e w' ⟨rfl, ⟨nd, rfl⟩⟩; refine ⟨_, rfl, ?_⟩) | (go_at_call 42; (with_reducible refine (cubicleref18_has.calls kj2 t111 100 true _ A21.out).mono ?_); rintro e w' ⟨rfl, ⟨nd, rfl⟩⟩) | (go_at_call 42; (with_reducible refine (cubicleref18_has.calls kj2 t111 102 true _ A23.out).mono ?_); rintro e w' ⟨rfl, ⟨nd, rfl⟩⟩) | (go_at_call 42; (with_reducible refine (cubicleref18_has.calls kj2 t111 97 false _ A25.out).mono ?_); rintro e w' ⟨rfl, ⟨nd, rfl⟩⟩; have hcz33_0 : wc.cell? ⟨gb110, 0, none⟩ = some (.int .i64 a0_0) := (blk_cell BK110.out 0).trans rfl; have hcz33_1 : wc.cell? ⟨gb110, 1, none⟩ = some (.int .i64 a0_1) := (blk_cell BK110.out 1).trans rfl; have hcz33_2 : wc.cell? ⟨gb110, 2, none⟩ = some (.int .i64 a0_2) := (blk_cell BK110.out 2).trans rfl; have hcz33_3 : wc.cell? ⟨gb110, 3, none⟩ = some (.int .u64 a0_3) := (blk_cell BK110.out 3).trans rfl; have hcz33_4 : wc.cell? ⟨gb110, 4, none⟩ = some (.int .u64 a0_4) := (blk_cell BK110.out 4).trans rfl; have hcz33_5 : wc.cell? ⟨gb110, 5, none⟩ = some (.int .u64 a0_5) := (blk_cell BK110.out 5).trans rfl; have hfz33_0 := blk_frozen BK110.out 0; have hfz33_1 := blk_frozen BK110.out 1; have hfz33_2 := blk_frozen BK110.out 2; have hfz33_3 := blk_frozen BK110.out 3; have hfz33_4 := blk_frozen BK110.out 4; have hfz33_5 := blk_frozen BK110.out 5) | (go_at_call 42; (with_reducible refine (cubicleref18_has.calls kj2 t111 98 true _ A31.out).mono ?_); rintro e w' ⟨rfl, ⟨nd, rfl⟩⟩))
                    go_ret
                    exact ⟨by first | rfl | (simp [errW_none, errW_some] <;> rfl) | (simp [*, errW_none, errW_some] <;> rfl), by repeat (first | (with_reducible first | exact HB.out | apply below_alloc | apply pw_below_drewN | apply below_drew1 | refine below_set ?_ GE110.out) | exact HB.out)⟩
                  · replace c32 := Bool.eq_false_iff.mpr c32
                    subst c32
                    have H1 : (some (a0_5 == 0)) = some r := by rw [if_neg (show ¬ (false = true) by decide)] at H; exact H
                    clear H
                    have H := H1
                    clear H1
                    obtain rfl := Option.some.inj H
                    go_wp2_with (first | ((with_reducible refine gate_callee (f := 42) rfl ?_); refine goesL_ (some 36) rfl rfl Try.func42 (by kernel_rfl) rfl #[.string t111, .int .u8 104] rfl (by (try simp only [List.map_toArray, List.map_cons, List.map_nil]); first | done | rfl | (simp only [List.length_drop, List.length_take]; rfl)) ?_; (with_reducible refine (cubicleref18_has.calls kj2 t111 104 true _ A19.out).mono ?_); rintro e w' ⟨rfl, ⟨nd, rfl⟩⟩; refine ⟨_, rfl, ?_⟩) | (go_at_call 42; (with_reducible refine (cubicleref18_has.calls kj2 t111 100 true _ A21.out).mono ?_); rintro e w' ⟨rfl, ⟨nd, rfl⟩⟩) | (go_at_call 42; (with_reducible refine (cubicleref18_has.calls kj2 t111 102 true _ A23.out).mono ?_); rintro e w' ⟨rfl, ⟨nd, rfl⟩⟩) | (go_at_call 42; (with_reducible refine (cubicleref18_has.calls kj2 t111 97 false _ A25.out).mono ?_); rintro e w' ⟨rfl, ⟨nd, rfl⟩⟩; have hcz34_0 : wc.cell? ⟨gb110, 0, none⟩ = some (.int .i64 a0_0) := (blk_cell BK110.out 0).trans rfl; have hcz34_1 : wc.cell? ⟨gb110, 1, none⟩ = some (.int .i64 a0_1) := (blk_cell BK110.out 1).trans rfl; have hcz34_2 : wc.cell? ⟨gb110, 2, none⟩ = some (.int .i64 a0_2) := (blk_cell BK110.out 2).trans rfl; have hcz34_3 : wc.cell? ⟨gb110, 3, none⟩ = some (.int .u64 a0_3) := (blk_cell BK110.out 3).trans rfl; have hcz34_4 : wc.cell? ⟨gb110, 4, none⟩ = some (.int .u64 a0_4) := (blk_cell BK110.out 4).trans rfl; have hcz34_5 : wc.cell? ⟨gb110, 5, none⟩ = some (.int .u64 a0_5) := (blk_cell BK110.out 5).trans rfl; have hfz34_0 := blk_frozen BK110.out 0; have hfz34_1 := blk_frozen BK110.out 1; have hfz34_2 := blk_frozen BK110.out 2; have hfz34_3 := blk_frozen BK110.out 3; have hfz34_4 := blk_frozen BK110.out 4; have hfz34_5 := blk_frozen BK110.out 5) | (go_at_call 42; (with_reducible refine (cubicleref18_has.calls kj2 t111 98 false _ A31.out).mono ?_); rintro e w' ⟨rfl, ⟨nd, rfl⟩⟩))
                    go_ret
                    exact ⟨by first | rfl | (simp [errW_none, errW_some] <;> rfl) | (simp [*, errW_none, errW_some] <;> rfl), by repeat (first | (with_reducible first | exact HB.out | apply below_alloc | apply pw_below_drewN | apply below_drew1 | refine below_set ?_ GE110.out) | exact HB.out)⟩
                · rw [if_neg c30] at H
                  have c30b0 : (a0_4 == 0) = false := beq_eq_false_iff_ne.mpr c30
                  have c30b1 : (a0_4 != 0) = true := bne_iff_ne.mpr c30
                  obtain rfl := Option.some.inj H
                  go_wp2_with (first | ((with_reducible refine gate_callee (f := 42) rfl ?_); refine goesL_ (some 36) rfl rfl Try.func42 (by kernel_rfl) rfl #[.string t111, .int .u8 104] rfl (by (try simp only [List.map_toArray, List.map_cons, List.map_nil]); first | done | rfl | (simp only [List.length_drop, List.length_take]; rfl)) ?_; (with_reducible refine (cubicleref18_has.calls kj2 t111 104 true _ A19.out).mono ?_); rintro e w' ⟨rfl, ⟨nd, rfl⟩⟩; refine ⟨_, rfl, ?_⟩) | (go_at_call 42; (with_reducible refine (cubicleref18_has.calls kj2 t111 100 true _ A21.out).mono ?_); rintro e w' ⟨rfl, ⟨nd, rfl⟩⟩) | (go_at_call 42; (with_reducible refine (cubicleref18_has.calls kj2 t111 102 true _ A23.out).mono ?_); rintro e w' ⟨rfl, ⟨nd, rfl⟩⟩) | (go_at_call 42; (with_reducible refine (cubicleref18_has.calls kj2 t111 97 false _ A25.out).mono ?_); rintro e w' ⟨rfl, ⟨nd, rfl⟩⟩; have hcz35_0 : wc.cell? ⟨gb110, 0, none⟩ = some (.int .i64 a0_0) := (blk_cell BK110.out 0).trans rfl; have hcz35_1 : wc.cell? ⟨gb110, 1, none⟩ = some (.int .i64 a0_1) := (blk_cell BK110.out 1).trans rfl; have hcz35_2 : wc.cell? ⟨gb110, 2, none⟩ = some (.int .i64 a0_2) := (blk_cell BK110.out 2).trans rfl; have hcz35_3 : wc.cell? ⟨gb110, 3, none⟩ = some (.int .u64 a0_3) := (blk_cell BK110.out 3).trans rfl; have hcz35_4 : wc.cell? ⟨gb110, 4, none⟩ = some (.int .u64 a0_4) := (blk_cell BK110.out 4).trans rfl; have hcz35_5 : wc.cell? ⟨gb110, 5, none⟩ = some (.int .u64 a0_5) := (blk_cell BK110.out 5).trans rfl; have hfz35_0 := blk_frozen BK110.out 0; have hfz35_1 := blk_frozen BK110.out 1; have hfz35_2 := blk_frozen BK110.out 2; have hfz35_3 := blk_frozen BK110.out 3; have hfz35_4 := blk_frozen BK110.out 4; have hfz35_5 := blk_frozen BK110.out 5))
                  go_ret
                  exact ⟨by first | rfl | (simp [errW_none, errW_some] <;> rfl) | (simp [*, errW_none, errW_some] <;> rfl), by repeat (first | (with_reducible first | exact HB.out | apply below_alloc | apply pw_below_drewN | apply below_drew1 | refine below_set ?_ GE110.out) | exact HB.out)⟩
            · replace c24 := Bool.eq_false_iff.mpr c24
              subst c24
              have H1 : (if a0_2 = 0 then ((cubicleref18_has.f kj2 t111 97).bind fun t118 => (if t118 = true then ((cubicleref18_has.f kj2 t111 98).bind fun t119 => (if t119 = true then (some true) else (some (a0_5 == 0)))) else (if a0_4 = 0 then ((cubicleref18_has.f kj2 t111 98).bind fun t120 => (if t120 = true then (some true) else (some (a0_5 == 0)))) else (some false)))) else (some false)) = some r := by rw [if_neg (show ¬ (false = true) by decide)] at H; exact H
              clear H
              have H := H1
              clear H1
              by_cases c36 : a0_2 = 0
              · rw [if_pos c36] at H
                have c36b0 : (a0_2 == 0) = true := beq_iff_eq.mpr c36
                have c36b1 : (a0_2 != 0) = false := bne_eq_false_iff_eq.mpr c36
                clear c36
                replace H := Option.bind_eq_some_iff.mp H
                obtain ⟨t118, A370, H⟩ := H
                replace H : (if t118 = true then ((cubicleref18_has.f kj2 t111 98).bind fun t119 => (if t119 = true then (some true) else (some (a0_5 == 0)))) else (if a0_4 = 0 then ((cubicleref18_has.f kj2 t111 98).bind fun t120 => (if t120 = true then (some true) else (some (a0_5 == 0)))) else (some false))) = some r := H
                have A37 := Aside0.mk A370
                clear A370
                by_cases c38 : t118 = true
                · subst c38
                  have H1 : ((cubicleref18_has.f kj2 t111 98).bind fun t119 => (if t119 = true then (some true) else (some (a0_5 == 0)))) = some r := by rw [if_pos rfl] at H; exact H
                  clear H
                  have H := H1
                  clear H1
                  replace H := Option.bind_eq_some_iff.mp H
                  obtain ⟨t119, A390, H⟩ := H
                  replace H : (if t119 = true then (some true) else (some (a0_5 == 0))) = some r := H
                  have A39 := Aside0.mk A390
                  clear A390
                  by_cases c40 : t119 = true
                  · subst c40
                    have H1 : (some true) = some r := by rw [if_pos rfl] at H; exact H
                    clear H
                    have H := H1
                    clear H1
                    obtain rfl := Option.some.inj H
                    go_wp2_with (first | ((with_reducible refine gate_callee (f := 42) rfl ?_); refine goesL_ (some 36) rfl rfl Try.func42 (by kernel_rfl) rfl #[.string t111, .int .u8 104] rfl (by (try simp only [List.map_toArray, List.map_cons, List.map_nil]); first | done | rfl | (simp only [List.length_drop, List.length_take]; rfl)) ?_; (with_reducible refine (cubicleref18_has.calls kj2 t111 104 true _ A19.out).mono ?_); rintro e w' ⟨rfl, ⟨nd, rfl⟩⟩; refine ⟨_, rfl, ?_⟩) | (go_at_call 42; (with_reducible refine (cubicleref18_has.calls kj2 t111 100 true _ A21.out).mono ?_); rintro e w' ⟨rfl, ⟨nd, rfl⟩⟩) | (go_at_call 42; (with_reducible refine (cubicleref18_has.calls kj2 t111 102 false _ A23.out).mono ?_); rintro e w' ⟨rfl, ⟨nd, rfl⟩⟩; have hcz41_0 : wc.cell? ⟨gb110, 0, none⟩ = some (.int .i64 a0_0) := (blk_cell BK110.out 0).trans rfl; have hcz41_1 : wc.cell? ⟨gb110, 1, none⟩ = some (.int .i64 a0_1) := (blk_cell BK110.out 1).trans rfl; have hcz41_2 : wc.cell? ⟨gb110, 2, none⟩ = some (.int .i64 a0_2) := (blk_cell BK110.out 2).trans rfl; have hcz41_3 : wc.cell? ⟨gb110, 3, none⟩ = some (.int .u64 a0_3) := (blk_cell BK110.out 3).trans rfl; have hcz41_4 : wc.cell? ⟨gb110, 4, none⟩ = some (.int .u64 a0_4) := (blk_cell BK110.out 4).trans rfl; have hcz41_5 : wc.cell? ⟨gb110, 5, none⟩ = some (.int .u64 a0_5) := (blk_cell BK110.out 5).trans rfl; have hfz41_0 := blk_frozen BK110.out 0; have hfz41_1 := blk_frozen BK110.out 1; have hfz41_2 := blk_frozen BK110.out 2; have hfz41_3 := blk_frozen BK110.out 3; have hfz41_4 := blk_frozen BK110.out 4; have hfz41_5 := blk_frozen BK110.out 5) | (go_at_call 42; (with_reducible refine (cubicleref18_has.calls kj2 t111 97 true _ A37.out).mono ?_); rintro e w' ⟨rfl, ⟨nd, rfl⟩⟩) | (go_at_call 42; (with_reducible refine (cubicleref18_has.calls kj2 t111 98 true _ A39.out).mono ?_); rintro e w' ⟨rfl, ⟨nd, rfl⟩⟩))
                    go_ret
                    exact ⟨by first | rfl | (simp [errW_none, errW_some] <;> rfl) | (simp [*, errW_none, errW_some] <;> rfl), by repeat (first | (with_reducible first | exact HB.out | apply below_alloc | apply pw_below_drewN | apply below_drew1 | refine below_set ?_ GE110.out) | exact HB.out)⟩
                  · replace c40 := Bool.eq_false_iff.mpr c40
                    subst c40
                    have H1 : (some (a0_5 == 0)) = some r := by rw [if_neg (show ¬ (false = true) by decide)] at H; exact H
                    clear H
                    have H := H1
                    clear H1
                    obtain rfl := Option.some.inj H
                    go_wp2_with (first | ((with_reducible refine gate_callee (f := 42) rfl ?_); refine goesL_ (some 36) rfl rfl Try.func42 (by kernel_rfl) rfl #[.string t111, .int .u8 104] rfl (by (try simp only [List.map_toArray, List.map_cons, List.map_nil]); first | done | rfl | (simp only [List.length_drop, List.length_take]; rfl)) ?_; (with_reducible refine (cubicleref18_has.calls kj2 t111 104 true _ A19.out).mono ?_); rintro e w' ⟨rfl, ⟨nd, rfl⟩⟩; refine ⟨_, rfl, ?_⟩) | (go_at_call 42; (with_reducible refine (cubicleref18_has.calls kj2 t111 100 true _ A21.out).mono ?_); rintro e w' ⟨rfl, ⟨nd, rfl⟩⟩) | (go_at_call 42; (with_reducible refine (cubicleref18_has.calls kj2 t111 102 false _ A23.out).mono ?_); rintro e w' ⟨rfl, ⟨nd, rfl⟩⟩; have hcz42_0 : wc.cell? ⟨gb110, 0, none⟩ = some (.int .i64 a0_0) := (blk_cell BK110.out 0).trans rfl; have hcz42_1 : wc.cell? ⟨gb110, 1, none⟩ = some (.int .i64 a0_1) := (blk_cell BK110.out 1).trans rfl; have hcz42_2 : wc.cell? ⟨gb110, 2, none⟩ = some (.int .i64 a0_2) := (blk_cell BK110.out 2).trans rfl; have hcz42_3 : wc.cell? ⟨gb110, 3, none⟩ = some (.int .u64 a0_3) := (blk_cell BK110.out 3).trans rfl; have hcz42_4 : wc.cell? ⟨gb110, 4, none⟩ = some (.int .u64 a0_4) := (blk_cell BK110.out 4).trans rfl; have hcz42_5 : wc.cell? ⟨gb110, 5, none⟩ = some (.int .u64 a0_5) := (blk_cell BK110.out 5).trans rfl; have hfz42_0 := blk_frozen BK110.out 0; have hfz42_1 := blk_frozen BK110.out 1; have hfz42_2 := blk_frozen BK110.out 2; have hfz42_3 := blk_frozen BK110.out 3; have hfz42_4 := blk_frozen BK110.out 4; have hfz42_5 := blk_frozen BK110.out 5) | (go_at_call 42; (with_reducible refine (cubicleref18_has.calls kj2 t111 97 true _ A37.out).mono ?_); rintro e w' ⟨rfl, ⟨nd, rfl⟩⟩) | (go_at_call 42; (with_reducible refine (cubicleref18_has.calls kj2 t111 98 false _ A39.out).mono ?_); rintro e w' ⟨rfl, ⟨nd, rfl⟩⟩))
                    go_ret
                    exact ⟨by first | rfl | (simp [errW_none, errW_some] <;> rfl) | (simp [*, errW_none, errW_some] <;> rfl), by repeat (first | (with_reducible first | exact HB.out | apply below_alloc | apply pw_below_drewN | apply below_drew1 | refine below_set ?_ GE110.out) | exact HB.out)⟩
                · replace c38 := Bool.eq_false_iff.mpr c38
                  subst c38
                  have H1 : (if a0_4 = 0 then ((cubicleref18_has.f kj2 t111 98).bind fun t120 => (if t120 = true then (some true) else (some (a0_5 == 0)))) else (some false)) = some r := by rw [if_neg (show ¬ (false = true) by decide)] at H; exact H
                  clear H
                  have H := H1
                  clear H1
                  by_cases c43 : a0_4 = 0
                  · rw [if_pos c43] at H
                    have c43b0 : (a0_4 == 0) = true := beq_iff_eq.mpr c43
                    have c43b1 : (a0_4 != 0) = false := bne_eq_false_iff_eq.mpr c43
                    clear c43
                    replace H := Option.bind_eq_some_iff.mp H
                    obtain ⟨t120, A440, H⟩ := H
                    replace H : (if t120 = true then (some true) else (some (a0_5 == 0))) = some r := H
                    have A44 := Aside0.mk A440
                    clear A440
                    by_cases c45 : t120 = true
                    · subst c45
                      have H1 : (some true) = some r := by rw [if_pos rfl] at H; exact H
                      clear H
                      have H := H1
                      clear H1
                      obtain rfl := Option.some.inj H
                      go_wp2_with (first | ((with_reducible refine gate_callee (f := 42) rfl ?_); refine goesL_ (some 36) rfl rfl Try.func42 (by kernel_rfl) rfl #[.string t111, .int .u8 104] rfl (by (try simp only [List.map_toArray, List.map_cons, List.map_nil]); first | done | rfl | (simp only [List.length_drop, List.length_take]; rfl)) ?_; (with_reducible refine (cubicleref18_has.calls kj2 t111 104 true _ A19.out).mono ?_); rintro e w' ⟨rfl, ⟨nd, rfl⟩⟩; refine ⟨_, rfl, ?_⟩) | (go_at_call 42; (with_reducible refine (cubicleref18_has.calls kj2 t111 100 true _ A21.out).mono ?_); rintro e w' ⟨rfl, ⟨nd, rfl⟩⟩) | (go_at_call 42; (with_reducible refine (cubicleref18_has.calls kj2 t111 102 false _ A23.out).mono ?_); rintro e w' ⟨rfl, ⟨nd, rfl⟩⟩; have hcz46_0 : wc.cell? ⟨gb110, 0, none⟩ = some (.int .i64 a0_0) := (blk_cell BK110.out 0).trans rfl; have hcz46_1 : wc.cell? ⟨gb110, 1, none⟩ = some (.int .i64 a0_1) := (blk_cell BK110.out 1).trans rfl; have hcz46_2 : wc.cell? ⟨gb110, 2, none⟩ = some (.int .i64 a0_2) := (blk_cell BK110.out 2).trans rfl; have hcz46_3 : wc.cell? ⟨gb110, 3, none⟩ = some (.int .u64 a0_3) := (blk_cell BK110.out 3).trans rfl; have hcz46_4 : wc.cell? ⟨gb110, 4, none⟩ = some (.int .u64 a0_4) := (blk_cell BK110.out 4).trans rfl; have hcz46_5 : wc.cell? ⟨gb110, 5, none⟩ = some (.int .u64 a0_5) := (blk_cell BK110.out 5).trans rfl; have hfz46_0 := blk_frozen BK110.out 0; have hfz46_1 := blk_frozen BK110.out 1; have hfz46_2 := blk_frozen BK110.out 2; have hfz46_3 := blk_frozen BK110.out 3; have hfz46_4 := blk_frozen BK110.out 4; have hfz46_5 := blk_frozen BK110.out 5) | (go_at_call 42; (with_reducible refine (cubicleref18_has.calls kj2 t111 97 false _ A37.out).mono ?_); rintro e w' ⟨rfl, ⟨nd, rfl⟩⟩) | (go_at_call 42; (with_reducible refine (cubicleref18_has.calls kj2 t111 98 true _ A44.out).mono ?_); rintro e w' ⟨rfl, ⟨nd, rfl⟩⟩))
                      go_ret
                      exact ⟨by first | rfl | (simp [errW_none, errW_some] <;> rfl) | (simp [*, errW_none, errW_some] <;> rfl), by repeat (first | (with_reducible first | exact HB.out | apply below_alloc | apply pw_below_drewN | apply below_drew1 | refine below_set ?_ GE110.out) | exact HB.out)⟩
                    · replace c45 := Bool.eq_false_iff.mpr c45
                      subst c45
                      have H1 : (some (a0_5 == 0)) = some r := by rw [if_neg (show ¬ (false = true) by decide)] at H; exact H
                      clear H
                      have H := H1
                      clear H1
                      obtain rfl := Option.some.inj H
                      go_wp2_with (first | ((with_reducible refine gate_callee (f := 42) rfl ?_); refine goesL_ (some 36) rfl rfl Try.func42 (by kernel_rfl) rfl #[.string t111, .int .u8 104] rfl (by (try simp only [List.map_toArray, List.map_cons, List.map_nil]); first | done | rfl | (simp only [List.length_drop, List.length_take]; rfl)) ?_; (with_reducible refine (cubicleref18_has.calls kj2 t111 104 true _ A19.out).mono ?_); rintro e w' ⟨rfl, ⟨nd, rfl⟩⟩; refine ⟨_, rfl, ?_⟩) | (go_at_call 42; (with_reducible refine (cubicleref18_has.calls kj2 t111 100 true _ A21.out).mono ?_); rintro e w' ⟨rfl, ⟨nd, rfl⟩⟩) | (go_at_call 42; (with_reducible refine (cubicleref18_has.calls kj2 t111 102 false _ A23.out).mono ?_); rintro e w' ⟨rfl, ⟨nd, rfl⟩⟩; have hcz47_0 : wc.cell? ⟨gb110, 0, none⟩ = some (.int .i64 a0_0) := (blk_cell BK110.out 0).trans rfl; have hcz47_1 : wc.cell? ⟨gb110, 1, none⟩ = some (.int .i64 a0_1) := (blk_cell BK110.out 1).trans rfl; have hcz47_2 : wc.cell? ⟨gb110, 2, none⟩ = some (.int .i64 a0_2) := (blk_cell BK110.out 2).trans rfl; have hcz47_3 : wc.cell? ⟨gb110, 3, none⟩ = some (.int .u64 a0_3) := (blk_cell BK110.out 3).trans rfl; have hcz47_4 : wc.cell? ⟨gb110, 4, none⟩ = some (.int .u64 a0_4) := (blk_cell BK110.out 4).trans rfl; have hcz47_5 : wc.cell? ⟨gb110, 5, none⟩ = some (.int .u64 a0_5) := (blk_cell BK110.out 5).trans rfl; have hfz47_0 := blk_frozen BK110.out 0; have hfz47_1 := blk_frozen BK110.out 1; have hfz47_2 := blk_frozen BK110.out 2; have hfz47_3 := blk_frozen BK110.out 3; have hfz47_4 := blk_frozen BK110.out 4; have hfz47_5 := blk_frozen BK110.out 5) | (go_at_call 42; (with_reducible refine (cubicleref18_has.calls kj2 t111 97 false _ A37.out).mono ?_); rintro e w' ⟨rfl, ⟨nd, rfl⟩⟩) | (go_at_call 42; (with_reducible refine (cubicleref18_has.calls kj2 t111 98 false _ A44.out).mono ?_); rintro e w' ⟨rfl, ⟨nd, rfl⟩⟩))
                      go_ret
                      exact ⟨by first | rfl | (simp [errW_none, errW_some] <;> rfl) | (simp [*, errW_none, errW_some] <;> rfl), by repeat (first | (with_reducible first | exact HB.out | apply below_alloc | apply pw_below_drewN | apply below_drew1 | refine below_set ?_ GE110.out) | exact HB.out)⟩
                  · rw [if_neg c43] at H
                    have c43b0 : (a0_4 == 0) = false := beq_eq_false_iff_ne.mpr c43
                    have c43b1 : (a0_4 != 0) = true := bne_iff_ne.mpr c43
                    obtain rfl := Option.some.inj H
                    go_wp2_with (first | ((with_reducible refine gate_callee (f := 42) rfl ?_); refine goesL_ (some 36) rfl rfl Try.func42 (by kernel_rfl) rfl #[.string t111, .int .u8 104] rfl (by (try simp only [List.map_toArray, List.map_cons, List.map_nil]); first | done | rfl | (simp only [List.length_drop, List.length_take]; rfl)) ?_; (with_reducible refine (cubicleref18_has.calls kj2 t111 104 true _ A19.out).mono ?_); rintro e w' ⟨rfl, ⟨nd, rfl⟩⟩; refine ⟨_, rfl, ?_⟩) | (go_at_call 42; (with_reducible refine (cubicleref18_has.calls kj2 t111 100 true _ A21.out).mono ?_); rintro e w' ⟨rfl, ⟨nd, rfl⟩⟩) | (go_at_call 42; (with_reducible refine (cubicleref18_has.calls kj2 t111 102 false _ A23.out).mono ?_); rintro e w' ⟨rfl, ⟨nd, rfl⟩⟩; have hcz48_0 : wc.cell? ⟨gb110, 0, none⟩ = some (.int .i64 a0_0) := (blk_cell BK110.out 0).trans rfl; have hcz48_1 : wc.cell? ⟨gb110, 1, none⟩ = some (.int .i64 a0_1) := (blk_cell BK110.out 1).trans rfl; have hcz48_2 : wc.cell? ⟨gb110, 2, none⟩ = some (.int .i64 a0_2) := (blk_cell BK110.out 2).trans rfl; have hcz48_3 : wc.cell? ⟨gb110, 3, none⟩ = some (.int .u64 a0_3) := (blk_cell BK110.out 3).trans rfl; have hcz48_4 : wc.cell? ⟨gb110, 4, none⟩ = some (.int .u64 a0_4) := (blk_cell BK110.out 4).trans rfl; have hcz48_5 : wc.cell? ⟨gb110, 5, none⟩ = some (.int .u64 a0_5) := (blk_cell BK110.out 5).trans rfl; have hfz48_0 := blk_frozen BK110.out 0; have hfz48_1 := blk_frozen BK110.out 1; have hfz48_2 := blk_frozen BK110.out 2; have hfz48_3 := blk_frozen BK110.out 3; have hfz48_4 := blk_frozen BK110.out 4; have hfz48_5 := blk_frozen BK110.out 5) | (go_at_call 42; (with_reducible refine (cubicleref18_has.calls kj2 t111 97 false _ A37.out).mono ?_); rintro e w' ⟨rfl, ⟨nd, rfl⟩⟩))
                    go_ret
                    exact ⟨by first | rfl | (simp [errW_none, errW_some] <;> rfl) | (simp [*, errW_none, errW_some] <;> rfl), by repeat (first | (with_reducible first | exact HB.out | apply below_alloc | apply pw_below_drewN | apply below_drew1 | refine below_set ?_ GE110.out) | exact HB.out)⟩
              · rw [if_neg c36] at H
                have c36b0 : (a0_2 == 0) = false := beq_eq_false_iff_ne.mpr c36
                have c36b1 : (a0_2 != 0) = true := bne_iff_ne.mpr c36
                obtain rfl := Option.some.inj H
                go_wp2_with (first | ((with_reducible refine gate_callee (f := 42) rfl ?_); refine goesL_ (some 36) rfl rfl Try.func42 (by kernel_rfl) rfl #[.string t111, .int .u8 104] rfl (by (try simp only [List.map_toArray, List.map_cons, List.map_nil]); first | done | rfl | (simp only [List.length_drop, List.length_take]; rfl)) ?_; (with_reducible refine (cubicleref18_has.calls kj2 t111 104 true _ A19.out).mono ?_); rintro e w' ⟨rfl, ⟨nd, rfl⟩⟩; refine ⟨_, rfl, ?_⟩) | (go_at_call 42; (with_reducible refine (cubicleref18_has.calls kj2 t111 100 true _ A21.out).mono ?_); rintro e w' ⟨rfl, ⟨nd, rfl⟩⟩) | (go_at_call 42; (with_reducible refine (cubicleref18_has.calls kj2 t111 102 false _ A23.out).mono ?_); rintro e w' ⟨rfl, ⟨nd, rfl⟩⟩; have hcz49_0 : wc.cell? ⟨gb110, 0, none⟩ = some (.int .i64 a0_0) := (blk_cell BK110.out 0).trans rfl; have hcz49_1 : wc.cell? ⟨gb110, 1, none⟩ = some (.int .i64 a0_1) := (blk_cell BK110.out 1).trans rfl; have hcz49_2 : wc.cell? ⟨gb110, 2, none⟩ = some (.int .i64 a0_2) := (blk_cell BK110.out 2).trans rfl; have hcz49_3 : wc.cell? ⟨gb110, 3, none⟩ = some (.int .u64 a0_3) := (blk_cell BK110.out 3).trans rfl; have hcz49_4 : wc.cell? ⟨gb110, 4, none⟩ = some (.int .u64 a0_4) := (blk_cell BK110.out 4).trans rfl; have hcz49_5 : wc.cell? ⟨gb110, 5, none⟩ = some (.int .u64 a0_5) := (blk_cell BK110.out 5).trans rfl; have hfz49_0 := blk_frozen BK110.out 0; have hfz49_1 := blk_frozen BK110.out 1; have hfz49_2 := blk_frozen BK110.out 2; have hfz49_3 := blk_frozen BK110.out 3; have hfz49_4 := blk_frozen BK110.out 4; have hfz49_5 := blk_frozen BK110.out 5))
                go_ret
                exact ⟨by first | rfl | (simp [errW_none, errW_some] <;> rfl) | (simp [*, errW_none, errW_some] <;> rfl), by repeat (first | (with_reducible first | exact HB.out | apply below_alloc | apply pw_below_drewN | apply below_drew1 | refine below_set ?_ GE110.out) | exact HB.out)⟩
          · replace c22 := Bool.eq_false_iff.mpr c22
            subst c22
            have H1 : (if a0_1 = 0 then ((cubicleref18_has.f kj2 t111 102).bind fun t121 => (if t121 = true then ((cubicleref18_has.f kj2 t111 97).bind fun t122 => (if t122 = true then ((cubicleref18_has.f kj2 t111 98).bind fun t123 => (if t123 = true then (some true) else (some (a0_5 == 0)))) else (if a0_4 = 0 then ((cubicleref18_has.f kj2 t111 98).bind fun t124 => (if t124 = true then (some true) else (some (a0_5 == 0)))) else (some false)))) else (if a0_2 = 0 then ((cubicleref18_has.f kj2 t111 97).bind fun t125 => (if t125 = true then ((cubicleref18_has.f kj2 t111 98).bind fun t126 => (if t126 = true then (some true) else (some (a0_5 == 0)))) else (if a0_4 = 0 then ((cubicleref18_has.f kj2 t111 98).bind fun t127 => (if t127 = true then (some true) else (some (a0_5 == 0)))) else (some false)))) else (some false)))) else (some false)) = some r := by rw [if_neg (show ¬ (false = true) by decide)] at H; exact H
            clear H
            have H := H1
            clear H1
            by_cases c50 : a0_1 = 0
            · rw [if_pos c50] at H
              have c50b0 : (a0_1 == 0) = true := beq_iff_eq.mpr c50
              have c50b1 : (a0_1 != 0) = false := bne_eq_false_iff_eq.mpr c50
              clear c50
              replace H := Option.bind_eq_some_iff.mp H
              obtain ⟨t121, A510, H⟩ := H
              replace H : (if t121 = true then ((cubicleref18_has.f kj2 t111 97).bind fun t122 => (if t122 = true then ((cubicleref18_has.f kj2 t111 98).bind fun t123 => (if t123 = true then (some true) else (some (a0_5 == 0)))) else (if a0_4 = 0 then ((cubicleref18_has.f kj2 t111 98).bind fun t124 => (if t124 = true then (some true) else (some (a0_5 == 0)))) else (some false)))) else (if a0_2 = 0 then ((cubicleref18_has.f kj2 t111 97).bind fun t125 => (if t125 = true then ((cubicleref18_has.f kj2 t111 98).bind fun t126 => (if t126 = true then (some true) else (some (a0_5 == 0)))) else (if a0_4 = 0 then ((cubicleref18_has.f kj2 t111 98).bind fun t127 => (if t127 = true then (some true) else (some (a0_5 == 0)))) else (some false)))) else (some false))) = some r := H
              have A51 := Aside0.mk A510
              clear A510
              by_cases c52 : t121 = true
              · subst c52
                have H1 : ((cubicleref18_has.f kj2 t111 97).bind fun t122 => (if t122 = true then ((cubicleref18_has.f kj2 t111 98).bind fun t123 => (if t123 = true then (some true) else (some (a0_5 == 0)))) else (if a0_4 = 0 then ((cubicleref18_has.f kj2 t111 98).bind fun t124 => (if t124 = true then (some true) else (some (a0_5 == 0)))) else (some false)))) = some r := by rw [if_pos rfl] at H; exact H
                clear H
                have H := H1
                clear H1
                replace H := Option.bind_eq_some_iff.mp H
                obtain ⟨t122, A530, H⟩ := H
                replace H : (if t122 = true then ((cubicleref18_has.f kj2 t111 98).bind fun t123 => (if t123 = true then (some true) else (some (a0_5 == 0)))) else (if a0_4 = 0 then ((cubicleref18_has.f kj2 t111 98).bind fun t124 => (if t124 = true then (some true) else (some (a0_5 == 0)))) else (some false))) = some r := H
                have A53 := Aside0.mk A530
                clear A530
                by_cases c54 : t122 = true
                · subst c54
                  have H1 : ((cubicleref18_has.f kj2 t111 98).bind fun t123 => (if t123 = true then (some true) else (some (a0_5 == 0)))) = some r := by rw [if_pos rfl] at H; exact H
                  clear H
                  have H := H1
                  clear H1
                  replace H := Option.bind_eq_some_iff.mp H
                  obtain ⟨t123, A550, H⟩ := H
                  replace H : (if t123 = true then (some true) else (some (a0_5 == 0))) = some r := H
                  have A55 := Aside0.mk A550
                  clear A550
                  by_cases c56 : t123 = true
                  · subst c56
                    have H1 : (some true) = some r := by rw [if_pos rfl] at H; exact H
                    clear H
                    have H := H1
                    clear H1
                    obtain rfl := Option.some.inj H
                    go_wp2_with (first | ((with_reducible refine gate_callee (f := 42) rfl ?_); refine goesL_ (some 36) rfl rfl Try.func42 (by kernel_rfl) rfl #[.string t111, .int .u8 104] rfl (by (try simp only [List.map_toArray, List.map_cons, List.map_nil]); first | done | rfl | (simp only [List.length_drop, List.length_take]; rfl)) ?_; (with_reducible refine (cubicleref18_has.calls kj2 t111 104 true _ A19.out).mono ?_); rintro e w' ⟨rfl, ⟨nd, rfl⟩⟩; refine ⟨_, rfl, ?_⟩) | (go_at_call 42; (with_reducible refine (cubicleref18_has.calls kj2 t111 100 false _ A21.out).mono ?_); rintro e w' ⟨rfl, ⟨nd, rfl⟩⟩; have hcz57_0 : wc.cell? ⟨gb110, 0, none⟩ = some (.int .i64 a0_0) := (blk_cell BK110.out 0).trans rfl; have hcz57_1 : wc.cell? ⟨gb110, 1, none⟩ = some (.int .i64 a0_1) := (blk_cell BK110.out 1).trans rfl; have hcz57_2 : wc.cell? ⟨gb110, 2, none⟩ = some (.int .i64 a0_2) := (blk_cell BK110.out 2).trans rfl; have hcz57_3 : wc.cell? ⟨gb110, 3, none⟩ = some (.int .u64 a0_3) := (blk_cell BK110.out 3).trans rfl; have hcz57_4 : wc.cell? ⟨gb110, 4, none⟩ = some (.int .u64 a0_4) := (blk_cell BK110.out 4).trans rfl; have hcz57_5 : wc.cell? ⟨gb110, 5, none⟩ = some (.int .u64 a0_5) := (blk_cell BK110.out 5).trans rfl; have hfz57_0 := blk_frozen BK110.out 0; have hfz57_1 := blk_frozen BK110.out 1; have hfz57_2 := blk_frozen BK110.out 2; have hfz57_3 := blk_frozen BK110.out 3; have hfz57_4 := blk_frozen BK110.out 4; have hfz57_5 := blk_frozen BK110.out 5) | (go_at_call 42; (with_reducible refine (cubicleref18_has.calls kj2 t111 102 true _ A51.out).mono ?_); rintro e w' ⟨rfl, ⟨nd, rfl⟩⟩) | (go_at_call 42; (with_reducible refine (cubicleref18_has.calls kj2 t111 97 true _ A53.out).mono ?_); rintro e w' ⟨rfl, ⟨nd, rfl⟩⟩) | (go_at_call 42; (with_reducible refine (cubicleref18_has.calls kj2 t111 98 true _ A55.out).mono ?_); rintro e w' ⟨rfl, ⟨nd, rfl⟩⟩))
                    go_ret
                    exact ⟨by first | rfl | (simp [errW_none, errW_some] <;> rfl) | (simp [*, errW_none, errW_some] <;> rfl), by repeat (first | (with_reducible first | exact HB.out | apply below_alloc | apply pw_below_drewN | apply below_drew1 | refine below_set ?_ GE110.out) | exact HB.out)⟩
                  · replace c56 := Bool.eq_false_iff.mpr c56
                    subst c56
                    have H1 : (some (a0_5 == 0)) = some r := by rw [if_neg (show ¬ (false = true) by decide)] at H; exact H
                    clear H
                    have H := H1
                    clear H1
                    obtain rfl := Option.some.inj H
                    go_wp2_with (first | ((with_reducible refine gate_callee (f := 42) rfl ?_); refine goesL_ (some 36) rfl rfl Try.func42 (by kernel_rfl) rfl #[.string t111, .int .u8 104] rfl (by (try simp only [List.map_toArray, List.map_cons, List.map_nil]); first | done | rfl | (simp only [List.length_drop, List.length_take]; rfl)) ?_; (with_reducible refine (cubicleref18_has.calls kj2 t111 104 true _ A19.out).mono ?_); rintro e w' ⟨rfl, ⟨nd, rfl⟩⟩; refine ⟨_, rfl, ?_⟩) | (go_at_call 42; (with_reducible refine (cubicleref18_has.calls kj2 t111 100 false _ A21.out).mono ?_); rintro e w' ⟨rfl, ⟨nd, rfl⟩⟩; have hcz58_0 : wc.cell? ⟨gb110, 0, none⟩ = some (.int .i64 a0_0) := (blk_cell BK110.out 0).trans rfl; have hcz58_1 : wc.cell? ⟨gb110, 1, none⟩ = some (.int .i64 a0_1) := (blk_cell BK110.out 1).trans rfl; have hcz58_2 : wc.cell? ⟨gb110, 2, none⟩ = some (.int .i64 a0_2) := (blk_cell BK110.out 2).trans rfl; have hcz58_3 : wc.cell? ⟨gb110, 3, none⟩ = some (.int .u64 a0_3) := (blk_cell BK110.out 3).trans rfl; have hcz58_4 : wc.cell? ⟨gb110, 4, none⟩ = some (.int .u64 a0_4) := (blk_cell BK110.out 4).trans rfl; have hcz58_5 : wc.cell? ⟨gb110, 5, none⟩ = some (.int .u64 a0_5) := (blk_cell BK110.out 5).trans rfl; have hfz58_0 := blk_frozen BK110.out 0; have hfz58_1 := blk_frozen BK110.out 1; have hfz58_2 := blk_frozen BK110.out 2; have hfz58_3 := blk_frozen BK110.out 3; have hfz58_4 := blk_frozen BK110.out 4; have hfz58_5 := blk_frozen BK110.out 5) | (go_at_call 42; (with_reducible refine (cubicleref18_has.calls kj2 t111 102 true _ A51.out).mono ?_); rintro e w' ⟨rfl, ⟨nd, rfl⟩⟩) | (go_at_call 42; (with_reducible refine (cubicleref18_has.calls kj2 t111 97 true _ A53.out).mono ?_); rintro e w' ⟨rfl, ⟨nd, rfl⟩⟩) | (go_at_call 42; (with_reducible refine (cubicleref18_has.calls kj2 t111 98 false _ A55.out).mono ?_); rintro e w' ⟨rfl, ⟨nd, rfl⟩⟩))
                    go_ret
                    exact ⟨by first | rfl | (simp [errW_none, errW_some] <;> rfl) | (simp [*, errW_none, errW_some] <;> rfl), by repeat (first | (with_reducible first | exact HB.out | apply below_alloc | apply pw_below_drewN | apply below_drew1 | refine below_set ?_ GE110.out) | exact HB.out)⟩
                · replace c54 := Bool.eq_false_iff.mpr c54
                  subst c54
                  have H1 : (if a0_4 = 0 then ((cubicleref18_has.f kj2 t111 98).bind fun t124 => (if t124 = true then (some true) else (some (a0_5 == 0)))) else (some false)) = some r := by rw [if_neg (show ¬ (false = true) by decide)] at H; exact H
                  clear H
                  have H := H1
                  clear H1
                  by_cases c59 : a0_4 = 0
                  · rw [if_pos c59] at H
                    have c59b0 : (a0_4 == 0) = true := beq_iff_eq.mpr c59
                    have c59b1 : (a0_4 != 0) = false := bne_eq_false_iff_eq.mpr c59
                    clear c59
                    replace H := Option.bind_eq_some_iff.mp H
                    obtain ⟨t124, A600, H⟩ := H
                    replace H : (if t124 = true then (some true) else (some (a0_5 == 0))) = some r := H
                    have A60 := Aside0.mk A600
                    clear A600
                    by_cases c61 : t124 = true
                    · subst c61
                      have H1 : (some true) = some r := by rw [if_pos rfl] at H; exact H
                      clear H
                      have H := H1
                      clear H1
                      obtain rfl := Option.some.inj H
                      go_wp2_with (first | ((with_reducible refine gate_callee (f := 42) rfl ?_); refine goesL_ (some 36) rfl rfl Try.func42 (by kernel_rfl) rfl #[.string t111, .int .u8 104] rfl (by (try simp only [List.map_toArray, List.map_cons, List.map_nil]); first | done | rfl | (simp only [List.length_drop, List.length_take]; rfl)) ?_; (with_reducible refine (cubicleref18_has.calls kj2 t111 104 true _ A19.out).mono ?_); rintro e w' ⟨rfl, ⟨nd, rfl⟩⟩; refine ⟨_, rfl, ?_⟩) | (go_at_call 42; (with_reducible refine (cubicleref18_has.calls kj2 t111 100 false _ A21.out).mono ?_); rintro e w' ⟨rfl, ⟨nd, rfl⟩⟩; have hcz62_0 : wc.cell? ⟨gb110, 0, none⟩ = some (.int .i64 a0_0) := (blk_cell BK110.out 0).trans rfl; have hcz62_1 : wc.cell? ⟨gb110, 1, none⟩ = some (.int .i64 a0_1) := (blk_cell BK110.out 1).trans rfl; have hcz62_2 : wc.cell? ⟨gb110, 2, none⟩ = some (.int .i64 a0_2) := (blk_cell BK110.out 2).trans rfl; have hcz62_3 : wc.cell? ⟨gb110, 3, none⟩ = some (.int .u64 a0_3) := (blk_cell BK110.out 3).trans rfl; have hcz62_4 : wc.cell? ⟨gb110, 4, none⟩ = some (.int .u64 a0_4) := (blk_cell BK110.out 4).trans rfl; have hcz62_5 : wc.cell? ⟨gb110, 5, none⟩ = some (.int .u64 a0_5) := (blk_cell BK110.out 5).trans rfl; have hfz62_0 := blk_frozen BK110.out 0; have hfz62_1 := blk_frozen BK110.out 1; have hfz62_2 := blk_frozen BK110.out 2; have hfz62_3 := blk_frozen BK110.out 3; have hfz62_4 := blk_frozen BK110.out 4; have hfz62_5 := blk_frozen BK110.out 5) | (go_at_call 42; (with_reducible refine (cubicleref18_has.calls kj2 t111 102 true _ A51.out).mono ?_); rintro e w' ⟨rfl, ⟨nd, rfl⟩⟩) | (go_at_call 42; (with_reducible refine (cubicleref18_has.calls kj2 t111 97 false _ A53.out).mono ?_); rintro e w' ⟨rfl, ⟨nd, rfl⟩⟩) | (go_at_call 42; (with_reducible refine (cubicleref18_has.calls kj2 t111 98 true _ A60.out).mono ?_); rintro e w' ⟨rfl, ⟨nd, rfl⟩⟩))
                      go_ret
                      exact ⟨by first | rfl | (simp [errW_none, errW_some] <;> rfl) | (simp [*, errW_none, errW_some] <;> rfl), by repeat (first | (with_reducible first | exact HB.out | apply below_alloc | apply pw_below_drewN | apply below_drew1 | refine below_set ?_ GE110.out) | exact HB.out)⟩
                    · replace c61 := Bool.eq_false_iff.mpr c61
                      subst c61
                      have H1 : (some (a0_5 == 0)) = some r := by rw [if_neg (show ¬ (false = true) by decide)] at H; exact H
                      clear H
                      have H := H1
                      clear H1
                      obtain rfl := Option.some.inj H
                      go_wp2_with (first | ((with_reducible refine gate_callee (f := 42) rfl ?_); refine goesL_ (some 36) rfl rfl Try.func42 (by kernel_rfl) rfl #[.string t111, .int .u8 104] rfl (by (try simp only [List.map_toArray, List.map_cons, List.map_nil]); first | done | rfl | (simp only [List.length_drop, List.length_take]; rfl)) ?_; (with_reducible refine (cubicleref18_has.calls kj2 t111 104 true _ A19.out).mono ?_); rintro e w' ⟨rfl, ⟨nd, rfl⟩⟩; refine ⟨_, rfl, ?_⟩) | (go_at_call 42; (with_reducible refine (cubicleref18_has.calls kj2 t111 100 false _ A21.out).mono ?_); rintro e w' ⟨rfl, ⟨nd, rfl⟩⟩; have hcz63_0 : wc.cell? ⟨gb110, 0, none⟩ = some (.int .i64 a0_0) := (blk_cell BK110.out 0).trans rfl; have hcz63_1 : wc.cell? ⟨gb110, 1, none⟩ = some (.int .i64 a0_1) := (blk_cell BK110.out 1).trans rfl; have hcz63_2 : wc.cell? ⟨gb110, 2, none⟩ = some (.int .i64 a0_2) := (blk_cell BK110.out 2).trans rfl; have hcz63_3 : wc.cell? ⟨gb110, 3, none⟩ = some (.int .u64 a0_3) := (blk_cell BK110.out 3).trans rfl; have hcz63_4 : wc.cell? ⟨gb110, 4, none⟩ = some (.int .u64 a0_4) := (blk_cell BK110.out 4).trans rfl; have hcz63_5 : wc.cell? ⟨gb110, 5, none⟩ = some (.int .u64 a0_5) := (blk_cell BK110.out 5).trans rfl; have hfz63_0 := blk_frozen BK110.out 0; have hfz63_1 := blk_frozen BK110.out 1; have hfz63_2 := blk_frozen BK110.out 2; have hfz63_3 := blk_frozen BK110.out 3; have hfz63_4 := blk_frozen BK110.out 4; have hfz63_5 := blk_frozen BK110.out 5) | (go_at_call 42; (with_reducible refine (cubicleref18_has.calls kj2 t111 102 true _ A51.out).mono ?_); rintro e w' ⟨rfl, ⟨nd, rfl⟩⟩) | (go_at_call 42; (with_reducible refine (cubicleref18_has.calls kj2 t111 97 false _ A53.out).mono ?_); rintro e w' ⟨rfl, ⟨nd, rfl⟩⟩) | (go_at_call 42; (with_reducible refine (cubicleref18_has.calls kj2 t111 98 false _ A60.out).mono ?_); rintro e w' ⟨rfl, ⟨nd, rfl⟩⟩))
                      go_ret
                      exact ⟨by first | rfl | (simp [errW_none, errW_some] <;> rfl) | (simp [*, errW_none, errW_some] <;> rfl), by repeat (first | (with_reducible first | exact HB.out | apply below_alloc | apply pw_below_drewN | apply below_drew1 | refine below_set ?_ GE110.out) | exact HB.out)⟩
                  · rw [if_neg c59] at H
                    have c59b0 : (a0_4 == 0) = false := beq_eq_false_iff_ne.mpr c59
                    have c59b1 : (a0_4 != 0) = true := bne_iff_ne.mpr c59
                    obtain rfl := Option.some.inj H
                    go_wp2_with (first | ((with_reducible refine gate_callee (f := 42) rfl ?_); refine goesL_ (some 36) rfl rfl Try.func42 (by kernel_rfl) rfl #[.string t111, .int .u8 104] rfl (by (try simp only [List.map_toArray, List.map_cons, List.map_nil]); first | done | rfl | (simp only [List.length_drop, List.length_take]; rfl)) ?_; (with_reducible refine (cubicleref18_has.calls kj2 t111 104 true _ A19.out).mono ?_); rintro e w' ⟨rfl, ⟨nd, rfl⟩⟩; refine ⟨_, rfl, ?_⟩) | (go_at_call 42; (with_reducible refine (cubicleref18_has.calls kj2 t111 100 false _ A21.out).mono ?_); rintro e w' ⟨rfl, ⟨nd, rfl⟩⟩; have hcz64_0 : wc.cell? ⟨gb110, 0, none⟩ = some (.int .i64 a0_0) := (blk_cell BK110.out 0).trans rfl; have hcz64_1 : wc.cell? ⟨gb110, 1, none⟩ = some (.int .i64 a0_1) := (blk_cell BK110.out 1).trans rfl; have hcz64_2 : wc.cell? ⟨gb110, 2, none⟩ = some (.int .i64 a0_2) := (blk_cell BK110.out 2).trans rfl; have hcz64_3 : wc.cell? ⟨gb110, 3, none⟩ = some (.int .u64 a0_3) := (blk_cell BK110.out 3).trans rfl; have hcz64_4 : wc.cell? ⟨gb110, 4, none⟩ = some (.int .u64 a0_4) := (blk_cell BK110.out 4).trans rfl; have hcz64_5 : wc.cell? ⟨gb110, 5, none⟩ = some (.int .u64 a0_5) := (blk_cell BK110.out 5).trans rfl; have hfz64_0 := blk_frozen BK110.out 0; have hfz64_1 := blk_frozen BK110.out 1; have hfz64_2 := blk_frozen BK110.out 2; have hfz64_3 := blk_frozen BK110.out 3; have hfz64_4 := blk_frozen BK110.out 4; have hfz64_5 := blk_frozen BK110.out 5) | (go_at_call 42; (with_reducible refine (cubicleref18_has.calls kj2 t111 102 true _ A51.out).mono ?_); rintro e w' ⟨rfl, ⟨nd, rfl⟩⟩) | (go_at_call 42; (with_reducible refine (cubicleref18_has.calls kj2 t111 97 false _ A53.out).mono ?_); rintro e w' ⟨rfl, ⟨nd, rfl⟩⟩))
                    go_ret
                    exact ⟨by first | rfl | (simp [errW_none, errW_some] <;> rfl) | (simp [*, errW_none, errW_some] <;> rfl), by repeat (first | (with_reducible first | exact HB.out | apply below_alloc | apply pw_below_drewN | apply below_drew1 | refine below_set ?_ GE110.out) | exact HB.out)⟩
              · replace c52 := Bool.eq_false_iff.mpr c52
                subst c52
                have H1 : (if a0_2 = 0 then ((cubicleref18_has.f kj2 t111 97).bind fun t125 => (if t125 = true then ((cubicleref18_has.f kj2 t111 98).bind fun t126 => (if t126 = true then (some true) else (some (a0_5 == 0)))) else (if a0_4 = 0 then ((cubicleref18_has.f kj2 t111 98).bind fun t127 => (if t127 = true then (some true) else (some (a0_5 == 0)))) else (some false)))) else (some false)) = some r := by rw [if_neg (show ¬ (false = true) by decide)] at H; exact H
                clear H
                have H := H1
                clear H1
                by_cases c65 : a0_2 = 0
                · rw [if_pos c65] at H
                  have c65b0 : (a0_2 == 0) = true := beq_iff_eq.mpr c65
                  have c65b1 : (a0_2 != 0) = false := bne_eq_false_iff_eq.mpr c65
                  clear c65
                  replace H := Option.bind_eq_some_iff.mp H
                  obtain ⟨t125, A660, H⟩ := H
                  replace H : (if t125 = true then ((cubicleref18_has.f kj2 t111 98).bind fun t126 => (if t126 = true then (some true) else (some (a0_5 == 0)))) else (if a0_4 = 0 then ((cubicleref18_has.f kj2 t111 98).bind fun t127 => (if t127 = true then (some true) else (some (a0_5 == 0)))) else (some false))) = some r := H
                  have A66 := Aside0.mk A660
                  clear A660
                  by_cases c67 : t125 = true
                  · subst c67
                    have H1 : ((cubicleref18_has.f kj2 t111 98).bind fun t126 => (if t126 = true then (some true) else (some (a0_5 == 0)))) = some r := by rw [if_pos rfl] at H; exact H
                    clear H
                    have H := H1
                    clear H1
                    replace H := Option.bind_eq_some_iff.mp H
                    obtain ⟨t126, A680, H⟩ := H
                    replace H : (if t126 = true then (some true) else (some (a0_5 == 0))) = some r := H
                    have A68 := Aside0.mk A680
                    clear A680
                    by_cases c69 : t126 = true
                    · subst c69
                      have H1 : (some true) = some r := by rw [if_pos rfl] at H; exact H
                      clear H
                      have H := H1
                      clear H1
                      obtain rfl := Option.some.inj H
                      go_wp2_with (first | ((with_reducible refine gate_callee (f := 42) rfl ?_); refine goesL_ (some 36) rfl rfl Try.func42 (by kernel_rfl) rfl #[.string t111, .int .u8 104] rfl (by (try simp only [List.map_toArray, List.map_cons, List.map_nil]); first | done | rfl | (simp only [List.length_drop, List.length_take]; rfl)) ?_; (with_reducible refine (cubicleref18_has.calls kj2 t111 104 true _ A19.out).mono ?_); rintro e w' ⟨rfl, ⟨nd, rfl⟩⟩; refine ⟨_, rfl, ?_⟩) | (go_at_call 42; (with_reducible refine (cubicleref18_has.calls kj2 t111 100 false _ A21.out).mono ?_); rintro e w' ⟨rfl, ⟨nd, rfl⟩⟩; have hcz70_0 : wc.cell? ⟨gb110, 0, none⟩ = some (.int .i64 a0_0) := (blk_cell BK110.out 0).trans rfl; have hcz70_1 : wc.cell? ⟨gb110, 1, none⟩ = some (.int .i64 a0_1) := (blk_cell BK110.out 1).trans rfl; have hcz70_2 : wc.cell? ⟨gb110, 2, none⟩ = some (.int .i64 a0_2) := (blk_cell BK110.out 2).trans rfl; have hcz70_3 : wc.cell? ⟨gb110, 3, none⟩ = some (.int .u64 a0_3) := (blk_cell BK110.out 3).trans rfl; have hcz70_4 : wc.cell? ⟨gb110, 4, none⟩ = some (.int .u64 a0_4) := (blk_cell BK110.out 4).trans rfl; have hcz70_5 : wc.cell? ⟨gb110, 5, none⟩ = some (.int .u64 a0_5) := (blk_cell BK110.out 5).trans rfl; have hfz70_0 := blk_frozen BK110.out 0; have hfz70_1 := blk_frozen BK110.out 1; have hfz70_2 := blk_frozen BK110.out 2; have hfz70_3 := blk_frozen BK110.out 3; have hfz70_4 := blk_frozen BK110.out 4; have hfz70_5 := blk_frozen BK110.out 5) | (go_at_call 42; (with_reducible refine (cubicleref18_has.calls kj2 t111 102 false _ A51.out).mono ?_); rintro e w' ⟨rfl, ⟨nd, rfl⟩⟩) | (go_at_call 42; (with_reducible refine (cubicleref18_has.calls kj2 t111 97 true _ A66.out).mono ?_); rintro e w' ⟨rfl, ⟨nd, rfl⟩⟩) | (go_at_call 42; (with_reducible refine (cubicleref18_has.calls kj2 t111 98 true _ A68.out).mono ?_); rintro e w' ⟨rfl, ⟨nd, rfl⟩⟩))
                      go_ret
                      exact ⟨by first | rfl | (simp [errW_none, errW_some] <;> rfl) | (simp [*, errW_none, errW_some] <;> rfl), by repeat (first | (with_reducible first | exact HB.out | apply below_alloc | apply pw_below_drewN | apply below_drew1 | refine below_set ?_ GE110.out) | exact HB.out)⟩
                    · replace c69 := Bool.eq_false_iff.mpr c69
                      subst c69
                      have H1 : (some (a0_5 == 0)) = some r := by rw [if_neg (show ¬ (false = true) by decide)] at H; exact H
                      clear H
                      have H := H1
                      clear H1
                      obtain rfl := Option.some.inj H
                      go_wp2_with (first | ((with_reducible refine gate_callee (f := 42) rfl ?_); refine goesL_ (some 36) rfl rfl Try.func42 (by kernel_rfl) rfl #[.string t111, .int .u8 104] rfl (by (try simp only [List.map_toArray, List.map_cons, List.map_nil]); first | done | rfl | (simp only [List.length_drop, List.length_take]; rfl)) ?_; (with_reducible refine (cubicleref18_has.calls kj2 t111 104 true _ A19.out).mono ?_); rintro e w' ⟨rfl, ⟨nd, rfl⟩⟩; refine ⟨_, rfl, ?_⟩) | (go_at_call 42; (with_reducible refine (cubicleref18_has.calls kj2 t111 100 false _ A21.out).mono ?_); rintro e w' ⟨rfl, ⟨nd, rfl⟩⟩; have hcz71_0 : wc.cell? ⟨gb110, 0, none⟩ = some (.int .i64 a0_0) := (blk_cell BK110.out 0).trans rfl; have hcz71_1 : wc.cell? ⟨gb110, 1, none⟩ = some (.int .i64 a0_1) := (blk_cell BK110.out 1).trans rfl; have hcz71_2 : wc.cell? ⟨gb110, 2, none⟩ = some (.int .i64 a0_2) := (blk_cell BK110.out 2).trans rfl; have hcz71_3 : wc.cell? ⟨gb110, 3, none⟩ = some (.int .u64 a0_3) := (blk_cell BK110.out 3).trans rfl; have hcz71_4 : wc.cell? ⟨gb110, 4, none⟩ = some (.int .u64 a0_4) := (blk_cell BK110.out 4).trans rfl; have hcz71_5 : wc.cell? ⟨gb110, 5, none⟩ = some (.int .u64 a0_5) := (blk_cell BK110.out 5).trans rfl; have hfz71_0 := blk_frozen BK110.out 0; have hfz71_1 := blk_frozen BK110.out 1; have hfz71_2 := blk_frozen BK110.out 2; have hfz71_3 := blk_frozen BK110.out 3; have hfz71_4 := blk_frozen BK110.out 4; have hfz71_5 := blk_frozen BK110.out 5) | (go_at_call 42; (with_reducible refine (cubicleref18_has.calls kj2 t111 102 false _ A51.out).mono ?_); rintro e w' ⟨rfl, ⟨nd, rfl⟩⟩) | (go_at_call 42; (with_reducible refine (cubicleref18_has.calls kj2 t111 97 true _ A66.out).mono ?_); rintro e w' ⟨rfl, ⟨nd, rfl⟩⟩) | (go_at_call 42; (with_reducible refine (cubicleref18_has.calls kj2 t111 98 false _ A68.out).mono ?_); rintro e w' ⟨rfl, ⟨nd, rfl⟩⟩))
                      go_ret
                      exact ⟨by first | rfl | (simp [errW_none, errW_some] <;> rfl) | (simp [*, errW_none, errW_some] <;> rfl), by repeat (first | (with_reducible first | exact HB.out | apply below_alloc | apply pw_below_drewN | apply below_drew1 | refine below_set ?_ GE110.out) | exact HB.out)⟩
                  · replace c67 := Bool.eq_false_iff.mpr c67
                    subst c67
                    have H1 : (if a0_4 = 0 then ((cubicleref18_has.f kj2 t111 98).bind fun t127 => (if t127 = true then (some true) else (some (a0_5 == 0)))) else (some false)) = some r := by rw [if_neg (show ¬ (false = true) by decide)] at H; exact H
                    clear H
                    have H := H1
                    clear H1
                    by_cases c72 : a0_4 = 0
                    · rw [if_pos c72] at H
                      have c72b0 : (a0_4 == 0) = true := beq_iff_eq.mpr c72
                      have c72b1 : (a0_4 != 0) = false := bne_eq_false_iff_eq.mpr c72
                      clear c72
                      replace H := Option.bind_eq_some_iff.mp H
                      obtain ⟨t127, A730, H⟩ := H
                      replace H : (if t127 = true then (some true) else (some (a0_5 == 0))) = some r := H
                      have A73 := Aside0.mk A730
                      clear A730
                      by_cases c74 : t127 = true
                      · subst c74
                        have H1 : (some true) = some r := by rw [if_pos rfl] at H; exact H
                        clear H
                        have H := H1
                        clear H1
                        obtain rfl := Option.some.inj H
                        go_wp2_with (first | ((with_reducible refine gate_callee (f := 42) rfl ?_); refine goesL_ (some 36) rfl rfl Try.func42 (by kernel_rfl) rfl #[.string t111, .int .u8 104] rfl (by (try simp only [List.map_toArray, List.map_cons, List.map_nil]); first | done | rfl | (simp only [List.length_drop, List.length_take]; rfl)) ?_; (with_reducible refine (cubicleref18_has.calls kj2 t111 104 true _ A19.out).mono ?_); rintro e w' ⟨rfl, ⟨nd, rfl⟩⟩; refine ⟨_, rfl, ?_⟩) | (go_at_call 42; (with_reducible refine (cubicleref18_has.calls kj2 t111 100 false _ A21.out).mono ?_); rintro e w' ⟨rfl, ⟨nd, rfl⟩⟩; have hcz75_0 : wc.cell? ⟨gb110, 0, none⟩ = some (.int .i64 a0_0) := (blk_cell BK110.out 0).trans rfl; have hcz75_1 : wc.cell? ⟨gb110, 1, none⟩ = some (.int .i64 a0_1) := (blk_cell BK110.out 1).trans rfl; have hcz75_2 : wc.cell? ⟨gb110, 2, none⟩ = some (.int .i64 a0_2) := (blk_cell BK110.out 2).trans rfl; have hcz75_3 : wc.cell? ⟨gb110, 3, none⟩ = some (.int .u64 a0_3) := (blk_cell BK110.out 3).trans rfl; have hcz75_4 : wc.cell? ⟨gb110, 4, none⟩ = some (.int .u64 a0_4) := (blk_cell BK110.out 4).trans rfl; have hcz75_5 : wc.cell? ⟨gb110, 5, none⟩ = some (.int .u64 a0_5) := (blk_cell BK110.out 5).trans rfl; have hfz75_0 := blk_frozen BK110.out 0; have hfz75_1 := blk_frozen BK110.out 1; have hfz75_2 := blk_frozen BK110.out 2; have hfz75_3 := blk_frozen BK110.out 3; have hfz75_4 := blk_frozen BK110.out 4; have hfz75_5 := blk_frozen BK110.out 5) | (go_at_call 42; (with_reducible refine (cubicleref18_has.calls kj2 t111 102 false _ A51.out).mono ?_); rintro e w' ⟨rfl, ⟨nd, rfl⟩⟩) | (go_at_call 42; (with_reducible refine (cubicleref18_has.calls kj2 t111 97 false _ A66.out).mono ?_); rintro e w' ⟨rfl, ⟨nd, rfl⟩⟩) | (go_at_call 42; (with_reducible refine (cubicleref18_has.calls kj2 t111 98 true _ A73.out).mono ?_); rintro e w' ⟨rfl, ⟨nd, rfl⟩⟩))
                        go_ret
                        exact ⟨by first | rfl | (simp [errW_none, errW_some] <;> rfl) | (simp [*, errW_none, errW_some] <;> rfl), by repeat (first | (with_reducible first | exact HB.out | apply below_alloc | apply pw_below_drewN | apply below_drew1 | refine below_set ?_ GE110.out) | exact HB.out)⟩
                      · replace c74 := Bool.eq_false_iff.mpr c74
                        subst c74
                        have H1 : (some (a0_5 == 0)) = some r := by rw [if_neg (show ¬ (false = true) by decide)] at H; exact H
                        clear H
                        have H := H1
                        clear H1
                        obtain rfl := Option.some.inj H
                        go_wp2_with (first | ((with_reducible refine gate_callee (f := 42) rfl ?_); refine goesL_ (some 36) rfl rfl Try.func42 (by kernel_rfl) rfl #[.string t111, .int .u8 104] rfl (by (try simp only [List.map_toArray, List.map_cons, List.map_nil]); first | done | rfl | (simp only [List.length_drop, List.length_take]; rfl)) ?_; (with_reducible refine (cubicleref18_has.calls kj2 t111 104 true _ A19.out).mono ?_); rintro e w' ⟨rfl, ⟨nd, rfl⟩⟩; refine ⟨_, rfl, ?_⟩) | (go_at_call 42; (with_reducible refine (cubicleref18_has.calls kj2 t111 100 false _ A21.out).mono ?_); rintro e w' ⟨rfl, ⟨nd, rfl⟩⟩; have hcz76_0 : wc.cell? ⟨gb110, 0, none⟩ = some (.int .i64 a0_0) := (blk_cell BK110.out 0).trans rfl; have hcz76_1 : wc.cell? ⟨gb110, 1, none⟩ = some (.int .i64 a0_1) := (blk_cell BK110.out 1).trans rfl; have hcz76_2 : wc.cell? ⟨gb110, 2, none⟩ = some (.int .i64 a0_2) := (blk_cell BK110.out 2).trans rfl; have hcz76_3 : wc.cell? ⟨gb110, 3, none⟩ = some (.int .u64 a0_3) := (blk_cell BK110.out 3).trans rfl; have hcz76_4 : wc.cell? ⟨gb110, 4, none⟩ = some (.int .u64 a0_4) := (blk_cell BK110.out 4).trans rfl; have hcz76_5 : wc.cell? ⟨gb110, 5, none⟩ = some (.int .u64 a0_5) := (blk_cell BK110.out 5).trans rfl; have hfz76_0 := blk_frozen BK110.out 0; have hfz76_1 := blk_frozen BK110.out 1; have hfz76_2 := blk_frozen BK110.out 2; have hfz76_3 := blk_frozen BK110.out 3; have hfz76_4 := blk_frozen BK110.out 4; have hfz76_5 := blk_frozen BK110.out 5) | (go_at_call 42; (with_reducible refine (cubicleref18_has.calls kj2 t111 102 false _ A51.out).mono ?_); rintro e w' ⟨rfl, ⟨nd, rfl⟩⟩) | (go_at_call 42; (with_reducible refine (cubicleref18_has.calls kj2 t111 97 false _ A66.out).mono ?_); rintro e w' ⟨rfl, ⟨nd, rfl⟩⟩) | (go_at_call 42; (with_reducible refine (cubicleref18_has.calls kj2 t111 98 false _ A73.out).mono ?_); rintro e w' ⟨rfl, ⟨nd, rfl⟩⟩))
                        go_ret
                        exact ⟨by first | rfl | (simp [errW_none, errW_some] <;> rfl) | (simp [*, errW_none, errW_some] <;> rfl), by repeat (first | (with_reducible first | exact HB.out | apply below_alloc | apply pw_below_drewN | apply below_drew1 | refine below_set ?_ GE110.out) | exact HB.out)⟩
                    · rw [if_neg c72] at H
                      have c72b0 : (a0_4 == 0) = false := beq_eq_false_iff_ne.mpr c72
                      have c72b1 : (a0_4 != 0) = true := bne_iff_ne.mpr c72
                      obtain rfl := Option.some.inj H
                      go_wp2_with (first | ((with_reducible refine gate_callee (f := 42) rfl ?_); refine goesL_ (some 36) rfl rfl Try.func42 (by kernel_rfl) rfl #[.string t111, .int .u8 104] rfl (by (try simp only [List.map_toArray, List.map_cons, List.map_nil]); first | done | rfl | (simp only [List.length_drop, List.length_take]; rfl)) ?_; (with_reducible refine (cubicleref18_has.calls kj2 t111 104 true _ A19.out).mono ?_); rintro e w' ⟨rfl, ⟨nd, rfl⟩⟩; refine ⟨_, rfl, ?_⟩) | (go_at_call 42; (with_reducible refine (cubicleref18_has.calls kj2 t111 100 false _ A21.out).mono ?_); rintro e w' ⟨rfl, ⟨nd, rfl⟩⟩; have hcz77_0 : wc.cell? ⟨gb110, 0, none⟩ = some (.int .i64 a0_0) := (blk_cell BK110.out 0).trans rfl; have hcz77_1 : wc.cell? ⟨gb110, 1, none⟩ = some (.int .i64 a0_1) := (blk_cell BK110.out 1).trans rfl; have hcz77_2 : wc.cell? ⟨gb110, 2, none⟩ = some (.int .i64 a0_2) := (blk_cell BK110.out 2).trans rfl; have hcz77_3 : wc.cell? ⟨gb110, 3, none⟩ = some (.int .u64 a0_3) := (blk_cell BK110.out 3).trans rfl; have hcz77_4 : wc.cell? ⟨gb110, 4, none⟩ = some (.int .u64 a0_4) := (blk_cell BK110.out 4).trans rfl; have hcz77_5 : wc.cell? ⟨gb110, 5, none⟩ = some (.int .u64 a0_5) := (blk_cell BK110.out 5).trans rfl; have hfz77_0 := blk_frozen BK110.out 0; have hfz77_1 := blk_frozen BK110.out 1; have hfz77_2 := blk_frozen BK110.out 2; have hfz77_3 := blk_frozen BK110.out 3; have hfz77_4 := blk_frozen BK110.out 4; have hfz77_5 := blk_frozen BK110.out 5) | (go_at_call 42; (with_reducible refine (cubicleref18_has.calls kj2 t111 102 false _ A51.out).mono ?_); rintro e w' ⟨rfl, ⟨nd, rfl⟩⟩) | (go_at_call 42; (with_reducible refine (cubicleref18_has.calls kj2 t111 97 false _ A66.out).mono ?_); rintro e w' ⟨rfl, ⟨nd, rfl⟩⟩))
                      go_ret
                      exact ⟨by first | rfl | (simp [errW_none, errW_some] <;> rfl) | (simp [*, errW_none, errW_some] <;> rfl), by repeat (first | (with_reducible first | exact HB.out | apply below_alloc | apply pw_below_drewN | apply below_drew1 | refine below_set ?_ GE110.out) | exact HB.out)⟩
                · rw [if_neg c65] at H
                  have c65b0 : (a0_2 == 0) = false := beq_eq_false_iff_ne.mpr c65
                  have c65b1 : (a0_2 != 0) = true := bne_iff_ne.mpr c65
                  obtain rfl := Option.some.inj H
                  go_wp2_with (first | ((with_reducible refine gate_callee (f := 42) rfl ?_); refine goesL_ (some 36) rfl rfl Try.func42 (by kernel_rfl) rfl #[.string t111, .int .u8 104] rfl (by (try simp only [List.map_toArray, List.map_cons, List.map_nil]); first | done | rfl | (simp only [List.length_drop, List.length_take]; rfl)) ?_; (with_reducible refine (cubicleref18_has.calls kj2 t111 104 true _ A19.out).mono ?_); rintro e w' ⟨rfl, ⟨nd, rfl⟩⟩; refine ⟨_, rfl, ?_⟩) | (go_at_call 42; (with_reducible refine (cubicleref18_has.calls kj2 t111 100 false _ A21.out).mono ?_); rintro e w' ⟨rfl, ⟨nd, rfl⟩⟩; have hcz78_0 : wc.cell? ⟨gb110, 0, none⟩ = some (.int .i64 a0_0) := (blk_cell BK110.out 0).trans rfl; have hcz78_1 : wc.cell? ⟨gb110, 1, none⟩ = some (.int .i64 a0_1) := (blk_cell BK110.out 1).trans rfl; have hcz78_2 : wc.cell? ⟨gb110, 2, none⟩ = some (.int .i64 a0_2) := (blk_cell BK110.out 2).trans rfl; have hcz78_3 : wc.cell? ⟨gb110, 3, none⟩ = some (.int .u64 a0_3) := (blk_cell BK110.out 3).trans rfl; have hcz78_4 : wc.cell? ⟨gb110, 4, none⟩ = some (.int .u64 a0_4) := (blk_cell BK110.out 4).trans rfl; have hcz78_5 : wc.cell? ⟨gb110, 5, none⟩ = some (.int .u64 a0_5) := (blk_cell BK110.out 5).trans rfl; have hfz78_0 := blk_frozen BK110.out 0; have hfz78_1 := blk_frozen BK110.out 1; have hfz78_2 := blk_frozen BK110.out 2; have hfz78_3 := blk_frozen BK110.out 3; have hfz78_4 := blk_frozen BK110.out 4; have hfz78_5 := blk_frozen BK110.out 5) | (go_at_call 42; (with_reducible refine (cubicleref18_has.calls kj2 t111 102 false _ A51.out).mono ?_); rintro e w' ⟨rfl, ⟨nd, rfl⟩⟩))
                  go_ret
                  exact ⟨by first | rfl | (simp [errW_none, errW_some] <;> rfl) | (simp [*, errW_none, errW_some] <;> rfl), by repeat (first | (with_reducible first | exact HB.out | apply below_alloc | apply pw_below_drewN | apply below_drew1 | refine below_set ?_ GE110.out) | exact HB.out)⟩
            · rw [if_neg c50] at H
              have c50b0 : (a0_1 == 0) = false := beq_eq_false_iff_ne.mpr c50
              have c50b1 : (a0_1 != 0) = true := bne_iff_ne.mpr c50
              obtain rfl := Option.some.inj H
              go_wp2_with (first | ((with_reducible refine gate_callee (f := 42) rfl ?_); refine goesL_ (some 36) rfl rfl Try.func42 (by kernel_rfl) rfl #[.string t111, .int .u8 104] rfl (by (try simp only [List.map_toArray, List.map_cons, List.map_nil]); first | done | rfl | (simp only [List.length_drop, List.length_take]; rfl)) ?_; (with_reducible refine (cubicleref18_has.calls kj2 t111 104 true _ A19.out).mono ?_); rintro e w' ⟨rfl, ⟨nd, rfl⟩⟩; refine ⟨_, rfl, ?_⟩) | (go_at_call 42; (with_reducible refine (cubicleref18_has.calls kj2 t111 100 false _ A21.out).mono ?_); rintro e w' ⟨rfl, ⟨nd, rfl⟩⟩; have hcz79_0 : wc.cell? ⟨gb110, 0, none⟩ = some (.int .i64 a0_0) := (blk_cell BK110.out 0).trans rfl; have hcz79_1 : wc.cell? ⟨gb110, 1, none⟩ = some (.int .i64 a0_1) := (blk_cell BK110.out 1).trans rfl; have hcz79_2 : wc.cell? ⟨gb110, 2, none⟩ = some (.int .i64 a0_2) := (blk_cell BK110.out 2).trans rfl; have hcz79_3 : wc.cell? ⟨gb110, 3, none⟩ = some (.int .u64 a0_3) := (blk_cell BK110.out 3).trans rfl; have hcz79_4 : wc.cell? ⟨gb110, 4, none⟩ = some (.int .u64 a0_4) := (blk_cell BK110.out 4).trans rfl; have hcz79_5 : wc.cell? ⟨gb110, 5, none⟩ = some (.int .u64 a0_5) := (blk_cell BK110.out 5).trans rfl; have hfz79_0 := blk_frozen BK110.out 0; have hfz79_1 := blk_frozen BK110.out 1; have hfz79_2 := blk_frozen BK110.out 2; have hfz79_3 := blk_frozen BK110.out 3; have hfz79_4 := blk_frozen BK110.out 4; have hfz79_5 := blk_frozen BK110.out 5))
              go_ret
              exact ⟨by first | rfl | (simp [errW_none, errW_some] <;> rfl) | (simp [*, errW_none, errW_some] <;> rfl), by repeat (first | (with_reducible first | exact HB.out | apply below_alloc | apply pw_below_drewN | apply below_drew1 | refine below_set ?_ GE110.out) | exact HB.out)⟩
        · replace c20 := Bool.eq_false_iff.mpr c20
          subst c20
          have H1 : (if a0_3 = 0 then ((cubicleref18_has.f kj2 t111 100).bind fun t128 => (if t128 = true then ((cubicleref18_has.f kj2 t111 102).bind fun t129 => (if t129 = true then ((cubicleref18_has.f kj2 t111 97).bind fun t130 => (if t130 = true then ((cubicleref18_has.f kj2 t111 98).bind fun t131 => (if t131 = true then (some true) else (some (a0_5 == 0)))) else (if a0_4 = 0 then ((cubicleref18_has.f kj2 t111 98).bind fun t132 => (if t132 = true then (some true) else (some (a0_5 == 0)))) else (some false)))) else (if a0_2 = 0 then ((cubicleref18_has.f kj2 t111 97).bind fun t133 => (if t133 = true then ((cubicleref18_has.f kj2 t111 98).bind fun t134 => (if t134 = true then (some true) else (some (a0_5 == 0)))) else (if a0_4 = 0 then ((cubicleref18_has.f kj2 t111 98).bind fun t135 => (if t135 = true then (some true) else (some (a0_5 == 0)))) else (some false)))) else (some false)))) else (if a0_1 = 0 then ((cubicleref18_has.f kj2 t111 102).bind fun t136 => (if t136 = true then ((cubicleref18_has.f kj2 t111 97).bind fun t137 => (if t137 = true then ((cubicleref18_has.f kj2 t111 98).bind fun t138 => (if t138 = true then (some true) else (some (a0_5 == 0)))) else (if a0_4 = 0 then ((cubicleref18_has.f kj2 t111 98).bind fun t139 => (if t139 = true then (some true) else (some (a0_5 == 0)))) else (some false)))) else (if a0_2 = 0 then ((cubicleref18_has.f kj2 t111 97).bind fun t140 => (if t140 = true then ((cubicleref18_has.f kj2 t111 98).bind fun t141 => (if t141 = true then (some true) else (some (a0_5 == 0)))) else (if a0_4 = 0 then ((cubicleref18_has.f kj2 t111 98).bind fun t142 => (if t142 = true then (some true) else (some (a0_5 == 0)))) else (some false)))) else (some false)))) else (some false)))) else (some false)) = some r := by rw [if_neg (show ¬ (false = true) by decide)] at H; exact H
          clear H
          have H := H1
          clear H1
          by_cases c80 : a0_3 = 0
          · rw [if_pos c80] at H
            have c80b0 : (a0_3 == 0) = true := beq_iff_eq.mpr c80
            have c80b1 : (a0_3 != 0) = false := bne_eq_false_iff_eq.mpr c80
            clear c80
            replace H := Option.bind_eq_some_iff.mp H
            obtain ⟨t128, A810, H⟩ := H
            replace H : (if t128 = true then ((cubicleref18_has.f kj2 t111 102).bind fun t129 => (if t129 = true then ((cubicleref18_has.f kj2 t111 97).bind fun t130 => (if t130 = true then ((cubicleref18_has.f kj2 t111 98).bind fun t131 => (if t131 = true then (some true) else (some (a0_5 == 0)))) else (if a0_4 = 0 then ((cubicleref18_has.f kj2 t111 98).bind fun t132 => (if t132 = true then (some true) else (some (a0_5 == 0)))) else (some false)))) else (if a0_2 = 0 then ((cubicleref18_has.f kj2 t111 97).bind fun t133 => (if t133 = true then ((cubicleref18_has.f kj2 t111 98).bind fun t134 => (if t134 = true then (some true) else (some (a0_5 == 0)))) else (if a0_4 = 0 then ((cubicleref18_has.f kj2 t111 98).bind fun t135 => (if t135 = true then (some true) else (some (a0_5 == 0)))) else (some false)))) else (some false)))) else (if a0_1 = 0 then ((cubicleref18_has.f kj2 t111 102).bind fun t136 => (if t136 = true then ((cubicleref18_has.f kj2 t111 97).bind fun t137 => (if t137 = true then ((cubicleref18_has.f kj2 t111 98).bind fun t138 => (if t138 = true then (some true) else (some (a0_5 == 0)))) else (if a0_4 = 0 then ((cubicleref18_has.f kj2 t111 98).bind fun t139 => (if t139 = true then (some true) else (some (a0_5 == 0)))) else (some false)))) else (if a0_2 = 0 then ((cubicleref18_has.f kj2 t111 97).bind fun t140 => (if t140 = true then ((cubicleref18_has.f kj2 t111 98).bind fun t141 => (if t141 = true then (some true) else (some (a0_5 == 0)))) else (if a0_4 = 0 then ((cubicleref18_has.f kj2 t111 98).bind fun t142 => (if t142 = true then (some true) else (some (a0_5 == 0)))) else (some false)))) else (some false)))) else (some false))) = some r := H
            have A81 := Aside0.mk A810
            clear A810
            by_cases c82 : t128 = true
            · subst c82
              have H1 : ((cubicleref18_has.f kj2 t111 102).bind fun t129 => (if t129 = true then ((cubicleref18_has.f kj2 t111 97).bind fun t130 => (if t130 = true then ((cubicleref18_has.f kj2 t111 98).bind fun t131 => (if t131 = true then (some true) else (some (a0_5 == 0)))) else (if a0_4 = 0 then ((cubicleref18_has.f kj2 t111 98).bind fun t132 => (if t132 = true then (some true) else (some (a0_5 == 0)))) else (some false)))) else (if a0_2 = 0 then ((cubicleref18_has.f kj2 t111 97).bind fun t133 => (if t133 = true then ((cubicleref18_has.f kj2 t111 98).bind fun t134 => (if t134 = true then (some true) else (some (a0_5 == 0)))) else (if a0_4 = 0 then ((cubicleref18_has.f kj2 t111 98).bind fun t135 => (if t135 = true then (some true) else (some (a0_5 == 0)))) else (some false)))) else (some false)))) = some r := by rw [if_pos rfl] at H; exact H
              clear H
              have H := H1
              clear H1
              replace H := Option.bind_eq_some_iff.mp H
              obtain ⟨t129, A830, H⟩ := H
              replace H : (if t129 = true then ((cubicleref18_has.f kj2 t111 97).bind fun t130 => (if t130 = true then ((cubicleref18_has.f kj2 t111 98).bind fun t131 => (if t131 = true then (some true) else (some (a0_5 == 0)))) else (if a0_4 = 0 then ((cubicleref18_has.f kj2 t111 98).bind fun t132 => (if t132 = true then (some true) else (some (a0_5 == 0)))) else (some false)))) else (if a0_2 = 0 then ((cubicleref18_has.f kj2 t111 97).bind fun t133 => (if t133 = true then ((cubicleref18_has.f kj2 t111 98).bind fun t134 => (if t134 = true then (some true) else (some (a0_5 == 0)))) else (if a0_4 = 0 then ((cubicleref18_has.f kj2 t111 98).bind fun t135 => (if t135 = true then (some true) else (some (a0_5 == 0)))) else (some false)))) else (some false))) = some r := H
              have A83 := Aside0.mk A830
              clear A830
              by_cases c84 : t129 = true
              · subst c84
                have H1 : ((cubicleref18_has.f kj2 t111 97).bind fun t130 => (if t130 = true then ((cubicleref18_has.f kj2 t111 98).bind fun t131 => (if t131 = true then (some true) else (some (a0_5 == 0)))) else (if a0_4 = 0 then ((cubicleref18_has.f kj2 t111 98).bind fun t132 => (if t132 = true then (some true) else (some (a0_5 == 0)))) else (some false)))) = some r := by rw [if_pos rfl] at H; exact H
                clear H
                have H := H1
                clear H1
                replace H := Option.bind_eq_some_iff.mp H
                obtain ⟨t130, A850, H⟩ := H
                replace H : (if t130 = true then ((cubicleref18_has.f kj2 t111 98).bind fun t131 => (if t131 = true then (some true) else (some (a0_5 == 0)))) else (if a0_4 = 0 then ((cubicleref18_has.f kj2 t111 98).bind fun t132 => (if t132 = true then (some true) else (some (a0_5 == 0)))) else (some false))) = some r := H
                have A85 := Aside0.mk A850
                clear A850
                by_cases c86 : t130 = true
                · subst c86
                  have H1 : ((cubicleref18_has.f kj2 t111 98).bind fun t131 => (if t131 = true then (some true) else (some (a0_5 == 0)))) = some r := by rw [if_pos rfl] at H; exact H
                  clear H
                  have H := H1
                  clear H1
                  replace H := Option.bind_eq_some_iff.mp H
                  obtain ⟨t131, A870, H⟩ := H
                  replace H : (if t131 = true then (some true) else (some (a0_5 == 0))) = some r := H
                  have A87 := Aside0.mk A870
                  clear A870
                  by_cases c88 : t131 = true
                  · subst c88
                    have H1 : (some true) = some r := by rw [if_pos rfl] at H; exact H
                    clear H
                    have H := H1
                    clear H1
                    obtain rfl := Option.some.inj H
                    go_wp2_with (first | ((with_reducible refine gate_callee (f := 42) rfl ?_); refine goesL_ (some 36) rfl rfl Try.func42 (by kernel_rfl) rfl #[.string t111, .int .u8 104] rfl (by (try simp only [List.map_toArray, List.map_cons, List.map_nil]); first | done | rfl | (simp only [List.length_drop, List.length_take]; rfl)) ?_; (with_reducible refine (cubicleref18_has.calls kj2 t111 104 false _ A19.out).mono ?_); rintro e w' ⟨rfl, ⟨nd, rfl⟩⟩; refine ⟨_, rfl, ?_⟩; have hcz89_0 : wc.cell? ⟨gb110, 0, none⟩ = some (.int .i64 a0_0) := (blk_cell BK110.out 0).trans rfl; have hcz89_1 : wc.cell? ⟨gb110, 1, none⟩ = some (.int .i64 a0_1) := (blk_cell BK110.out 1).trans rfl; have hcz89_2 : wc.cell? ⟨gb110, 2, none⟩ = some (.int .i64 a0_2) := (blk_cell BK110.out 2).trans rfl; have hcz89_3 : wc.cell? ⟨gb110, 3, none⟩ = some (.int .u64 a0_3) := (blk_cell BK110.out 3).trans rfl; have hcz89_4 : wc.cell? ⟨gb110, 4, none⟩ = some (.int .u64 a0_4) := (blk_cell BK110.out 4).trans rfl; have hcz89_5 : wc.cell? ⟨gb110, 5, none⟩ = some (.int .u64 a0_5) := (blk_cell BK110.out 5).trans rfl; have hfz89_0 := blk_frozen BK110.out 0; have hfz89_1 := blk_frozen BK110.out 1; have hfz89_2 := blk_frozen BK110.out 2; have hfz89_3 := blk_frozen BK110.out 3; have hfz89_4 := blk_frozen BK110.out 4; have hfz89_5 := blk_frozen BK110.out 5) | (go_at_call 42; (with_reducible refine (cubicleref18_has.calls kj2 t111 100 true _ A81.out).mono ?_); rintro e w' ⟨rfl, ⟨nd, rfl⟩⟩) | (go_at_call 42; (with_reducible refine (cubicleref18_has.calls kj2 t111 102 true _ A83.out).mono ?_); rintro e w' ⟨rfl, ⟨nd, rfl⟩⟩) | (go_at_call 42; (with_reducible refine (cubicleref18_has.calls kj2 t111 97 true _ A85.out).mono ?_); rintro e w' ⟨rfl, ⟨nd, rfl⟩⟩) | (go_at_call 42; (with_reducible refine (cubicleref18_has.calls kj2 t111 98 true _ A87.out).mono ?_); rintro e w' ⟨rfl, ⟨nd, rfl⟩⟩))
                    go_ret
                    exact ⟨by first | rfl | (simp [errW_none, errW_some] <;> rfl) | (simp [*, errW_none, errW_some] <;> rfl), by repeat (first | (with_reducible first | exact HB.out | apply below_alloc | apply pw_below_drewN | apply below_drew1 | refine below_set ?_ GE110.out) | exact HB.out)⟩
                  · replace c88 := Bool.eq_false_iff.mpr c88
                    subst c88
                    have H1 : (some (a0_5 == 0)) = some r := by rw [if_neg (show ¬ (false = true) by decide)] at H; exact H
                    clear H
                    have H := H1
                    clear H1
                    obtain rfl := Option.some.inj H
                    go_wp2_with (first | ((with_reducible refine gate_callee (f := 42) rfl ?_); refine goesL_ (some 36) rfl rfl Try.func42 (by kernel_rfl) rfl #[.string t111, .int .u8 104] rfl (by (try simp only [List.map_toArray, List.map_cons, List.map_nil]); first | done | rfl | (simp only [List.length_drop, List.length_take]; rfl)) ?_; (with_reducible refine (cubicleref18_has.calls kj2 t111 104 false _ A19.out).mono ?_); rintro e w' ⟨rfl, ⟨nd, rfl⟩⟩; refine ⟨_, rfl, ?_⟩; have hcz90_0 : wc.cell? ⟨gb110, 0, none⟩ = some (.int .i64 a0_0) := (blk_cell BK110.out 0).trans rfl; have hcz90_1 : wc.cell? ⟨gb110, 1, none⟩ = some (.int .i64 a0_1) := (blk_cell BK110.out 1).trans rfl; have hcz90_2 : wc.cell? ⟨gb110, 2, none⟩ = some (.int .i64 a0_2) := (blk_cell BK110.out 2).trans rfl; have hcz90_3 : wc.cell? ⟨gb110, 3, none⟩ = some (.int .u64 a0_3) := (blk_cell BK110.out 3).trans rfl; have hcz90_4 : wc.cell? ⟨gb110, 4, none⟩ = some (.int .u64 a0_4) := (blk_cell BK110.out 4).trans rfl; have hcz90_5 : wc.cell? ⟨gb110, 5, none⟩ = some (.int .u64 a0_5) := (blk_cell BK110.out 5).trans rfl; have hfz90_0 := blk_frozen BK110.out 0; have hfz90_1 := blk_frozen BK110.out 1; have hfz90_2 := blk_frozen BK110.out 2; have hfz90_3 := blk_frozen BK110.out 3; have hfz90_4 := blk_frozen BK110.out 4; have hfz90_5 := blk_frozen BK110.out 5) | (go_at_call 42; (with_reducible refine (cubicleref18_has.calls kj2 t111 100 true _ A81.out).mono ?_); rintro e w' ⟨rfl, ⟨nd, rfl⟩⟩) | (go_at_call 42; (with_reducible refine (cubicleref18_has.calls kj2 t111 102 true _ A83.out).mono ?_); rintro e w' ⟨rfl, ⟨nd, rfl⟩⟩) | (go_at_call 42; (with_reducible refine (cubicleref18_has.calls kj2 t111 97 true _ A85.out).mono ?_); rintro e w' ⟨rfl, ⟨nd, rfl⟩⟩) | (go_at_call 42; (with_reducible refine (cubicleref18_has.calls kj2 t111 98 false _ A87.out).mono ?_); rintro e w' ⟨rfl, ⟨nd, rfl⟩⟩))
                    go_ret
                    exact ⟨by first | rfl | (simp [errW_none, errW_some] <;> rfl) | (simp [*, errW_none, errW_some] <;> rfl), by repeat (first | (with_reducible first | exact HB.out | apply below_alloc | apply pw_below_drewN | apply below_drew1 | refine below_set ?_ GE110.out) | exact HB.out)⟩
                · replace c86 := Bool.eq_false_iff.mpr c86
                  subst c86
                  have H1 : (if a0_4 = 0 then ((cubicleref18_has.f kj2 t111 98).bind fun t132 => (if t132 = true then (some true) else (some (a0_5 == 0)))) else (some false)) = some r := by rw [if_neg (show ¬ (false = true) by decide)] at H; exact H
                  clear H
                  have H := H1
                  clear H1
                  by_cases c91 : a0_4 = 0
                  · rw [if_pos c91] at H
                    have c91b0 : (a0_4 == 0) = true := beq_iff_eq.mpr c91
                    have c91b1 : (a0_4 != 0) = false := bne_eq_false_iff_eq.mpr c91
                    clear c91
                    replace H := Option.bind_eq_some_iff.mp H
                    obtain ⟨t132, A920, H⟩ := H
                    replace H : (if t132 = true then (some true) else (some (a0_5 == 0))) = some r := H
                    have A92 := Aside0.mk A920
                    clear A920
                    by_cases c93 : t132 = true
                    · subst c93
                      have H1 : (some true) = some r := by rw [if_pos rfl] at H; exact H
                      clear H
                      have H := H1
                      clear H1
                      obtain rfl := Option.some.inj H
                      go_wp2_with (first | ((with_reducible refine gate_callee (f := 42) rfl ?_); refine goesL_ (some 36) rfl rfl Try.func42 (by kernel_rfl) rfl #[.string t111, .int .u8 104] rfl (by (try simp only [List.map_toArray, List.map_cons, List.map_nil]); first | done | rfl | (simp only [List.length_drop, List.length_take]; rfl)) ?_; (with_reducible refine (cubicleref18_has.calls kj2 t111 104 false _ A19.out).mono ?_); rintro e w' ⟨rfl, ⟨nd, rfl⟩⟩; refine ⟨_, rfl, ?_⟩; have hcz94_0 : wc.cell? ⟨gb110, 0, none⟩ = some (.int .i64 a0_0) := (blk_cell BK110.out 0).trans rfl; have hcz94_1 : wc.cell? ⟨gb110, 1, none⟩ = some (.int .i64 a0_1) := (blk_cell BK110.out 1).trans rfl; have hcz94_2 : wc.cell? ⟨gb110, 2, none⟩ = some (.int .i64 a0_2) := (blk_cell BK110.out 2).trans rfl; have hcz94_3 : wc.cell? ⟨gb110, 3, none⟩ = some (.int .u64 a0_3) := (blk_cell BK110.out 3).trans rfl; have hcz94_4 : wc.cell? ⟨gb110, 4, none⟩ = some (.int .u64 a0_4) := (blk_cell BK110.out 4).trans rfl; have hcz94_5 : wc.cell? ⟨gb110, 5, none⟩ = some (.int .u64 a0_5) := (blk_cell BK110.out 5).trans rfl; have hfz94_0 := blk_frozen BK110.out 0; have hfz94_1 := blk_frozen BK110.out 1; have hfz94_2 := blk_frozen BK110.out 2; have hfz94_3 := blk_frozen BK110.out 3; have hfz94_4 := blk_frozen BK110.out 4; have hfz94_5 := blk_frozen BK110.out 5) | (go_at_call 42; (with_reducible refine (cubicleref18_has.calls kj2 t111 100 true _ A81.out).mono ?_); rintro e w' ⟨rfl, ⟨nd, rfl⟩⟩) | (go_at_call 42; (with_reducible refine (cubicleref18_has.calls kj2 t111 102 true _ A83.out).mono ?_); rintro e w' ⟨rfl, ⟨nd, rfl⟩⟩) | (go_at_call 42; (with_reducible refine (cubicleref18_has.calls kj2 t111 97 false _ A85.out).mono ?_); rintro e w' ⟨rfl, ⟨nd, rfl⟩⟩) | (go_at_call 42; (with_reducible refine (cubicleref18_has.calls kj2 t111 98 true _ A92.out).mono ?_); rintro e w' ⟨rfl, ⟨nd, rfl⟩⟩))
                      go_ret
                      exact ⟨by first | rfl | (simp [errW_none, errW_some] <;> rfl) | (simp [*, errW_none, errW_some] <;> rfl), by repeat (first | (with_reducible first | exact HB.out | apply below_alloc | apply pw_below_drewN | apply below_drew1 | refine below_set ?_ GE110.out) | exact HB.out)⟩
                    · replace c93 := Bool.eq_false_iff.mpr c93
                      subst c93
                      have H1 : (some (a0_5 == 0)) = some r := by rw [if_neg (show ¬ (false = true) by decide)] at H; exact H
                      clear H
                      have H := H1
                      clear H1
                      obtain rfl := Option.some.inj H
                      go_wp2_with (first | ((with_reducible refine gate_callee (f := 42) rfl ?_); refine goesL_ (some 36) rfl rfl Try.func42 (by kernel_rfl) rfl #[.string t111, .int .u8 104] rfl (by (try simp only [List.map_toArray, List.map_cons, List.map_nil]); first | done | rfl | (simp only [List.length_drop, List.length_take]; rfl)) ?_; (with_reducible refine (cubicleref18_has.calls kj2 t111 104 false _ A19.out).mono ?_); rintro e w' ⟨rfl, ⟨nd, rfl⟩⟩; refine ⟨_, rfl, ?_⟩; have hcz95_0 : wc.cell? ⟨gb110, 0, none⟩ = some (.int .i64 a0_0) := (blk_cell BK110.out 0).trans rfl; have hcz95_1 : wc.cell? ⟨gb110, 1, none⟩ = some (.int .i64 a0_1) := (blk_cell BK110.out 1).trans rfl; have hcz95_2 : wc.cell? ⟨gb110, 2, none⟩ = some (.int .i64 a0_2) := (blk_cell BK110.out 2).trans rfl; have hcz95_3 : wc.cell? ⟨gb110, 3, none⟩ = some (.int .u64 a0_3) := (blk_cell BK110.out 3).trans rfl; have hcz95_4 : wc.cell? ⟨gb110, 4, none⟩ = some (.int .u64 a0_4) := (blk_cell BK110.out 4).trans rfl; have hcz95_5 : wc.cell? ⟨gb110, 5, none⟩ = some (.int .u64 a0_5) := (blk_cell BK110.out 5).trans rfl; have hfz95_0 := blk_frozen BK110.out 0; have hfz95_1 := blk_frozen BK110.out 1; have hfz95_2 := blk_frozen BK110.out 2; have hfz95_3 := blk_frozen BK110.out 3; have hfz95_4 := blk_frozen BK110.out 4; have hfz95_5 := blk_frozen BK110.out 5) | (go_at_call 42; (with_reducible refine (cubicleref18_has.calls kj2 t111 100 true _ A81.out).mono ?_); rintro e w' ⟨rfl, ⟨nd, rfl⟩⟩) | (go_at_call 42; (with_reducible refine (cubicleref18_has.calls kj2 t111 102 true _ A83.out).mono ?_); rintro e w' ⟨rfl, ⟨nd, rfl⟩⟩) | (go_at_call 42; (with_reducible refine (cubicleref18_has.calls kj2 t111 97 false _ A85.out).mono ?_); rintro e w' ⟨rfl, ⟨nd, rfl⟩⟩) | (go_at_call 42; (with_reducible refine (cubicleref18_has.calls kj2 t111 98 false _ A92.out).mono ?_); rintro e w' ⟨rfl, ⟨nd, rfl⟩⟩))
                      go_ret
                      exact ⟨by first | rfl | (simp [errW_none, errW_some] <;> rfl) | (simp [*, errW_none, errW_some] <;> rfl), by repeat (first | (with_reducible first | exact HB.out | apply below_alloc | apply pw_below_drewN | apply below_drew1 | refine below_set ?_ GE110.out) | exact HB.out)⟩
                  · rw [if_neg c91] at H
                    have c91b0 : (a0_4 == 0) = false := beq_eq_false_iff_ne.mpr c91
                    have c91b1 : (a0_4 != 0) = true := bne_iff_ne.mpr c91
                    obtain rfl := Option.some.inj H
                    go_wp2_with (first | ((with_reducible refine gate_callee (f := 42) rfl ?_); refine goesL_ (some 36) rfl rfl Try.func42 (by kernel_rfl) rfl #[.string t111, .int .u8 104] rfl (by (try simp only [List.map_toArray, List.map_cons, List.map_nil]); first | done | rfl | (simp only [List.length_drop, List.length_take]; rfl)) ?_; (with_reducible refine (cubicleref18_has.calls kj2 t111 104 false _ A19.out).mono ?_); rintro e w' ⟨rfl, ⟨nd, rfl⟩⟩; refine ⟨_, rfl, ?_⟩; have hcz96_0 : wc.cell? ⟨gb110, 0, none⟩ = some (.int .i64 a0_0) := (blk_cell BK110.out 0).trans rfl; have hcz96_1 : wc.cell? ⟨gb110, 1, none⟩ = some (.int .i64 a0_1) := (blk_cell BK110.out 1).trans rfl; have hcz96_2 : wc.cell? ⟨gb110, 2, none⟩ = some (.int .i64 a0_2) := (blk_cell BK110.out 2).trans rfl; have hcz96_3 : wc.cell? ⟨gb110, 3, none⟩ = some (.int .u64 a0_3) := (blk_cell BK110.out 3).trans rfl; have hcz96_4 : wc.cell? ⟨gb110, 4, none⟩ = some (.int .u64 a0_4) := (blk_cell BK110.out 4).trans rfl; have hcz96_5 : wc.cell? ⟨gb110, 5, none⟩ = some (.int .u64 a0_5) := (blk_cell BK110.out 5).trans rfl; have hfz96_0 := blk_frozen BK110.out 0; have hfz96_1 := blk_frozen BK110.out 1; have hfz96_2 := blk_frozen BK110.out 2; have hfz96_3 := blk_frozen BK110.out 3; have hfz96_4 := blk_frozen BK110.out 4; have hfz96_5 := blk_frozen BK110.out 5) | (go_at_call 42; (with_reducible refine (cubicleref18_has.calls kj2 t111 100 true _ A81.out).mono ?_); rintro e w' ⟨rfl, ⟨nd, rfl⟩⟩) | (go_at_call 42; (with_reducible refine (cubicleref18_has.calls kj2 t111 102 true _ A83.out).mono ?_); rintro e w' ⟨rfl, ⟨nd, rfl⟩⟩) | (go_at_call 42; (with_reducible refine (cubicleref18_has.calls kj2 t111 97 false _ A85.out).mono ?_); rintro e w' ⟨rfl, ⟨nd, rfl⟩⟩))
                    go_ret
                    exact ⟨by first | rfl | (simp [errW_none, errW_some] <;> rfl) | (simp [*, errW_none, errW_some] <;> rfl), by repeat (first | (with_reducible first | exact HB.out | apply below_alloc | apply pw_below_drewN | apply below_drew1 | refine below_set ?_ GE110.out) | exact HB.out)⟩
              · replace c84 := Bool.eq_false_iff.mpr c84
                subst c84
                have H1 : (if a0_2 = 0 then ((cubicleref18_has.f kj2 t111 97).bind fun t133 => (if t133 = true then ((cubicleref18_has.f kj2 t111 98).bind fun t134 => (if t134 = true then (some true) else (some (a0_5 == 0)))) else (if a0_4 = 0 then ((cubicleref18_has.f kj2 t111 98).bind fun t135 => (if t135 = true then (some true) else (some (a0_5 == 0)))) else (some false)))) else (some false)) = some r := by rw [if_neg (show ¬ (false = true) by decide)] at H; exact H
                clear H
                have H := H1
                clear H1
                by_cases c97 : a0_2 = 0
                · rw [if_pos c97] at H
                  have c97b0 : (a0_2 == 0) = true := beq_iff_eq.mpr c97
                  have c97b1 : (a0_2 != 0) = false := bne_eq_false_iff_eq.mpr c97
                  clear c97
                  replace H := Option.bind_eq_some_iff.mp H
                  obtain ⟨t133, A980, H⟩ := H
                  replace H : (if t133 = true then ((cubicleref18_has.f kj2 t111 98).bind fun t134 => (if t134 = true then (some true) else (some (a0_5 == 0)))) else (if a0_4 = 0 then ((cubicleref18_has.f kj2 t111 98).bind fun t135 => (if t135 = true then (some true) else (some (a0_5 == 0)))) else (some false))) = some r := H
                  have A98 := Aside0.mk A980
                  clear A980
                  by_cases c99 : t133 = true
                  · subst c99
                    have H1 : ((cubicleref18_has.f kj2 t111 98).bind fun t134 => (if t134 = true then (some true) else (some (a0_5 == 0)))) = some r := by rw [if_pos rfl] at H; exact H
                    clear H
                    have H := H1
                    clear H1
                    replace H := Option.bind_eq_some_iff.mp H
                    obtain ⟨t134, A1000, H⟩ := H
                    replace H : (if t134 = true then (some true) else (some (a0_5 == 0))) = some r := H
                    have A100 := Aside0.mk A1000
                    clear A1000
                    by_cases c101 : t134 = true
                    · subst c101
                      have H1 : (some true) = some r := by rw [if_pos rfl] at H; exact H
                      clear H
                      have H := H1
                      clear H1
                      obtain rfl := Option.some.inj H
                      go_wp2_with (first | ((with_reducible refine gate_callee (f := 42) rfl ?_); refine goesL_ (some 36) rfl rfl Try.func42 (by kernel_rfl) rfl #[.string t111, .int .u8 104] rfl (by (try simp only [List.map_toArray, List.map_cons, List.map_nil]); first | done | rfl | (simp only [List.length_drop, List.length_take]; rfl)) ?_; (with_reducible refine (cubicleref18_has.calls kj2 t111 104 false _ A19.out).mono ?_); rintro e w' ⟨rfl, ⟨nd, rfl⟩⟩; refine ⟨_, rfl, ?_⟩; have hcz102_0 : wc.cell? ⟨gb110, 0, none⟩ = some (.int .i64 a0_0) := (blk_cell BK110.out 0).trans rfl; have hcz102_1 : wc.cell? ⟨gb110, 1, none⟩ = some (.int .i64 a0_1) := (blk_cell BK110.out 1).trans rfl; have hcz102_2 : wc.cell? ⟨gb110, 2, none⟩ = some (.int .i64 a0_2) := (blk_cell BK110.out 2).trans rfl; have hcz102_3 : wc.cell? ⟨gb110, 3, none⟩ = some (.int .u64 a0_3) := (blk_cell BK110.out 3).trans rfl; have hcz102_4 : wc.cell? ⟨gb110, 4, none⟩ = some (.int .u64 a0_4) := (blk_cell BK110.out 4).trans rfl; have hcz102_5 : wc.cell? ⟨gb110, 5, none⟩ = some (.int .u64 a0_5) := (blk_cell BK110.out 5).trans rfl; have hfz102_0 := blk_frozen BK110.out 0; have hfz102_1 := blk_frozen BK110.out 1; have hfz102_2 := blk_frozen BK110.out 2; have hfz102_3 := blk_frozen BK110.out 3; have hfz102_4 := blk_frozen BK110.out 4; have hfz102_5 := blk_frozen BK110.out 5) | (go_at_call 42; (with_reducible refine (cubicleref18_has.calls kj2 t111 100 true _ A81.out).mono ?_); rintro e w' ⟨rfl, ⟨nd, rfl⟩⟩) | (go_at_call 42; (with_reducible refine (cubicleref18_has.calls kj2 t111 102 false _ A83.out).mono ?_); rintro e w' ⟨rfl, ⟨nd, rfl⟩⟩) | (go_at_call 42; (with_reducible refine (cubicleref18_has.calls kj2 t111 97 true _ A98.out).mono ?_); rintro e w' ⟨rfl, ⟨nd, rfl⟩⟩) | (go_at_call 42; (with_reducible refine (cubicleref18_has.calls kj2 t111 98 true _ A100.out).mono ?_); rintro e w' ⟨rfl, ⟨nd, rfl⟩⟩))
                      go_ret
                      exact ⟨by first | rfl | (simp [errW_none, errW_some] <;> rfl) | (simp [*, errW_none, errW_some] <;> rfl), by repeat (first | (with_reducible first | exact HB.out | apply below_alloc | apply pw_below_drewN | apply below_drew1 | refine below_set ?_ GE110.out) | exact HB.out)⟩
                    · replace c101 := Bool.eq_false_iff.mpr c101
                      subst c101
                      have H1 : (some (a0_5 == 0)) = some r := by rw [if_neg (show ¬ (false = true) by decide)] at H; exact H
                      clear H
                      have H := H1
                      clear H1
                      obtain rfl := Option.some.inj H
                      go_wp2_with (first | ((with_reducible refine gate_callee (f := 42) rfl ?_); refine goesL_ (some 36) rfl rfl Try.func42 (by kernel_rfl) rfl #[.string t111, .int .u8 104] rfl (by (try simp only [List.map_toArray, List.map_cons, List.map_nil]); first | done | rfl | (simp only [List.length_drop, List.length_take]; rfl)) ?_; (with_reducible refine (cubicleref18_has.calls kj2 t111 104 false _ A19.out).mono ?_); rintro e w' ⟨rfl, ⟨nd, rfl⟩⟩; refine ⟨_, rfl, ?_⟩; have hcz103_0 : wc.cell? ⟨gb110, 0, none⟩ = some (.int .i64 a0_0) := (blk_cell BK110.out 0).trans rfl; have hcz103_1 : wc.cell? ⟨gb110, 1, none⟩ = some (.int .i64 a0_1) := (blk_cell BK110.out 1).trans rfl; have hcz103_2 : wc.cell? ⟨gb110, 2, none⟩ = some (.int .i64 a0_2) := (blk_cell BK110.out 2).trans rfl; have hcz103_3 : wc.cell? ⟨gb110, 3, none⟩ = some (.int .u64 a0_3) := (blk_cell BK110.out 3).trans rfl; have hcz103_4 : wc.cell? ⟨gb110, 4, none⟩ = some (.int .u64 a0_4) := (blk_cell BK110.out 4).trans rfl; have hcz103_5 : wc.cell? ⟨gb110, 5, none⟩ = some (.int .u64 a0_5) := (blk_cell BK110.out 5).trans rfl; have hfz103_0 := blk_frozen BK110.out 0; have hfz103_1 := blk_frozen BK110.out 1; have hfz103_2 := blk_frozen BK110.out 2; have hfz103_3 := blk_frozen BK110.out 3; have hfz103_4 := blk_frozen BK110.out 4; have hfz103_5 := blk_frozen BK110.out 5) | (go_at_call 42; (with_reducible refine (cubicleref18_has.calls kj2 t111 100 true _ A81.out).mono ?_); rintro e w' ⟨rfl, ⟨nd, rfl⟩⟩) | (go_at_call 42; (with_reducible refine (cubicleref18_has.calls kj2 t111 102 false _ A83.out).mono ?_); rintro e w' ⟨rfl, ⟨nd, rfl⟩⟩) | (go_at_call 42; (with_reducible refine (cubicleref18_has.calls kj2 t111 97 true _ A98.out).mono ?_); rintro e w' ⟨rfl, ⟨nd, rfl⟩⟩) | (go_at_call 42; (with_reducible refine (cubicleref18_has.calls kj2 t111 98 false _ A100.out).mono ?_); rintro e w' ⟨rfl, ⟨nd, rfl⟩⟩))
                      go_ret
                      exact ⟨by first | rfl | (simp [errW_none, errW_some] <;> rfl) | (simp [*, errW_none, errW_some] <;> rfl), by repeat (first | (with_reducible first | exact HB.out | apply below_alloc | apply pw_below_drewN | apply below_drew1 | refine below_set ?_ GE110.out) | exact HB.out)⟩
                  · replace c99 := Bool.eq_false_iff.mpr c99
                    subst c99
                    have H1 : (if a0_4 = 0 then ((cubicleref18_has.f kj2 t111 98).bind fun t135 => (if t135 = true then (some true) else (some (a0_5 == 0)))) else (some false)) = some r := by rw [if_neg (show ¬ (false = true) by decide)] at H; exact H
                    clear H
                    have H := H1
                    clear H1
                    by_cases c104 : a0_4 = 0
                    · rw [if_pos c104] at H
                      have c104b0 : (a0_4 == 0) = true := beq_iff_eq.mpr c104
                      have c104b1 : (a0_4 != 0) = false := bne_eq_false_iff_eq.mpr c104
                      clear c104
                      replace H := Option.bind_eq_some_iff.mp H
                      obtain ⟨t135, A1050, H⟩ := H
                      replace H : (if t135 = true then (some true) else (some (a0_5 == 0))) = some r := H
                      have A105 := Aside0.mk A1050
                      clear A1050
                      by_cases c106 : t135 = true
                      · subst c106
                        have H1 : (some true) = some r := by rw [if_pos rfl] at H; exact H
                        clear H
                        have H := H1
                        clear H1
                        obtain rfl := Option.some.inj H
                        go_wp2_with (first | ((with_reducible refine gate_callee (f := 42) rfl ?_); refine goesL_ (some 36) rfl rfl Try.func42 (by kernel_rfl) rfl #[.string t111, .int .u8 104] rfl (by (try simp only [List.map_toArray, List.map_cons, List.map_nil]); first | done | rfl | (simp only [List.length_drop, List.length_take]; rfl)) ?_; (with_reducible refine (cubicleref18_has.calls kj2 t111 104 false _ A19.out).mono ?_); rintro e w' ⟨rfl, ⟨nd, rfl⟩⟩; refine ⟨_, rfl, ?_⟩; have hcz107_0 : wc.cell? ⟨gb110, 0, none⟩ = some (.int .i64 a0_0) := (blk_cell BK110.out 0).trans rfl; have hcz107_1 : wc.cell? ⟨gb110, 1, none⟩ = some (.int .i64 a0_1) := (blk_cell BK110.out 1).trans rfl; have hcz107_2 : wc.cell? ⟨gb110, 2, none⟩ = some (.int .i64 a0_2) := (blk_cell BK110.out 2).trans rfl; have hcz107_3 : wc.cell? ⟨gb110, 3, none⟩ = some (.int .u64 a0_3) := (blk_cell BK110.out 3).trans rfl; have hcz107_4 : wc.cell? ⟨gb110, 4, none⟩ = some (.int .u64 a0_4) := (blk_cell BK110.out 4).trans rfl; have hcz107_5 : wc.cell? ⟨gb110, 5, none⟩ = some (.int .u64 a0_5) := (blk_cell BK110.out 5).trans rfl; have hfz107_0 := blk_frozen BK110.out 0; have hfz107_1 := blk_frozen BK110.out 1; have hfz107_2 := blk_frozen BK110.out 2; have hfz107_3 := blk_frozen BK110.out 3; have hfz107_4 := blk_frozen BK110.out 4; have hfz107_5 := blk_frozen BK110.out 5) | (go_at_call 42; (with_reducible refine (cubicleref18_has.calls kj2 t111 100 true _ A81.out).mono ?_); rintro e w' ⟨rfl, ⟨nd, rfl⟩⟩) | (go_at_call 42; (with_reducible refine (cubicleref18_has.calls kj2 t111 102 false _ A83.out).mono ?_); rintro e w' ⟨rfl, ⟨nd, rfl⟩⟩) | (go_at_call 42; (with_reducible refine (cubicleref18_has.calls kj2 t111 97 false _ A98.out).mono ?_); rintro e w' ⟨rfl, ⟨nd, rfl⟩⟩) | (go_at_call 42; (with_reducible refine (cubicleref18_has.calls kj2 t111 98 true _ A105.out).mono ?_); rintro e w' ⟨rfl, ⟨nd, rfl⟩⟩))
                        go_ret
                        exact ⟨by first | rfl | (simp [errW_none, errW_some] <;> rfl) | (simp [*, errW_none, errW_some] <;> rfl), by repeat (first | (with_reducible first | exact HB.out | apply below_alloc | apply pw_below_drewN | apply below_drew1 | refine below_set ?_ GE110.out) | exact HB.out)⟩
                      · replace c106 := Bool.eq_false_iff.mpr c106
                        subst c106
                        have H1 : (some (a0_5 == 0)) = some r := by rw [if_neg (show ¬ (false = true) by decide)] at H; exact H
                        clear H
                        have H := H1
                        clear H1
                        obtain rfl := Option.some.inj H
                        go_wp2_with (first | ((with_reducible refine gate_callee (f := 42) rfl ?_); refine goesL_ (some 36) rfl rfl Try.func42 (by kernel_rfl) rfl #[.string t111, .int .u8 104] rfl (by (try simp only [List.map_toArray, List.map_cons, List.map_nil]); first | done | rfl | (simp only [List.length_drop, List.length_take]; rfl)) ?_; (with_reducible refine (cubicleref18_has.calls kj2 t111 104 false _ A19.out).mono ?_); rintro e w' ⟨rfl, ⟨nd, rfl⟩⟩; refine ⟨_, rfl, ?_⟩; have hcz108_0 : wc.cell? ⟨gb110, 0, none⟩ = some (.int .i64 a0_0) := (blk_cell BK110.out 0).trans rfl; have hcz108_1 : wc.cell? ⟨gb110, 1, none⟩ = some (.int .i64 a0_1) := (blk_cell BK110.out 1).trans rfl; have hcz108_2 : wc.cell? ⟨gb110, 2, none⟩ = some (.int .i64 a0_2) := (blk_cell BK110.out 2).trans rfl; have hcz108_3 : wc.cell? ⟨gb110, 3, none⟩ = some (.int .u64 a0_3) := (blk_cell BK110.out 3).trans rfl; have hcz108_4 : wc.cell? ⟨gb110, 4, none⟩ = some (.int .u64 a0_4) := (blk_cell BK110.out 4).trans rfl; have hcz108_5 : wc.cell? ⟨gb110, 5, none⟩ = some (.int .u64 a0_5) := (blk_cell BK110.out 5).trans rfl; have hfz108_0 := blk_frozen BK110.out 0; have hfz108_1 := blk_frozen BK110.out 1; have hfz108_2 := blk_frozen BK110.out 2; have hfz108_3 := blk_frozen BK110.out 3; have hfz108_4 := blk_frozen BK110.out 4; have hfz108_5 := blk_frozen BK110.out 5) | (go_at_call 42; (with_reducible refine (cubicleref18_has.calls kj2 t111 100 true _ A81.out).mono ?_); rintro e w' ⟨rfl, ⟨nd, rfl⟩⟩) | (go_at_call 42; (with_reducible refine (cubicleref18_has.calls kj2 t111 102 false _ A83.out).mono ?_); rintro e w' ⟨rfl, ⟨nd, rfl⟩⟩) | (go_at_call 42; (with_reducible refine (cubicleref18_has.calls kj2 t111 97 false _ A98.out).mono ?_); rintro e w' ⟨rfl, ⟨nd, rfl⟩⟩) | (go_at_call 42; (with_reducible refine (cubicleref18_has.calls kj2 t111 98 false _ A105.out).mono ?_); rintro e w' ⟨rfl, ⟨nd, rfl⟩⟩))
                        go_ret
                        exact ⟨by first | rfl | (simp [errW_none, errW_some] <;> rfl) | (simp [*, errW_none, errW_some] <;> rfl), by repeat (first | (with_reducible first | exact HB.out | apply below_alloc | apply pw_below_drewN | apply below_drew1 | refine below_set ?_ GE110.out) | exact HB.out)⟩
                    · rw [if_neg c104] at H
                      have c104b0 : (a0_4 == 0) = false := beq_eq_false_iff_ne.mpr c104
                      have c104b1 : (a0_4 != 0) = true := bne_iff_ne.mpr c104
                      obtain rfl := Option.some.inj H
                      go_wp2_with (first | ((with_reducible refine gate_callee (f := 42) rfl ?_); refine goesL_ (some 36) rfl rfl Try.func42 (by kernel_rfl) rfl #[.string t111, .int .u8 104] rfl (by (try simp only [List.map_toArray, List.map_cons, List.map_nil]); first | done | rfl | (simp only [List.length_drop, List.length_take]; rfl)) ?_; (with_reducible refine (cubicleref18_has.calls kj2 t111 104 false _ A19.out).mono ?_); rintro e w' ⟨rfl, ⟨nd, rfl⟩⟩; refine ⟨_, rfl, ?_⟩; have hcz109_0 : wc.cell? ⟨gb110, 0, none⟩ = some (.int .i64 a0_0) := (blk_cell BK110.out 0).trans rfl; have hcz109_1 : wc.cell? ⟨gb110, 1, none⟩ = some (.int .i64 a0_1) := (blk_cell BK110.out 1).trans rfl; have hcz109_2 : wc.cell? ⟨gb110, 2, none⟩ = some (.int .i64 a0_2) := (blk_cell BK110.out 2).trans rfl; have hcz109_3 : wc.cell? ⟨gb110, 3, none⟩ = some (.int .u64 a0_3) := (blk_cell BK110.out 3).trans rfl; have hcz109_4 : wc.cell? ⟨gb110, 4, none⟩ = some (.int .u64 a0_4) := (blk_cell BK110.out 4).trans rfl; have hcz109_5 : wc.cell? ⟨gb110, 5, none⟩ = some (.int .u64 a0_5) := (blk_cell BK110.out 5).trans rfl; have hfz109_0 := blk_frozen BK110.out 0; have hfz109_1 := blk_frozen BK110.out 1; have hfz109_2 := blk_frozen BK110.out 2; have hfz109_3 := blk_frozen BK110.out 3; have hfz109_4 := blk_frozen BK110.out 4; have hfz109_5 := blk_frozen BK110.out 5) | (go_at_call 42; (with_reducible refine (cubicleref18_has.calls kj2 t111 100 true _ A81.out).mono ?_); rintro e w' ⟨rfl, ⟨nd, rfl⟩⟩) | (go_at_call 42; (with_reducible refine (cubicleref18_has.calls kj2 t111 102 false _ A83.out).mono ?_); rintro e w' ⟨rfl, ⟨nd, rfl⟩⟩) | (go_at_call 42; (with_reducible refine (cubicleref18_has.calls kj2 t111 97 false _ A98.out).mono ?_); rintro e w' ⟨rfl, ⟨nd, rfl⟩⟩))
                      go_ret
                      exact ⟨by first | rfl | (simp [errW_none, errW_some] <;> rfl) | (simp [*, errW_none, errW_some] <;> rfl), by repeat (first | (with_reducible first | exact HB.out | apply below_alloc | apply pw_below_drewN | apply below_drew1 | refine below_set ?_ GE110.out) | exact HB.out)⟩
                · rw [if_neg c97] at H
                  have c97b0 : (a0_2 == 0) = false := beq_eq_false_iff_ne.mpr c97
                  have c97b1 : (a0_2 != 0) = true := bne_iff_ne.mpr c97
                  obtain rfl := Option.some.inj H
                  go_wp2_with (first | ((with_reducible refine gate_callee (f := 42) rfl ?_); refine goesL_ (some 36) rfl rfl Try.func42 (by kernel_rfl) rfl #[.string t111, .int .u8 104] rfl (by (try simp only [List.map_toArray, List.map_cons, List.map_nil]); first | done | rfl | (simp only [List.length_drop, List.length_take]; rfl)) ?_; (with_reducible refine (cubicleref18_has.calls kj2 t111 104 false _ A19.out).mono ?_); rintro e w' ⟨rfl, ⟨nd, rfl⟩⟩; refine ⟨_, rfl, ?_⟩; have hcz110_0 : wc.cell? ⟨gb110, 0, none⟩ = some (.int .i64 a0_0) := (blk_cell BK110.out 0).trans rfl; have hcz110_1 : wc.cell? ⟨gb110, 1, none⟩ = some (.int .i64 a0_1) := (blk_cell BK110.out 1).trans rfl; have hcz110_2 : wc.cell? ⟨gb110, 2, none⟩ = some (.int .i64 a0_2) := (blk_cell BK110.out 2).trans rfl; have hcz110_3 : wc.cell? ⟨gb110, 3, none⟩ = some (.int .u64 a0_3) := (blk_cell BK110.out 3).trans rfl; have hcz110_4 : wc.cell? ⟨gb110, 4, none⟩ = some (.int .u64 a0_4) := (blk_cell BK110.out 4).trans rfl; have hcz110_5 : wc.cell? ⟨gb110, 5, none⟩ = some (.int .u64 a0_5) := (blk_cell BK110.out 5).trans rfl; have hfz110_0 := blk_frozen BK110.out 0; have hfz110_1 := blk_frozen BK110.out 1; have hfz110_2 := blk_frozen BK110.out 2; have hfz110_3 := blk_frozen BK110.out 3; have hfz110_4 := blk_frozen BK110.out 4; have hfz110_5 := blk_frozen BK110.out 5) | (go_at_call 42; (with_reducible refine (cubicleref18_has.calls kj2 t111 100 true _ A81.out).mono ?_); rintro e w' ⟨rfl, ⟨nd, rfl⟩⟩) | (go_at_call 42; (with_reducible refine (cubicleref18_has.calls kj2 t111 102 false _ A83.out).mono ?_); rintro e w' ⟨rfl, ⟨nd, rfl⟩⟩))
                  go_ret
                  exact ⟨by first | rfl | (simp [errW_none, errW_some] <;> rfl) | (simp [*, errW_none, errW_some] <;> rfl), by repeat (first | (with_reducible first | exact HB.out | apply below_alloc | apply pw_below_drewN | apply below_drew1 | refine below_set ?_ GE110.out) | exact HB.out)⟩
            · replace c82 := Bool.eq_false_iff.mpr c82
              subst c82
              have H1 : (if a0_1 = 0 then ((cubicleref18_has.f kj2 t111 102).bind fun t136 => (if t136 = true then ((cubicleref18_has.f kj2 t111 97).bind fun t137 => (if t137 = true then ((cubicleref18_has.f kj2 t111 98).bind fun t138 => (if t138 = true then (some true) else (some (a0_5 == 0)))) else (if a0_4 = 0 then ((cubicleref18_has.f kj2 t111 98).bind fun t139 => (if t139 = true then (some true) else (some (a0_5 == 0)))) else (some false)))) else (if a0_2 = 0 then ((cubicleref18_has.f kj2 t111 97).bind fun t140 => (if t140 = true then ((cubicleref18_has.f kj2 t111 98).bind fun t141 => (if t141 = true then (some true) else (some (a0_5 == 0)))) else (if a0_4 = 0 then ((cubicleref18_has.f kj2 t111 98).bind fun t142 => (if t142 = true then (some true) else (some (a0_5 == 0)))) else (some false)))) else (some false)))) else (some false)) = some r := by rw [if_neg (show ¬ (false = true) by decide)] at H; exact H
              clear H
              have H := H1
              clear H1
              by_cases c111 : a0_1 = 0
              · rw [if_pos c111] at H
                have c111b0 : (a0_1 == 0) = true := beq_iff_eq.mpr c111
                have c111b1 : (a0_1 != 0) = false := bne_eq_false_iff_eq.mpr c111
                clear c111
                replace H := Option.bind_eq_some_iff.mp H
                obtain ⟨t136, A1120, H⟩ := H
                replace H : (if t136 = true then ((cubicleref18_has.f kj2 t111 97).bind fun t137 => (if t137 = true then ((cubicleref18_has.f kj2 t111 98).bind fun t138 => (if t138 = true then (some true) else (some (a0_5 == 0)))) else (if a0_4 = 0 then ((cubicleref18_has.f kj2 t111 98).bind fun t139 => (if t139 = true then (some true) else (some (a0_5 == 0)))) else (some false)))) else (if a0_2 = 0 then ((cubicleref18_has.f kj2 t111 97).bind fun t140 => (if t140 = true then ((cubicleref18_has.f kj2 t111 98).bind fun t141 => (if t141 = true then (some true) else (some (a0_5 == 0)))) else (if a0_4 = 0 then ((cubicleref18_has.f kj2 t111 98).bind fun t142 => (if t142 = true then (some true) else (some (a0_5 == 0)))) else (some false)))) else (some false))) = some r := H
                have A112 := Aside0.mk A1120
                clear A1120
                by_cases c113 : t136 = true
                · subst c113
                  have H1 : ((cubicleref18_has.f kj2 t111 97).bind fun t137 => (if t137 = true then ((cubicleref18_has.f kj2 t111 98).bind fun t138 => (if t138 = true then (some true) else (some (a0_5 == 0)))) else (if a0_4 = 0 then ((cubicleref18_has.f kj2 t111 98).bind fun t139 => (if t139 = true then (some true) else (some (a0_5 == 0)))) else (some false)))) = some r := by rw [if_pos rfl] at H; exact H
                  clear H
                  have H := H1
                  clear H1
                  replace H := Option.bind_eq_some_iff.mp H
                  obtain ⟨t137, A1140, H⟩ := H
                  replace H : (if t137 = true then ((cubicleref18_has.f kj2 t111 98).bind fun t138 => (if t138 = true then (some true) else (some (a0_5 == 0)))) else (if a0_4 = 0 then ((cubicleref18_has.f kj2 t111 98).bind fun t139 => (if t139 = true then (some true) else (some (a0_5 == 0)))) else (some false))) = some r := H
                  have A114 := Aside0.mk A1140
                  clear A1140
                  by_cases c115 : t137 = true
                  · subst c115
                    have H1 : ((cubicleref18_has.f kj2 t111 98).bind fun t138 => (if t138 = true then (some true) else (some (a0_5 == 0)))) = some r := by rw [if_pos rfl] at H; exact H
                    clear H
                    have H := H1
                    clear H1
                    replace H := Option.bind_eq_some_iff.mp H
                    obtain ⟨t138, A1160, H⟩ := H
                    replace H : (if t138 = true then (some true) else (some (a0_5 == 0))) = some r := H
                    have A116 := Aside0.mk A1160
                    clear A1160
                    by_cases c117 : t138 = true
                    · subst c117
                      have H1 : (some true) = some r := by rw [if_pos rfl] at H; exact H
                      clear H
                      have H := H1
                      clear H1
                      obtain rfl := Option.some.inj H
                      go_wp2_with (first | ((with_reducible refine gate_callee (f := 42) rfl ?_); refine goesL_ (some 36) rfl rfl Try.func42 (by kernel_rfl) rfl #[.string t111, .int .u8 104] rfl (by (try simp only [List.map_toArray, List.map_cons, List.map_nil]); first | done | rfl | (simp only [List.length_drop, List.length_take]; rfl)) ?_; (with_reducible refine (cubicleref18_has.calls kj2 t111 104 false _ A19.out).mono ?_); rintro e w' ⟨rfl, ⟨nd, rfl⟩⟩; refine ⟨_, rfl, ?_⟩; have hcz118_0 : wc.cell? ⟨gb110, 0, none⟩ = some (.int .i64 a0_0) := (blk_cell BK110.out 0).trans rfl; have hcz118_1 : wc.cell? ⟨gb110, 1, none⟩ = some (.int .i64 a0_1) := (blk_cell BK110.out 1).trans rfl; have hcz118_2 : wc.cell? ⟨gb110, 2, none⟩ = some (.int .i64 a0_2) := (blk_cell BK110.out 2).trans rfl; have hcz118_3 : wc.cell? ⟨gb110, 3, none⟩ = some (.int .u64 a0_3) := (blk_cell BK110.out 3).trans rfl; have hcz118_4 : wc.cell? ⟨gb110, 4, none⟩ = some (.int .u64 a0_4) := (blk_cell BK110.out 4).trans rfl; have hcz118_5 : wc.cell? ⟨gb110, 5, none⟩ = some (.int .u64 a0_5) := (blk_cell BK110.out 5).trans rfl; have hfz118_0 := blk_frozen BK110.out 0; have hfz118_1 := blk_frozen BK110.out 1; have hfz118_2 := blk_frozen BK110.out 2; have hfz118_3 := blk_frozen BK110.out 3; have hfz118_4 := blk_frozen BK110.out 4; have hfz118_5 := blk_frozen BK110.out 5) | (go_at_call 42; (with_reducible refine (cubicleref18_has.calls kj2 t111 100 false _ A81.out).mono ?_); rintro e w' ⟨rfl, ⟨nd, rfl⟩⟩) | (go_at_call 42; (with_reducible refine (cubicleref18_has.calls kj2 t111 102 true _ A112.out).mono ?_); rintro e w' ⟨rfl, ⟨nd, rfl⟩⟩) | (go_at_call 42; (with_reducible refine (cubicleref18_has.calls kj2 t111 97 true _ A114.out).mono ?_); rintro e w' ⟨rfl, ⟨nd, rfl⟩⟩) | (go_at_call 42; (with_reducible refine (cubicleref18_has.calls kj2 t111 98 true _ A116.out).mono ?_); rintro e w' ⟨rfl, ⟨nd, rfl⟩⟩))
                      go_ret
                      exact ⟨by first | rfl | (simp [errW_none, errW_some] <;> rfl) | (simp [*, errW_none, errW_some] <;> rfl), by repeat (first | (with_reducible first | exact HB.out | apply below_alloc | apply pw_below_drewN | apply below_drew1 | refine below_set ?_ GE110.out) | exact HB.out)⟩
                    · replace c117 := Bool.eq_false_iff.mpr c117
                      subst c117
                      have H1 : (some (a0_5 == 0)) = some r := by rw [if_neg (show ¬ (false = true) by decide)] at H; exact H
                      clear H
                      have H := H1
                      clear H1
                      obtain rfl := Option.some.inj H
                      go_wp2_with (first | ((with_reducible refine gate_callee (f := 42) rfl ?_); refine goesL_ (some 36) rfl rfl Try.func42 (by kernel_rfl) rfl #[.string t111, .int .u8 104] rfl (by (try simp only [List.map_toArray, List.map_cons, List.map_nil]); first | done | rfl | (simp only [List.length_drop, List.length_take]; rfl)) ?_; (with_reducible refine (cubicleref18_has.calls kj2 t111 104 false _ A19.out).mono ?_); rintro e w' ⟨rfl, ⟨nd, rfl⟩⟩; refine ⟨_, rfl, ?_⟩; have hcz119_0 : wc.cell? ⟨gb110, 0, none⟩ = some (.int .i64 a0_0) := (blk_cell BK110.out 0).trans rfl; have hcz119_1 : wc.cell? ⟨gb110, 1, none⟩ = some (.int .i64 a0_1) := (blk_cell BK110.out 1).trans rfl; have hcz119_2 : wc.cell? ⟨gb110, 2, none⟩ = some (.int .i64 a0_2) := (blk_cell BK110.out 2).trans rfl; have hcz119_3 : wc.cell? ⟨gb110, 3, none⟩ = some (.int .u64 a0_3) := (blk_cell BK110.out 3).trans rfl; have hcz119_4 : wc.cell? ⟨gb110, 4, none⟩ = some (.int .u64 a0_4) := (blk_cell BK110.out 4).trans rfl; have hcz119_5 : wc.cell? ⟨gb110, 5, none⟩ = some (.int .u64 a0_5) := (blk_cell BK110.out 5).trans rfl; have hfz119_0 := blk_frozen BK110.out 0; have hfz119_1 := blk_frozen BK110.out 1; have hfz119_2 := blk_frozen BK110.out 2; have hfz119_3 := blk_frozen BK110.out 3; have hfz119_4 := blk_frozen BK110.out 4; have hfz119_5 := blk_frozen BK110.out 5) | (go_at_call 42; (with_reducible refine (cubicleref18_has.calls kj2 t111 100 false _ A81.out).mono ?_); rintro e w' ⟨rfl, ⟨nd, rfl⟩⟩) | (go_at_call 42; (with_reducible refine (cubicleref18_has.calls kj2 t111 102 true _ A112.out).mono ?_); rintro e w' ⟨rfl, ⟨nd, rfl⟩⟩) | (go_at_call 42; (with_reducible refine (cubicleref18_has.calls kj2 t111 97 true _ A114.out).mono ?_); rintro e w' ⟨rfl, ⟨nd, rfl⟩⟩) | (go_at_call 42; (with_reducible refine (cubicleref18_has.calls kj2 t111 98 false _ A116.out).mono ?_); rintro e w' ⟨rfl, ⟨nd, rfl⟩⟩))
                      go_ret
                      exact ⟨by first | rfl | (simp [errW_none, errW_some] <;> rfl) | (simp [*, errW_none, errW_some] <;> rfl), by repeat (first | (with_reducible first | exact HB.out | apply below_alloc | apply pw_below_drewN | apply below_drew1 | refine below_set ?_ GE110.out) | exact HB.out)⟩
                  · replace c115 := Bool.eq_false_iff.mpr c115
                    subst c115
                    have H1 : (if a0_4 = 0 then ((cubicleref18_has.f kj2 t111 98).bind fun t139 => (if t139 = true then (some true) else (some (a0_5 == 0)))) else (some false)) = some r := by rw [if_neg (show ¬ (false = true) by decide)] at H; exact H
                    clear H
                    have H := H1
                    clear H1
                    by_cases c120 : a0_4 = 0
                    · rw [if_pos c120] at H
                      have c120b0 : (a0_4 == 0) = true := beq_iff_eq.mpr c120
                      have c120b1 : (a0_4 != 0) = false := bne_eq_false_iff_eq.mpr c120
                      clear c120
                      replace H := Option.bind_eq_some_iff.mp H
                      obtain ⟨t139, A1210, H⟩ := H
                      replace H : (if t139 = true then (some true) else (some (a0_5 == 0))) = some r := H
                      have A121 := Aside0.mk A1210
                      clear A1210
                      by_cases c122 : t139 = true
                      · subst c122
                        have H1 : (some true) = some r := by rw [if_pos rfl] at H; exact H
                        clear H
                        have H := H1
                        clear H1
                        obtain rfl := Option.some.inj H
                        go_wp2_with (first | ((with_reducible refine gate_callee (f := 42) rfl ?_); refine goesL_ (some 36) rfl rfl Try.func42 (by kernel_rfl) rfl #[.string t111, .int .u8 104] rfl (by (try simp only [List.map_toArray, List.map_cons, List.map_nil]); first | done | rfl | (simp only [List.length_drop, List.length_take]; rfl)) ?_; (with_reducible refine (cubicleref18_has.calls kj2 t111 104 false _ A19.out).mono ?_); rintro e w' ⟨rfl, ⟨nd, rfl⟩⟩; refine ⟨_, rfl, ?_⟩; have hcz123_0 : wc.cell? ⟨gb110, 0, none⟩ = some (.int .i64 a0_0) := (blk_cell BK110.out 0).trans rfl; have hcz123_1 : wc.cell? ⟨gb110, 1, none⟩ = some (.int .i64 a0_1) := (blk_cell BK110.out 1).trans rfl; have hcz123_2 : wc.cell? ⟨gb110, 2, none⟩ = some (.int .i64 a0_2) := (blk_cell BK110.out 2).trans rfl; have hcz123_3 : wc.cell? ⟨gb110, 3, none⟩ = some (.int .u64 a0_3) := (blk_cell BK110.out 3).trans rfl; have hcz123_4 : wc.cell? ⟨gb110, 4, none⟩ = some (.int .u64 a0_4) := (blk_cell BK110.out 4).trans rfl; have hcz123_5 : wc.cell? ⟨gb110, 5, none⟩ = some (.int .u64 a0_5) := (blk_cell BK110.out 5).trans rfl; have hfz123_0 := blk_frozen BK110.out 0; have hfz123_1 := blk_frozen BK110.out 1; have hfz123_2 := blk_frozen BK110.out 2; have hfz123_3 := blk_frozen BK110.out 3; have hfz123_4 := blk_frozen BK110.out 4; have hfz123_5 := blk_frozen BK110.out 5) | (go_at_call 42; (with_reducible refine (cubicleref18_has.calls kj2 t111 100 false _ A81.out).mono ?_); rintro e w' ⟨rfl, ⟨nd, rfl⟩⟩) | (go_at_call 42; (with_reducible refine (cubicleref18_has.calls kj2 t111 102 true _ A112.out).mono ?_); rintro e w' ⟨rfl, ⟨nd, rfl⟩⟩) | (go_at_call 42; (with_reducible refine (cubicleref18_has.calls kj2 t111 97 false _ A114.out).mono ?_); rintro e w' ⟨rfl, ⟨nd, rfl⟩⟩) | (go_at_call 42; (with_reducible refine (cubicleref18_has.calls kj2 t111 98 true _ A121.out).mono ?_); rintro e w' ⟨rfl, ⟨nd, rfl⟩⟩))
                        go_ret
                        exact ⟨by first | rfl | (simp [errW_none, errW_some] <;> rfl) | (simp [*, errW_none, errW_some] <;> rfl), by repeat (first | (with_reducible first | exact HB.out | apply below_alloc | apply pw_below_drewN | apply below_drew1 | refine below_set ?_ GE110.out) | exact HB.out)⟩
                      · replace c122 := Bool.eq_false_iff.mpr c122
                        subst c122
                        have H1 : (some (a0_5 == 0)) = some r := by rw [if_neg (show ¬ (false = true) by decide)] at H; exact H
                        clear H
                        have H := H1
                        clear H1
                        obtain rfl := Option.some.inj H
                        go_wp2_with (first | ((with_reducible refine gate_callee (f := 42) rfl ?_); refine goesL_ (some 36) rfl rfl Try.func42 (by kernel_rfl) rfl #[.string t111, .int .u8 104] rfl (by (try simp only [List.map_toArray, List.map_cons, List.map_nil]); first | done | rfl | (simp only [List.length_drop, List.length_take]; rfl)) ?_; (with_reducible refine (cubicleref18_has.calls kj2 t111 104 false _ A19.out).mono ?_); rintro e w' ⟨rfl, ⟨nd, rfl⟩⟩; refine ⟨_, rfl, ?_⟩; have hcz124_0 : wc.cell? ⟨gb110, 0, none⟩ = some (.int .i64 a0_0) := (blk_cell BK110.out 0).trans rfl; have hcz124_1 : wc.cell? ⟨gb110, 1, none⟩ = some (.int .i64 a0_1) := (blk_cell BK110.out 1).trans rfl; have hcz124_2 : wc.cell? ⟨gb110, 2, none⟩ = some (.int .i64 a0_2) := (blk_cell BK110.out 2).trans rfl; have hcz124_3 : wc.cell? ⟨gb110, 3, none⟩ = some (.int .u64 a0_3) := (blk_cell BK110.out 3).trans rfl; have hcz124_4 : wc.cell? ⟨gb110, 4, none⟩ = some (.int .u64 a0_4) := (blk_cell BK110.out 4).trans rfl; have hcz124_5 : wc.cell? ⟨gb110, 5, none⟩ = some (.int .u64 a0_5) := (blk_cell BK110.out 5).trans rfl; have hfz124_0 := blk_frozen BK110.out 0; have hfz124_1 := blk_frozen BK110.out 1; have hfz124_2 := blk_frozen BK110.out 2; have hfz124_3 := blk_frozen BK110.out 3; have hfz124_4 := blk_frozen BK110.out 4; have hfz124_5 := blk_frozen BK110.out 5) | (go_at_call 42; (with_reducible refine (cubicleref18_has.calls kj2 t111 100 false _ A81.out).mono ?_); rintro e w' ⟨rfl, ⟨nd, rfl⟩⟩) | (go_at_call 42; (with_reducible refine (cubicleref18_has.calls kj2 t111 102 true _ A112.out).mono ?_); rintro e w' ⟨rfl, ⟨nd, rfl⟩⟩) | (go_at_call 42; (with_reducible refine (cubicleref18_has.calls kj2 t111 97 false _ A114.out).mono ?_); rintro e w' ⟨rfl, ⟨nd, rfl⟩⟩) | (go_at_call 42; (with_reducible refine (cubicleref18_has.calls kj2 t111 98 false _ A121.out).mono ?_); rintro e w' ⟨rfl, ⟨nd, rfl⟩⟩))
                        go_ret
                        exact ⟨by first | rfl | (simp [errW_none, errW_some] <;> rfl) | (simp [*, errW_none, errW_some] <;> rfl), by repeat (first | (with_reducible first | exact HB.out | apply below_alloc | apply pw_below_drewN | apply below_drew1 | refine below_set ?_ GE110.out) | exact HB.out)⟩
                    · rw [if_neg c120] at H
                      have c120b0 : (a0_4 == 0) = false := beq_eq_false_iff_ne.mpr c120
                      have c120b1 : (a0_4 != 0) = true := bne_iff_ne.mpr c120
                      obtain rfl := Option.some.inj H
                      go_wp2_with (first | ((with_reducible refine gate_callee (f := 42) rfl ?_); refine goesL_ (some 36) rfl rfl Try.func42 (by kernel_rfl) rfl #[.string t111, .int .u8 104] rfl (by (try simp only [List.map_toArray, List.map_cons, List.map_nil]); first | done | rfl | (simp only [List.length_drop, List.length_take]; rfl)) ?_; (with_reducible refine (cubicleref18_has.calls kj2 t111 104 false _ A19.out).mono ?_); rintro e w' ⟨rfl, ⟨nd, rfl⟩⟩; refine ⟨_, rfl, ?_⟩; have hcz125_0 : wc.cell? ⟨gb110, 0, none⟩ = some (.int .i64 a0_0) := (blk_cell BK110.out 0).trans rfl; have hcz125_1 : wc.cell? ⟨gb110, 1, none⟩ = some (.int .i64 a0_1) := (blk_cell BK110.out 1).trans rfl; have hcz125_2 : wc.cell? ⟨gb110, 2, none⟩ = some (.int .i64 a0_2) := (blk_cell BK110.out 2).trans rfl; have hcz125_3 : wc.cell? ⟨gb110, 3, none⟩ = some (.int .u64 a0_3) := (blk_cell BK110.out 3).trans rfl; have hcz125_4 : wc.cell? ⟨gb110, 4, none⟩ = some (.int .u64 a0_4) := (blk_cell BK110.out 4).trans rfl; have hcz125_5 : wc.cell? ⟨gb110, 5, none⟩ = some (.int .u64 a0_5) := (blk_cell BK110.out 5).trans rfl; have hfz125_0 := blk_frozen BK110.out 0; have hfz125_1 := blk_frozen BK110.out 1; have hfz125_2 := blk_frozen BK110.out 2; have hfz125_3 := blk_frozen BK110.out 3; have hfz125_4 := blk_frozen BK110.out 4; have hfz125_5 := blk_frozen BK110.out 5) | (go_at_call 42; (with_reducible refine (cubicleref18_has.calls kj2 t111 100 false _ A81.out).mono ?_); rintro e w' ⟨rfl, ⟨nd, rfl⟩⟩) | (go_at_call 42; (with_reducible refine (cubicleref18_has.calls kj2 t111 102 true _ A112.out).mono ?_); rintro e w' ⟨rfl, ⟨nd, rfl⟩⟩) | (go_at_call 42; (with_reducible refine (cubicleref18_has.calls kj2 t111 97 false _ A114.out).mono ?_); rintro e w' ⟨rfl, ⟨nd, rfl⟩⟩))
                      go_ret
                      exact ⟨by first | rfl | (simp [errW_none, errW_some] <;> rfl) | (simp [*, errW_none, errW_some] <;> rfl), by repeat (first | (with_reducible first | exact HB.out | apply below_alloc | apply pw_below_drewN | apply below_drew1 | refine below_set ?_ GE110.out) | exact HB.out)⟩
                · replace c113 := Bool.eq_false_iff.mpr c113
                  subst c113
                  have H1 : (if a0_2 = 0 then ((cubicleref18_has.f kj2 t111 97).bind fun t140 => (if t140 = true then ((cubicleref18_has.f kj2 t111 98).bind fun t141 => (if t141 = true then (some true) else (some (a0_5 == 0)))) else (if a0_4 = 0 then ((cubicleref18_has.f kj2 t111 98).bind fun t142 => (if t142 = true then (some true) else (some (a0_5 == 0)))) else (some false)))) else (some false)) = some r := by rw [if_neg (show ¬ (false = true) by decide)] at H; exact H
                  clear H
                  have H := H1
                  clear H1
                  by_cases c126 : a0_2 = 0
                  · rw [if_pos c126] at H
                    have c126b0 : (a0_2 == 0) = true := beq_iff_eq.mpr c126
                    have c126b1 : (a0_2 != 0) = false := bne_eq_false_iff_eq.mpr c126
                    clear c126
                    replace H := Option.bind_eq_some_iff.mp H
                    obtain ⟨t140, A1270, H⟩ := H
                    replace H : (if t140 = true then ((cubicleref18_has.f kj2 t111 98).bind fun t141 => (if t141 = true then (some true) else (some (a0_5 == 0)))) else (if a0_4 = 0 then ((cubicleref18_has.f kj2 t111 98).bind fun t142 => (if t142 = true then (some true) else (some (a0_5 == 0)))) else (some false))) = some r := H
                    have A127 := Aside0.mk A1270
                    clear A1270
                    by_cases c128 : t140 = true
                    · subst c128
                      have H1 : ((cubicleref18_has.f kj2 t111 98).bind fun t141 => (if t141 = true then (some true) else (some (a0_5 == 0)))) = some r := by rw [if_pos rfl] at H; exact H
                      clear H
                      have H := H1
                      clear H1
                      replace H := Option.bind_eq_some_iff.mp H
                      obtain ⟨t141, A1290, H⟩ := H
                      replace H : (if t141 = true then (some true) else (some (a0_5 == 0))) = some r := H
                      have A129 := Aside0.mk A1290
                      clear A1290
                      by_cases c130 : t141 = true
                      · subst c130
                        have H1 : (some true) = some r := by rw [if_pos rfl] at H; exact H
                        clear H
                        have H := H1
                        clear H1
                        obtain rfl := Option.some.inj H
                        go_wp2_with (first | ((with_reducible refine gate_callee (f := 42) rfl ?_); refine goesL_ (some 36) rfl rfl Try.func42 (by kernel_rfl) rfl #[.string t111, .int .u8 104] rfl (by (try simp only [List.map_toArray, List.map_cons, List.map_nil]); first | done | rfl | (simp only [List.length_drop, List.length_take]; rfl)) ?_; (with_reducible refine (cubicleref18_has.calls kj2 t111 104 false _ A19.out).mono ?_); rintro e w' ⟨rfl, ⟨nd, rfl⟩⟩; refine ⟨_, rfl, ?_⟩; have hcz131_0 : wc.cell? ⟨gb110, 0, none⟩ = some (.int .i64 a0_0) := (blk_cell BK110.out 0).trans rfl; have hcz131_1 : wc.cell? ⟨gb110, 1, none⟩ = some (.int .i64 a0_1) := (blk_cell BK110.out 1).trans rfl; have hcz131_2 : wc.cell? ⟨gb110, 2, none⟩ = some (.int .i64 a0_2) := (blk_cell BK110.out 2).trans rfl; have hcz131_3 : wc.cell? ⟨gb110, 3, none⟩ = some (.int .u64 a0_3) := (blk_cell BK110.out 3).trans rfl; have hcz131_4 : wc.cell? ⟨gb110, 4, none⟩ = some (.int .u64 a0_4) := (blk_cell BK110.out 4).trans rfl; have hcz131_5 : wc.cell? ⟨gb110, 5, none⟩ = some (.int .u64 a0_5) := (blk_cell BK110.out 5).trans rfl; have hfz131_0 := blk_frozen BK110.out 0; have hfz131_1 := blk_frozen BK110.out 1; have hfz131_2 := blk_frozen BK110.out 2; have hfz131_3 := blk_frozen BK110.out 3; have hfz131_4 := blk_frozen BK110.out 4; have hfz131_5 := blk_frozen BK110.out 5) | (go_at_call 42; (with_reducible refine (cubicleref18_has.calls kj2 t111 100 false _ A81.out).mono ?_); rintro e w' ⟨rfl, ⟨nd, rfl⟩⟩) | (go_at_call 42; (with_reducible refine (cubicleref18_has.calls kj2 t111 102 false _ A112.out).mono ?_); rintro e w' ⟨rfl, ⟨nd, rfl⟩⟩) | (go_at_call 42; (with_reducible refine (cubicleref18_has.calls kj2 t111 97 true _ A127.out).mono ?_); rintro e w' ⟨rfl, ⟨nd, rfl⟩⟩) | (go_at_call 42; (with_reducible refine (cubicleref18_has.calls kj2 t111 98 true _ A129.out).mono ?_); rintro e w' ⟨rfl, ⟨nd, rfl⟩⟩))
                        go_ret
                        exact ⟨by first | rfl | (simp [errW_none, errW_some] <;> rfl) | (simp [*, errW_none, errW_some] <;> rfl), by repeat (first | (with_reducible first | exact HB.out | apply below_alloc | apply pw_below_drewN | apply below_drew1 | refine below_set ?_ GE110.out) | exact HB.out)⟩
                      · replace c130 := Bool.eq_false_iff.mpr c130
                        subst c130
                        have H1 : (some (a0_5 == 0)) = some r := by rw [if_neg (show ¬ (false = true) by decide)] at H; exact H
                        clear H
                        have H := H1
                        clear H1
                        obtain rfl := Option.some.inj H
                        go_wp2_with (first | ((with_reducible refine gate_callee (f := 42) rfl ?_); refine goesL_ (some 36) rfl rfl Try.func42 (by kernel_rfl) rfl #[.string t111, .int .u8 104] rfl (by (try simp only [List.map_toArray, List.map_cons, List.map_nil]); first | done | rfl | (simp only [List.length_drop, List.length_take]; rfl)) ?_; (with_reducible refine (cubicleref18_has.calls kj2 t111 104 false _ A19.out).mono ?_); rintro e w' ⟨rfl, ⟨nd, rfl⟩⟩; refine ⟨_, rfl, ?_⟩; have hcz132_0 : wc.cell? ⟨gb110, 0, none⟩ = some (.int .i64 a0_0) := (blk_cell BK110.out 0).trans rfl; have hcz132_1 : wc.cell? ⟨gb110, 1, none⟩ = some (.int .i64 a0_1) := (blk_cell BK110.out 1).trans rfl; have hcz132_2 : wc.cell? ⟨gb110, 2, none⟩ = some (.int .i64 a0_2) := (blk_cell BK110.out 2).trans rfl; have hcz132_3 : wc.cell? ⟨gb110, 3, none⟩ = some (.int .u64 a0_3) := (blk_cell BK110.out 3).trans rfl; have hcz132_4 : wc.cell? ⟨gb110, 4, none⟩ = some (.int .u64 a0_4) := (blk_cell BK110.out 4).trans rfl; have hcz132_5 : wc.cell? ⟨gb110, 5, none⟩ = some (.int .u64 a0_5) := (blk_cell BK110.out 5).trans rfl; have hfz132_0 := blk_frozen BK110.out 0; have hfz132_1 := blk_frozen BK110.out 1; have hfz132_2 := blk_frozen BK110.out 2; have hfz132_3 := blk_frozen BK110.out 3; have hfz132_4 := blk_frozen BK110.out 4; have hfz132_5 := blk_frozen BK110.out 5) | (go_at_call 42; (with_reducible refine (cubicleref18_has.calls kj2 t111 100 false _ A81.out).mono ?_); rintro e w' ⟨rfl, ⟨nd, rfl⟩⟩) | (go_at_call 42; (with_reducible refine (cubicleref18_has.calls kj2 t111 102 false _ A112.out).mono ?_); rintro e w' ⟨rfl, ⟨nd, rfl⟩⟩) | (go_at_call 42; (with_reducible refine (cubicleref18_has.calls kj2 t111 97 true _ A127.out).mono ?_); rintro e w' ⟨rfl, ⟨nd, rfl⟩⟩) | (go_at_call 42; (with_reducible refine (cubicleref18_has.calls kj2 t111 98 false _ A129.out).mono ?_); rintro e w' ⟨rfl, ⟨nd, rfl⟩⟩))
                        go_ret
                        exact ⟨by first | rfl | (simp [errW_none, errW_some] <;> rfl) | (simp [*, errW_none, errW_some] <;> rfl), by repeat (first | (with_reducible first | exact HB.out | apply below_alloc | apply pw_below_drewN | apply below_drew1 | refine below_set ?_ GE110.out) | exact HB.out)⟩
                    · replace c128 := Bool.eq_false_iff.mpr c128
                      subst c128
                      have H1 : (if a0_4 = 0 then ((cubicleref18_has.f kj2 t111 98).bind fun t142 => (if t142 = true then (some true) else (some (a0_5 == 0)))) else (some false)) = some r := by rw [if_neg (show ¬ (false = true) by decide)] at H; exact H
                      clear H
                      have H := H1
                      clear H1
                      by_cases c133 : a0_4 = 0
                      · rw [if_pos c133] at H
                        have c133b0 : (a0_4 == 0) = true := beq_iff_eq.mpr c133
                        have c133b1 : (a0_4 != 0) = false := bne_eq_false_iff_eq.mpr c133
                        clear c133
                        replace H := Option.bind_eq_some_iff.mp H
                        obtain ⟨t142, A1340, H⟩ := H
                        replace H : (if t142 = true then (some true) else (some (a0_5 == 0))) = some r := H
                        have A134 := Aside0.mk A1340
                        clear A1340
                        by_cases c135 : t142 = true
                        · subst c135
                          have H1 : (some true) = some r := by rw [if_pos rfl] at H; exact H
                          clear H
                          have H := H1
                          clear H1
                          obtain rfl := Option.some.inj H
                          go_wp2_with (first | ((with_reducible refine gate_callee (f := 42) rfl ?_); refine goesL_ (some 36) rfl rfl Try.func42 (by kernel_rfl) rfl #[.string t111, .int .u8 104] rfl (by (try simp only [List.map_toArray, List.map_cons, List.map_nil]); first | done | rfl | (simp only [List.length_drop, List.length_take]; rfl)) ?_; (with_reducible refine (cubicleref18_has.calls kj2 t111 104 false _ A19.out).mono ?_); rintro e w' ⟨rfl, ⟨nd, rfl⟩⟩; refine ⟨_, rfl, ?_⟩; have hcz136_0 : wc.cell? ⟨gb110, 0, none⟩ = some (.int .i64 a0_0) := (blk_cell BK110.out 0).trans rfl; have hcz136_1 : wc.cell? ⟨gb110, 1, none⟩ = some (.int .i64 a0_1) := (blk_cell BK110.out 1).trans rfl; have hcz136_2 : wc.cell? ⟨gb110, 2, none⟩ = some (.int .i64 a0_2) := (blk_cell BK110.out 2).trans rfl; have hcz136_3 : wc.cell? ⟨gb110, 3, none⟩ = some (.int .u64 a0_3) := (blk_cell BK110.out 3).trans rfl; have hcz136_4 : wc.cell? ⟨gb110, 4, none⟩ = some (.int .u64 a0_4) := (blk_cell BK110.out 4).trans rfl; have hcz136_5 : wc.cell? ⟨gb110, 5, none⟩ = some (.int .u64 a0_5) := (blk_cell BK110.out 5).trans rfl; have hfz136_0 := blk_frozen BK110.out 0; have hfz136_1 := blk_frozen BK110.out 1; have hfz136_2 := blk_frozen BK110.out 2; have hfz136_3 := blk_frozen BK110.out 3; have hfz136_4 := blk_frozen BK110.out 4; have hfz136_5 := blk_frozen BK110.out 5) | (go_at_call 42; (with_reducible refine (cubicleref18_has.calls kj2 t111 100 false _ A81.out).mono ?_); rintro e w' ⟨rfl, ⟨nd, rfl⟩⟩) | (go_at_call 42; (with_reducible refine (cubicleref18_has.calls kj2 t111 102 false _ A112.out).mono ?_); rintro e w' ⟨rfl, ⟨nd, rfl⟩⟩) | (go_at_call 42; (with_reducible refine (cubicleref18_has.calls kj2 t111 97 false _ A127.out).mono ?_); rintro e w' ⟨rfl, ⟨nd, rfl⟩⟩) | (go_at_call 42; (with_reducible refine (cubicleref18_has.calls kj2 t111 98 true _ A134.out).mono ?_); rintro e w' ⟨rfl, ⟨nd, rfl⟩⟩))
                          go_ret
                          exact ⟨by first | rfl | (simp [errW_none, errW_some] <;> rfl) | (simp [*, errW_none, errW_some] <;> rfl), by repeat (first | (with_reducible first | exact HB.out | apply below_alloc | apply pw_below_drewN | apply below_drew1 | refine below_set ?_ GE110.out) | exact HB.out)⟩
                        · replace c135 := Bool.eq_false_iff.mpr c135
                          subst c135
                          have H1 : (some (a0_5 == 0)) = some r := by rw [if_neg (show ¬ (false = true) by decide)] at H; exact H
                          clear H
                          have H := H1
                          clear H1
                          obtain rfl := Option.some.inj H
                          go_wp2_with (first | ((with_reducible refine gate_callee (f := 42) rfl ?_); refine goesL_ (some 36) rfl rfl Try.func42 (by kernel_rfl) rfl #[.string t111, .int .u8 104] rfl (by (try simp only [List.map_toArray, List.map_cons, List.map_nil]); first | done | rfl | (simp only [List.length_drop, List.length_take]; rfl)) ?_; (with_reducible refine (cubicleref18_has.calls kj2 t111 104 false _ A19.out).mono ?_); rintro e w' ⟨rfl, ⟨nd, rfl⟩⟩; refine ⟨_, rfl, ?_⟩; have hcz137_0 : wc.cell? ⟨gb110, 0, none⟩ = some (.int .i64 a0_0) := (blk_cell BK110.out 0).trans rfl; have hcz137_1 : wc.cell? ⟨gb110, 1, none⟩ = some (.int .i64 a0_1) := (blk_cell BK110.out 1).trans rfl; have hcz137_2 : wc.cell? ⟨gb110, 2, none⟩ = some (.int .i64 a0_2) := (blk_cell BK110.out 2).trans rfl; have hcz137_3 : wc.cell? ⟨gb110, 3, none⟩ = some (.int .u64 a0_3) := (blk_cell BK110.out 3).trans rfl; have hcz137_4 : wc.cell? ⟨gb110, 4, none⟩ = some (.int .u64 a0_4) := (blk_cell BK110.out 4).trans rfl; have hcz137_5 : wc.cell? ⟨gb110, 5, none⟩ = some (.int .u64 a0_5) := (blk_cell BK110.out 5).trans rfl; have hfz137_0 := blk_frozen BK110.out 0; have hfz137_1 := blk_frozen BK110.out 1; have hfz137_2 := blk_frozen BK110.out 2; have hfz137_3 := blk_frozen BK110.out 3; have hfz137_4 := blk_frozen BK110.out 4; have hfz137_5 := blk_frozen BK110.out 5) | (go_at_call 42; (with_reducible refine (cubicleref18_has.calls kj2 t111 100 false _ A81.out).mono ?_); rintro e w' ⟨rfl, ⟨nd, rfl⟩⟩) | (go_at_call 42; (with_reducible refine (cubicleref18_has.calls kj2 t111 102 false _ A112.out).mono ?_); rintro e w' ⟨rfl, ⟨nd, rfl⟩⟩) | (go_at_call 42; (with_reducible refine (cubicleref18_has.calls kj2 t111 97 false _ A127.out).mono ?_); rintro e w' ⟨rfl, ⟨nd, rfl⟩⟩) | (go_at_call 42; (with_reducible refine (cubicleref18_has.calls kj2 t111 98 false _ A134.out).mono ?_); rintro e w' ⟨rfl, ⟨nd, rfl⟩⟩))
                          go_ret
                          exact ⟨by first | rfl | (simp [errW_none, errW_some] <;> rfl) | (simp [*, errW_none, errW_some] <;> rfl), by repeat (first | (with_reducible first | exact HB.out | apply below_alloc | apply pw_below_drewN | apply below_drew1 | refine below_set ?_ GE110.out) | exact HB.out)⟩
                      · rw [if_neg c133] at H
                        have c133b0 : (a0_4 == 0) = false := beq_eq_false_iff_ne.mpr c133
                        have c133b1 : (a0_4 != 0) = true := bne_iff_ne.mpr c133
                        obtain rfl := Option.some.inj H
                        go_wp2_with (first | ((with_reducible refine gate_callee (f := 42) rfl ?_); refine goesL_ (some 36) rfl rfl Try.func42 (by kernel_rfl) rfl #[.string t111, .int .u8 104] rfl (by (try simp only [List.map_toArray, List.map_cons, List.map_nil]); first | done | rfl | (simp only [List.length_drop, List.length_take]; rfl)) ?_; (with_reducible refine (cubicleref18_has.calls kj2 t111 104 false _ A19.out).mono ?_); rintro e w' ⟨rfl, ⟨nd, rfl⟩⟩; refine ⟨_, rfl, ?_⟩; have hcz138_0 : wc.cell? ⟨gb110, 0, none⟩ = some (.int .i64 a0_0) := (blk_cell BK110.out 0).trans rfl; have hcz138_1 : wc.cell? ⟨gb110, 1, none⟩ = some (.int .i64 a0_1) := (blk_cell BK110.out 1).trans rfl; have hcz138_2 : wc.cell? ⟨gb110, 2, none⟩ = some (.int .i64 a0_2) := (blk_cell BK110.out 2).trans rfl; have hcz138_3 : wc.cell? ⟨gb110, 3, none⟩ = some (.int .u64 a0_3) := (blk_cell BK110.out 3).trans rfl; have hcz138_4 : wc.cell? ⟨gb110, 4, none⟩ = some (.int .u64 a0_4) := (blk_cell BK110.out 4).trans rfl; have hcz138_5 : wc.cell? ⟨gb110, 5, none⟩ = some (.int .u64 a0_5) := (blk_cell BK110.out 5).trans rfl; have hfz138_0 := blk_frozen BK110.out 0; have hfz138_1 := blk_frozen BK110.out 1; have hfz138_2 := blk_frozen BK110.out 2; have hfz138_3 := blk_frozen BK110.out 3; have hfz138_4 := blk_frozen BK110.out 4; have hfz138_5 := blk_frozen BK110.out 5) | (go_at_call 42; (with_reducible refine (cubicleref18_has.calls kj2 t111 100 false _ A81.out).mono ?_); rintro e w' ⟨rfl, ⟨nd, rfl⟩⟩) | (go_at_call 42; (with_reducible refine (cubicleref18_has.calls kj2 t111 102 false _ A112.out).mono ?_); rintro e w' ⟨rfl, ⟨nd, rfl⟩⟩) | (go_at_call 42; (with_reducible refine (cubicleref18_has.calls kj2 t111 97 false _ A127.out).mono ?_); rintro e w' ⟨rfl, ⟨nd, rfl⟩⟩))
                        go_ret
                        exact ⟨by first | rfl | (simp [errW_none, errW_some] <;> rfl) | (simp [*, errW_none, errW_some] <;> rfl), by repeat (first | (with_reducible first | exact HB.out | apply below_alloc | apply pw_below_drewN | apply below_drew1 | refine below_set ?_ GE110.out) | exact HB.out)⟩
                  · rw [if_neg c126] at H
                    have c126b0 : (a0_2 == 0) = false := beq_eq_false_iff_ne.mpr c126
                    have c126b1 : (a0_2 != 0) = true := bne_iff_ne.mpr c126
                    obtain rfl := Option.some.inj H
                    go_wp2_with (first | ((with_reducible refine gate_callee (f := 42) rfl ?_); refine goesL_ (some 36) rfl rfl Try.func42 (by kernel_rfl) rfl #[.string t111, .int .u8 104] rfl (by (try simp only [List.map_toArray, List.map_cons, List.map_nil]); first | done | rfl | (simp only [List.length_drop, List.length_take]; rfl)) ?_; (with_reducible refine (cubicleref18_has.calls kj2 t111 104 false _ A19.out).mono ?_); rintro e w' ⟨rfl, ⟨nd, rfl⟩⟩; refine ⟨_, rfl, ?_⟩; have hcz139_0 : wc.cell? ⟨gb110, 0, none⟩ = some (.int .i64 a0_0) := (blk_cell BK110.out 0).trans rfl; have hcz139_1 : wc.cell? ⟨gb110, 1, none⟩ = some (.int .i64 a0_1) := (blk_cell BK110.out 1).trans rfl; have hcz139_2 : wc.cell? ⟨gb110, 2, none⟩ = some (.int .i64 a0_2) := (blk_cell BK110.out 2).trans rfl; have hcz139_3 : wc.cell? ⟨gb110, 3, none⟩ = some (.int .u64 a0_3) := (blk_cell BK110.out 3).trans rfl; have hcz139_4 : wc.cell? ⟨gb110, 4, none⟩ = some (.int .u64 a0_4) := (blk_cell BK110.out 4).trans rfl; have hcz139_5 : wc.cell? ⟨gb110, 5, none⟩ = some (.int .u64 a0_5) := (blk_cell BK110.out 5).trans rfl; have hfz139_0 := blk_frozen BK110.out 0; have hfz139_1 := blk_frozen BK110.out 1; have hfz139_2 := blk_frozen BK110.out 2; have hfz139_3 := blk_frozen BK110.out 3; have hfz139_4 := blk_frozen BK110.out 4; have hfz139_5 := blk_frozen BK110.out 5) | (go_at_call 42; (with_reducible refine (cubicleref18_has.calls kj2 t111 100 false _ A81.out).mono ?_); rintro e w' ⟨rfl, ⟨nd, rfl⟩⟩) | (go_at_call 42; (with_reducible refine (cubicleref18_has.calls kj2 t111 102 false _ A112.out).mono ?_); rintro e w' ⟨rfl, ⟨nd, rfl⟩⟩))
                    go_ret
                    exact ⟨by first | rfl | (simp [errW_none, errW_some] <;> rfl) | (simp [*, errW_none, errW_some] <;> rfl), by repeat (first | (with_reducible first | exact HB.out | apply below_alloc | apply pw_below_drewN | apply below_drew1 | refine below_set ?_ GE110.out) | exact HB.out)⟩
              · rw [if_neg c111] at H
                have c111b0 : (a0_1 == 0) = false := beq_eq_false_iff_ne.mpr c111
                have c111b1 : (a0_1 != 0) = true := bne_iff_ne.mpr c111
                obtain rfl := Option.some.inj H
                go_wp2_with (first | ((with_reducible refine gate_callee (f := 42) rfl ?_); refine goesL_ (some 36) rfl rfl Try.func42 (by kernel_rfl) rfl #[.string t111, .int .u8 104] rfl (by (try simp only [List.map_toArray, List.map_cons, List.map_nil]); first | done | rfl | (simp only [List.length_drop, List.length_take]; rfl)) ?_; (with_reducible refine (cubicleref18_has.calls kj2 t111 104 false _ A19.out).mono ?_); rintro e w' ⟨rfl, ⟨nd, rfl⟩⟩; refine ⟨_, rfl, ?_⟩; have hcz140_0 : wc.cell? ⟨gb110, 0, none⟩ = some (.int .i64 a0_0) := (blk_cell BK110.out 0).trans rfl; have hcz140_1 : wc.cell? ⟨gb110, 1, none⟩ = some (.int .i64 a0_1) := (blk_cell BK110.out 1).trans rfl; have hcz140_2 : wc.cell? ⟨gb110, 2, none⟩ = some (.int .i64 a0_2) := (blk_cell BK110.out 2).trans rfl; have hcz140_3 : wc.cell? ⟨gb110, 3, none⟩ = some (.int .u64 a0_3) := (blk_cell BK110.out 3).trans rfl; have hcz140_4 : wc.cell? ⟨gb110, 4, none⟩ = some (.int .u64 a0_4) := (blk_cell BK110.out 4).trans rfl; have hcz140_5 : wc.cell? ⟨gb110, 5, none⟩ = some (.int .u64 a0_5) := (blk_cell BK110.out 5).trans rfl; have hfz140_0 := blk_frozen BK110.out 0; have hfz140_1 := blk_frozen BK110.out 1; have hfz140_2 := blk_frozen BK110.out 2; have hfz140_3 := blk_frozen BK110.out 3; have hfz140_4 := blk_frozen BK110.out 4; have hfz140_5 := blk_frozen BK110.out 5) | (go_at_call 42; (with_reducible refine (cubicleref18_has.calls kj2 t111 100 false _ A81.out).mono ?_); rintro e w' ⟨rfl, ⟨nd, rfl⟩⟩))
                go_ret
                exact ⟨by first | rfl | (simp [errW_none, errW_some] <;> rfl) | (simp [*, errW_none, errW_some] <;> rfl), by repeat (first | (with_reducible first | exact HB.out | apply below_alloc | apply pw_below_drewN | apply below_drew1 | refine below_set ?_ GE110.out) | exact HB.out)⟩
          · rw [if_neg c80] at H
            have c80b0 : (a0_3 == 0) = false := beq_eq_false_iff_ne.mpr c80
            have c80b1 : (a0_3 != 0) = true := bne_iff_ne.mpr c80
            obtain rfl := Option.some.inj H
            go_wp2_with (first | ((with_reducible refine gate_callee (f := 42) rfl ?_); refine goesL_ (some 36) rfl rfl Try.func42 (by kernel_rfl) rfl #[.string t111, .int .u8 104] rfl (by (try simp only [List.map_toArray, List.map_cons, List.map_nil]); first | done | rfl | (simp only [List.length_drop, List.length_take]; rfl)) ?_; (with_reducible refine (cubicleref18_has.calls kj2 t111 104 false _ A19.out).mono ?_); rintro e w' ⟨rfl, ⟨nd, rfl⟩⟩; refine ⟨_, rfl, ?_⟩; have hcz141_0 : wc.cell? ⟨gb110, 0, none⟩ = some (.int .i64 a0_0) := (blk_cell BK110.out 0).trans rfl; have hcz141_1 : wc.cell? ⟨gb110, 1, none⟩ = some (.int .i64 a0_1) := (blk_cell BK110.out 1).trans rfl; have hcz141_2 : wc.cell? ⟨gb110, 2, none⟩ = some (.int .i64 a0_2) := (blk_cell BK110.out 2).trans rfl; have hcz141_3 : wc.cell? ⟨gb110, 3, none⟩ = some (.int .u64 a0_3) := (blk_cell BK110.out 3).trans rfl; have hcz141_4 : wc.cell? ⟨gb110, 4, none⟩ = some (.int .u64 a0_4) := (blk_cell BK110.out 4).trans rfl; have hcz141_5 : wc.cell? ⟨gb110, 5, none⟩ = some (.int .u64 a0_5) := (blk_cell BK110.out 5).trans rfl; have hfz141_0 := blk_frozen BK110.out 0; have hfz141_1 := blk_frozen BK110.out 1; have hfz141_2 := blk_frozen BK110.out 2; have hfz141_3 := blk_frozen BK110.out 3; have hfz141_4 := blk_frozen BK110.out 4; have hfz141_5 := blk_frozen BK110.out 5))
            go_ret
            exact ⟨by first | rfl | (simp [errW_none, errW_some] <;> rfl) | (simp [*, errW_none, errW_some] <;> rfl), by repeat (first | (with_reducible first | exact HB.out | apply below_alloc | apply pw_below_drewN | apply below_drew1 | refine below_set ?_ GE110.out) | exact HB.out)⟩

end Go.Proofs.Ytdmiingneodcbaa.PDecodeOf
