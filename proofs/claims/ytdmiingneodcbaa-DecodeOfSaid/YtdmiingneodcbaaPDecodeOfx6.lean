-- Laid by a program of this session, which builds on the kit's print: it takes some functions' texts as they are given to it.
import Derived.Test.YtdmiingneodcbaaPDecodeOfx0
import Derived.Test.YtdmiingneodcbaaPDecodeOfx1
import Derived.Test.YtdmiingneodcbaaPDecodeOfx2
import Derived.Test.YtdmiingneodcbaaPDecodeOfx3
import Derived.Test.YtdmiingneodcbaaPDecodeOfx4
import Derived.Test.YtdmiingneodcbaaPDecodeOfx5
namespace Go.Proofs.Ytdmiingneodcbaa.PDecodeOf
open Go.RowKit Go.Proofs.YtdmiingneodcbaaW.PrintWords Go.Proofs.YtdmiingneodcbaaW.PrintLast Go.Proofs.YtdmiingneodcbaaW.PrintMore
attribute [local go_sem] max2_int min2_int max_two min_two max_three min_three max_four min_four   -- for this text's walks alone
set_option linter.unusedVariables false
set_option linter.unusedSimpArgs false

attribute [local go_sem high] eqA25
/-! ### cubicleref18_Of: function 13 -/
mutual
def cubicleref18_Of.j0 : Nat → ByteArray → Bool → Int → Int → Int → Int → Int → Int → Option (Int × Int × Int × Int × Int × Int × Int)
  | 0, _, _, _, _, _, _, _, _ => none
  | k + 1, x0, x20, x163000, x163001, x163002, x163003, x163004, x163005 => if x20 = true then (some (x163000, x163001, x163002, x163003, x163004, x163005, 2)) else (if 0 < (x0.size : Int) then ((cubicleref18_asks.f (wrap64 (bt x0 0))).bind fun t163 => (cubicleref18_Of.l0 k x0 t163 1 0 (wrap64 (bt x0 0)) x163001 x163002 x163003 x163004 x163005)) else (none))
def cubicleref18_Of.l0 : Nat → ByteArray → ByteArray → Int → Int → Int → Int → Int → Int → Int → Int → Option (Int × Int × Int × Int × Int × Int × Int)
  | 0, _, _, _, _, _, _, _, _, _, _ => none
  | k + 1, x0, x5, x6, x7, x163000, x163001, x163002, x163003, x163004, x163005 => if x7 < (x5.size : Int) then (if 0 ≤ x7 then (if (bt x5 x7) = 104 then ((cubicleref18_word.f k x0 x6).bind fun t164 => (cubicleref18_Of.l0 k x0 x5 (wrap64 (x6 + 8)) (wrap64 (x7 + 1)) x163000 x163001 x163002 t164 x163004 x163005)) else (if (bt x5 x7) = 97 then ((cubicleref18_word.f k x0 x6).bind fun t165 => (cubicleref18_Of.l0 k x0 x5 (wrap64 (x6 + 8)) (wrap64 (x7 + 1)) x163000 x163001 x163002 x163003 t165 x163005)) else (if (bt x5 x7) = 98 then ((cubicleref18_word.f k x0 x6).bind fun t166 => (cubicleref18_Of.l0 k x0 x5 (wrap64 (x6 + 8)) (wrap64 (x7 + 1)) x163000 x163001 x163002 x163003 x163004 t166)) else (if (bt x5 x7) = 100 then ((cubicleref18_word.f k x0 x6).bind fun t167 => (cubicleref18_Of.l0 k x0 x5 (wrap64 (x6 + 1)) (wrap64 (x7 + 1)) x163000 (wrap64 (Int.tmod t167 256)) x163002 x163003 x163004 x163005)) else ((cubicleref18_word.f k x0 x6).bind fun t168 => (cubicleref18_Of.l0 k x0 x5 (wrap64 (x6 + 1)) (wrap64 (x7 + 1)) x163000 x163001 (wrap64 (Int.tmod t168 256)) x163003 x163004 x163005)))))) else (none)) else ((cubicleref18_Formed.f k x163000 x163001 x163002 x163003 x163004 x163005).bind fun t169 => (if t169 = true then ((cubicleref18_Bytes.f k x163000 x163001 x163002 x163003 x163004 x163005).bind fun t170 => (if t170.toList = x0.toList then (some (x163000, x163001, x163002, x163003, x163004, x163005, 0)) else (some (0, 0, 0, 0, 0, 0, 2)))) else (some (0, 0, 0, 0, 0, 0, 2))))
end
def cubicleref18_Of.f (k : Nat) (a0 : ByteArray) : Option (Int × Int × Int × Int × Int × Int × Int) := if (a0.size : Int) = 0 then (cubicleref18_Of.j0 k a0 true 0 0 0 0 0 0) else (if 0 < (a0.size : Int) then (if (bt a0 0) < 1 then (cubicleref18_Of.j0 k a0 true 0 0 0 0 0 0) else (cubicleref18_Of.j0 k a0 (decide ((bt a0 0) > 12)) 0 0 0 0 0 0)) else (none))
theorem cubicleref18_Of.mono_l : ∀ k, (∀ y0 y1 y2 y3 y4 y5 y6 y7, LeO (cubicleref18_Of.j0 k y0 y1 y2 y3 y4 y5 y6 y7) (cubicleref18_Of.j0 (k + 1) y0 y1 y2 y3 y4 y5 y6 y7)) ∧ (∀ y0 y1 y2 y3 y4 y5 y6 y7 y8 y9, LeO (cubicleref18_Of.l0 k y0 y1 y2 y3 y4 y5 y6 y7 y8 y9) (cubicleref18_Of.l0 (k + 1) y0 y1 y2 y3 y4 y5 y6 y7 y8 y9))
  | 0 => ⟨fun _ _ _ _ _ _ _ _ r h => by simp [cubicleref18_Of.j0] at h, fun _ _ _ _ _ _ _ _ _ _ r h => by simp [cubicleref18_Of.l0] at h⟩
  | k + 1 => by
    obtain ⟨ih0, ih1⟩ := cubicleref18_Of.mono_l k
    refine ⟨?_, ?_⟩
    · intro y0 y1 y2 y3 y4 y5 y6 y7
      unfold cubicleref18_Of.j0
      repeat' first
      | (with_reducible exact ih0 _ _ _ _ _ _ _ _)
      | (with_reducible exact ih1 _ _ _ _ _ _ _ _ _ _)
      | (with_reducible exact cubicleref18_Bytes.mono _ _ _ _ _ _ _)
      | (with_reducible exact cubicleref18_Formed.mono _ _ _ _ _ _ _)
      | (with_reducible exact cubicleref18_word.mono _ _ _)
      | (with_reducible exact LeO.refl _)
      | (with_reducible exact LeO.none _)
      | (with_reducible refine LeO.ite ?_ ?_)
      | (with_reducible refine LeO.bind ?_ (fun _ => ?_))
      | exact ih0 _ _ _ _ _ _ _ _
      | exact ih1 _ _ _ _ _ _ _ _ _ _
      | exact cubicleref18_Bytes.mono _ _ _ _ _ _ _
      | exact cubicleref18_Formed.mono _ _ _ _ _ _ _
      | exact cubicleref18_word.mono _ _ _
      | exact LeO.none _
      | refine LeO.ite ?_ ?_
      | refine LeO.bind ?_ (fun _ => ?_)
    · intro y0 y1 y2 y3 y4 y5 y6 y7 y8 y9
      unfold cubicleref18_Of.l0
      repeat' first
      | (with_reducible exact ih0 _ _ _ _ _ _ _ _)
      | (with_reducible exact ih1 _ _ _ _ _ _ _ _ _ _)
      | (with_reducible exact cubicleref18_Bytes.mono _ _ _ _ _ _ _)
      | (with_reducible exact cubicleref18_Formed.mono _ _ _ _ _ _ _)
      | (with_reducible exact cubicleref18_word.mono _ _ _)
      | (with_reducible exact LeO.refl _)
      | (with_reducible exact LeO.none _)
      | (with_reducible refine LeO.ite ?_ ?_)
      | (with_reducible refine LeO.bind ?_ (fun _ => ?_))
      | exact ih0 _ _ _ _ _ _ _ _
      | exact ih1 _ _ _ _ _ _ _ _ _ _
      | exact cubicleref18_Bytes.mono _ _ _ _ _ _ _
      | exact cubicleref18_Formed.mono _ _ _ _ _ _ _
      | exact cubicleref18_word.mono _ _ _
      | exact LeO.none _
      | refine LeO.ite ?_ ?_
      | refine LeO.bind ?_ (fun _ => ?_)
theorem cubicleref18_Of.mono : ∀ a0 k, LeO (cubicleref18_Of.f k a0) (cubicleref18_Of.f (k + 1) a0) := by
  intro a0 k
  obtain ⟨ih0, ih1⟩ := cubicleref18_Of.mono_l k
  unfold cubicleref18_Of.f
  repeat' first
      | (with_reducible exact ih0 _ _ _ _ _ _ _ _)
      | (with_reducible exact ih1 _ _ _ _ _ _ _ _ _ _)
      | (with_reducible exact cubicleref18_Bytes.mono _ _ _ _ _ _ _)
      | (with_reducible exact cubicleref18_Formed.mono _ _ _ _ _ _ _)
      | (with_reducible exact cubicleref18_word.mono _ _ _)
      | (with_reducible exact LeO.refl _)
      | (with_reducible exact LeO.none _)
      | (with_reducible refine LeO.ite ?_ ?_)
      | (with_reducible refine LeO.bind ?_ (fun _ => ?_))
      | exact ih0 _ _ _ _ _ _ _ _
      | exact ih1 _ _ _ _ _ _ _ _ _ _
      | exact cubicleref18_Bytes.mono _ _ _ _ _ _ _
      | exact cubicleref18_Formed.mono _ _ _ _ _ _ _
      | exact cubicleref18_word.mono _ _ _
      | exact LeO.none _
      | refine LeO.ite ?_ ?_
      | refine LeO.bind ?_ (fun _ => ?_)
set_option maxHeartbeats 8000000 in
set_option maxRecDepth 100000 in
theorem cubicleref18_Of.calls (k : Nat) (a0 : ByteArray) (r1 : Int) (r2 : Int) (r3 : Int) (r4 : Int) (r5 : Int) (r6 : Int) (r7 : Int) (w : World) (h : cubicleref18_Of.f k a0 = some (r1, r2, r3, r4, r5, r6, r7)) :
    Calls Try.prog 13 #[.string a0] w fun e w' => e = .returned (.tuple #[.agg #[.int .i64 r1, .int .i64 r2, .int .i64 r3, .int .u64 r4, .int .u64 r5, .int .u64 r6], .int .i64 r7]) ∧ Below w.heap.size w w' := by
  have hu25 := Try.underlying25
  have HB := Aside0.mk (Below.refl w.heap.size w)
  have H : (if (a0.size : Int) = 0 then (cubicleref18_Of.j0 k a0 true 0 0 0 0 0 0) else (if 0 < (a0.size : Int) then (if (bt a0 0) < 1 then (cubicleref18_Of.j0 k a0 true 0 0 0 0 0 0) else (cubicleref18_Of.j0 k a0 (decide ((bt a0 0) > 12)) 0 0 0 0 0 0)) else (none))) = some (r1, r2, r3, r4, r5, r6, r7) := h
  clear h
  have HC2 := Aside0.mk H
  clear H
  go_enter Try.func13, Try.ntmps13
  go_upto_region 2 with (first | ((with_reducible refine gate_dst (N := 2) rfl ?_); refine box_event ?hg (N := 2) ?hd (cs := #[.int .i64 0, .int .i64 0, .int .i64 0, .int .u64 0, .int .u64 0, .int .u64 0]) (t := 25) ?hr ?_; (case hd => rfl); (case hg => rfl); (case hr => first | (go_simp; done) | (go_simp; rfl)); intro gb161 hg w3 hbox hb; have n0_ := Aside0.mk (below_step (by repeat (first | (with_reducible first | exact HB.out | apply below_alloc | apply pw_below_drewN | apply below_drew1) | exact HB.out)) hb); have n1_ := Aside0.mk (hbox); have n2_ := Aside0.mk ((by rw [hg]; exact (below_size (by repeat (first | (with_reducible first | exact HB.out | apply below_alloc | apply pw_below_drewN | apply below_drew1) | exact HB.out))) : w.heap.size ≤ gb161)); have n3_ := Aside0.mk ((by rw [hg]; exact (below_size (by repeat (first | (with_reducible first | exact HB.out | apply below_alloc | apply pw_below_drewN | apply below_drew1) | exact HB.out))) : w.heap.size ≤ gb161)); clear HB; have HB := n0_; have BK161 := n1_; have GW161 := n2_; have GE161 := n3_; clear n0_ n1_ n2_ n3_; clear hb hbox hg) | ((with_reducible refine gate_dst (N := 4) rfl ?_); refine box_event ?hg (N := 4) ?hd (cs := #[.int .i64 0, .int .i64 0, .int .i64 0, .int .u64 0, .int .u64 0, .int .u64 0]) (t := 25) ?hr ?_; (case hd => rfl); (case hg => rfl); (case hr => first | (go_simp; done) | (go_simp; rfl)); intro gb162 hg w4 hbox hb; have n0_ := Aside0.mk (blk_below (g := gb161) (o := .cells #[.int .i64 0, .int .i64 0, .int .i64 0, .int .u64 0, .int .u64 0, .int .u64 0] 25 (0, 0)) (by (with_reducible repeat (first | refine blk_drewN ?_ _ | refine blk_drew ?_ | refine blk_alloc ?_ _)); exact BK161.out) hb); have n1_ := Aside0.mk (below_step (by repeat (first | (with_reducible first | exact HB.out | apply below_alloc | apply pw_below_drewN | apply below_drew1 | refine below_set ?_ GE161.out) | exact HB.out)) hb); have n2_ := Aside0.mk (hbox); have n3_ := Aside0.mk ((by rw [hg]; exact (below_size (by repeat (first | (with_reducible first | exact HB.out | apply below_alloc | apply pw_below_drewN | apply below_drew1 | refine below_set ?_ GE161.out) | exact HB.out))) : w.heap.size ≤ gb162)); have n4_ := Aside0.mk ((by rw [hg]; exact (below_size (by repeat (first | (with_reducible first | exact HB.out | apply below_alloc | apply pw_below_drewN | apply below_drew1 | refine below_set ?_ GE161.out) | exact HB.out))) : w.heap.size ≤ gb162)); have n5_ := Aside0.mk ((by rw [hg]; exact Nat.ne_of_lt (blk_lt (g := gb161) (o := .cells #[.int .i64 0, .int .i64 0, .int .i64 0, .int .u64 0, .int .u64 0, .int .u64 0] 25 (0, 0)) (by (with_reducible repeat (first | refine blk_drewN ?_ _ | refine blk_drew ?_ | refine blk_alloc ?_ _)); exact BK161.out)) : gb161 ≠ gb162)); have n6_ := Aside0.mk ((by rw [hg]; exact Nat.ne_of_gt (blk_lt (g := gb161) (o := .cells #[.int .i64 0, .int .i64 0, .int .i64 0, .int .u64 0, .int .u64 0, .int .u64 0] 25 (0, 0)) (by (with_reducible repeat (first | refine blk_drewN ?_ _ | refine blk_drew ?_ | refine blk_alloc ?_ _)); exact BK161.out)) : gb162 ≠ gb161)); clear BK161; clear HB; have BK161 := n0_; have HB := n1_; have BK162 := n2_; have GW162 := n3_; have GE162 := n4_; have NB161_162 := n5_; have NB162_161 := n6_; clear n0_ n1_ n2_ n3_ n4_ n5_ n6_; clear hb hbox hg))
  (try simp only [Act.put, List.setIfInBounds_toArray, List.set_cons_zero, List.set_cons_succ])
  go_cut [20] (fun v20 wc => ∃ (kq : Nat) (x20_1 : Bool), v20 = .bool x20_1 ∧ Aside0 (cubicleref18_Of.j0 kq a0 x20_1 0 0 0 0 0 0 = some (r1, r2, r3, r4, r5, r6, r7)) ∧ Aside0 (kq ≤ k) ∧ Aside0 (wc.heap[gb161]? = some (.cells #[.int .i64 0, .int .i64 0, .int .i64 0, .int .u64 0, .int .u64 0, .int .u64 0] 25 (0, 0))) ∧ Aside0 (wc.heap[gb162]? = some (.cells #[.int .i64 0, .int .i64 0, .int .i64 0, .int .u64 0, .int .u64 0, .int .u64 0] 25 (0, 0))) ∧ Aside0 (Below w.heap.size w wc))
  case first =>
    have H := HC2.out
    clear HC2
    by_cases c5 : (a0.size : Int) = 0
    · rw [if_pos c5] at H
      have c5b0 : ((a0.size : Int) == 0) = true := beq_iff_eq.mpr c5
      have c5b1 : ((a0.size : Int) != 0) = false := bne_eq_false_iff_eq.mpr c5
      clear c5
      (first | rw [c5b0] | (simp only [i64_w, i32_w]; rw [c5b0]) | skip)
      have H' := Aside0.mk H
      clear H
      go_wp2
      go_meet
      case rel => exact ⟨_, (true), (by first | rfl | (simp; done) | (simp [*]; done)), H', ⟨by first | omega | exact Nat.le_refl _⟩, ⟨by (with_reducible repeat (first | refine blk_drewN ?_ _ | refine blk_drew ?_ | refine blk_alloc ?_ _)); exact BK161.out⟩, ⟨by (with_reducible repeat (first | refine blk_drewN ?_ _ | refine blk_drew ?_ | refine blk_alloc ?_ _)); exact BK162.out⟩, ⟨by repeat (first | (with_reducible first | exact HB.out | apply below_alloc | apply pw_below_drewN | apply below_drew1 | refine below_set ?_ GE161.out | refine below_set ?_ GE162.out) | exact HB.out)⟩⟩
    · rw [if_neg c5] at H
      have c5b0 : ((a0.size : Int) == 0) = false := beq_eq_false_iff_ne.mpr c5
      have c5b1 : ((a0.size : Int) != 0) = true := bne_iff_ne.mpr c5
      (first | rw [c5b0] | (simp only [i64_w, i32_w]; rw [c5b0]) | skip)
      by_cases c6 : 0 < (a0.size : Int)
      · rw [if_pos c6] at H
        have c6b0 : decide (0 < (a0.size : Int)) = true := decide_eq_true c6
        have c6b1 : decide (0 < a0.size) = true := decide_eq_true (by omega)
        clear c6
        by_cases c8 : (bt a0 0) < 1
        · rw [if_pos c8] at H
          have c8b0 : decide ((bt a0 0) < 1) = true := decide_eq_true c8
          clear c8
          have H' := Aside0.mk H
          clear H
          have p7 : 0 ≤ (0 : Int) := (by omega)
          have q7 : 0 < a0.size := (by have : (0 : Int) < (a0.size : Int) := of_decide_eq_true (by first | (with_reducible assumption) | assumption); omega)
          have hx7 : ∀ h : 0 < a0.size, ((a0[0]'h).toNat : Int) = bt a0 0 := bt_at a0 0
          clear p7
          have qi7 : (0 < (a0.size : Int)) = True := eq_true (of_decide_eq_true (by first | (with_reducible assumption) | assumption))
          replace q7 := eq_true q7
          go_wp2
          go_meet
          case rel => exact ⟨_, (true), (by first | rfl | (simp; done) | (simp [*]; done)), H', ⟨by first | omega | exact Nat.le_refl _⟩, ⟨by (with_reducible repeat (first | refine blk_drewN ?_ _ | refine blk_drew ?_ | refine blk_alloc ?_ _)); exact BK161.out⟩, ⟨by (with_reducible repeat (first | refine blk_drewN ?_ _ | refine blk_drew ?_ | refine blk_alloc ?_ _)); exact BK162.out⟩, ⟨by repeat (first | (with_reducible first | exact HB.out | apply below_alloc | apply pw_below_drewN | apply below_drew1 | refine below_set ?_ GE161.out | refine below_set ?_ GE162.out) | exact HB.out)⟩⟩
        · rw [if_neg c8] at H
          have c8b0 : decide ((bt a0 0) < 1) = false := decide_eq_false c8
          clear c8
          have H' := Aside0.mk H
          clear H
          have p7 : 0 ≤ (0 : Int) := (by omega)
          have q7 : 0 < a0.size := (by have : (0 : Int) < (a0.size : Int) := of_decide_eq_true (by first | (with_reducible assumption) | assumption); omega)
          have hx7 : ∀ h : 0 < a0.size, ((a0[0]'h).toNat : Int) = bt a0 0 := bt_at a0 0
          clear p7
          have qi7 : (0 < (a0.size : Int)) = True := eq_true (of_decide_eq_true (by first | (with_reducible assumption) | assumption))
          replace q7 := eq_true q7
          have p9 : 0 ≤ (0 : Int) := (by omega)
          have q9 : 0 < a0.size := (by have : (0 : Int) < (a0.size : Int) := of_decide_eq_true (by first | (with_reducible assumption) | assumption); omega)
          have hx9 : ∀ h : 0 < a0.size, ((a0[0]'h).toNat : Int) = bt a0 0 := bt_at a0 0
          clear p9
          have qi9 : (0 < (a0.size : Int)) = True := eq_true (of_decide_eq_true (by first | (with_reducible assumption) | assumption))
          replace q9 := eq_true q9
          go_wp2
          go_meet
          case rel => exact ⟨_, (decide ((bt a0 0) > 12)), (by first | rfl | (simp; done) | (simp [*]; done)), H', ⟨by first | omega | exact Nat.le_refl _⟩, ⟨by (with_reducible repeat (first | refine blk_drewN ?_ _ | refine blk_drew ?_ | refine blk_alloc ?_ _)); exact BK161.out⟩, ⟨by (with_reducible repeat (first | refine blk_drewN ?_ _ | refine blk_drew ?_ | refine blk_alloc ?_ _)); exact BK162.out⟩, ⟨by repeat (first | (with_reducible first | exact HB.out | apply below_alloc | apply pw_below_drewN | apply below_drew1 | refine below_set ?_ GE161.out | refine below_set ?_ GE162.out) | exact HB.out)⟩⟩
      · rw [if_neg c6] at H
        exact absurd H (by simp)
  case rest =>
    clear HC2
    try clear c1
    try clear p2
    try clear c5
    try clear c5b0
    try clear c5b1
    try clear c6
    try clear c6b0
    try clear c6b1
    try clear p7
    try clear q7
    try clear hx7
    try clear qi7
    try clear c8
    try clear c8b0
    try clear p9
    try clear q9
    try clear hx9
    try clear qi9
    try clear p7
    try clear p9
    try clear q7
    try clear q9
    obtain ⟨kq, x20_1, rfl, HA, HJ1, BK161, BK162, HB⟩ := hcut
    cases kq with
    | zero => exact absurd HA.out (by simp [cubicleref18_Of.j0])
    | succ kj1 =>
      have H := HA.out
      clear HA
      simp only [cubicleref18_Of.j0] at H
      by_cases c10 : x20_1 = true
      · subst c10
        have H1 : (some (0, 0, 0, 0, 0, 0, 2)) = some (r1, r2, r3, r4, r5, r6, r7) := by rw [if_pos rfl] at H; exact H
        clear H
        have H := H1
        clear H1
        simp only [Option.some.injEq, Prod.mk.injEq] at H
        obtain ⟨rfl, rfl, rfl, rfl, rfl, rfl, rfl⟩ := H
        have hnb11 := NB162_161.out
        have hnc11 := NB161_162.out
        have hcz12_0 : wc.cell? ⟨gb162, 0, none⟩ = some (.int .i64 0) := (blk_cell BK162.out 0).trans rfl
        have hcz12_1 : wc.cell? ⟨gb162, 1, none⟩ = some (.int .i64 0) := (blk_cell BK162.out 1).trans rfl
        have hcz12_2 : wc.cell? ⟨gb162, 2, none⟩ = some (.int .i64 0) := (blk_cell BK162.out 2).trans rfl
        have hcz12_3 : wc.cell? ⟨gb162, 3, none⟩ = some (.int .u64 0) := (blk_cell BK162.out 3).trans rfl
        have hcz12_4 : wc.cell? ⟨gb162, 4, none⟩ = some (.int .u64 0) := (blk_cell BK162.out 4).trans rfl
        have hcz12_5 : wc.cell? ⟨gb162, 5, none⟩ = some (.int .u64 0) := (blk_cell BK162.out 5).trans rfl
        have hfz12_0 := blk_frozen BK162.out 0
        have hfz12_1 := blk_frozen BK162.out 1
        have hfz12_2 := blk_frozen BK162.out 2
        have hfz12_3 := blk_frozen BK162.out 3
        have hfz12_4 := blk_frozen BK162.out 4
        have hfz12_5 := blk_frozen BK162.out 5
        have hcz13_0 : wc.cell? ⟨gb161, 0, none⟩ = some (.int .i64 0) := (blk_cell BK161.out 0).trans rfl
        have hcz13_1 : wc.cell? ⟨gb161, 1, none⟩ = some (.int .i64 0) := (blk_cell BK161.out 1).trans rfl
        have hcz13_2 : wc.cell? ⟨gb161, 2, none⟩ = some (.int .i64 0) := (blk_cell BK161.out 2).trans rfl
        have hcz13_3 : wc.cell? ⟨gb161, 3, none⟩ = some (.int .u64 0) := (blk_cell BK161.out 3).trans rfl
        have hcz13_4 : wc.cell? ⟨gb161, 4, none⟩ = some (.int .u64 0) := (blk_cell BK161.out 4).trans rfl
        have hcz13_5 : wc.cell? ⟨gb161, 5, none⟩ = some (.int .u64 0) := (blk_cell BK161.out 5).trans rfl
        have hfz13_0 := blk_frozen BK161.out 0
        have hfz13_1 := blk_frozen BK161.out 1
        have hfz13_2 := blk_frozen BK161.out 2
        have hfz13_3 := blk_frozen BK161.out 3
        have hfz13_4 := blk_frozen BK161.out 4
        have hfz13_5 := blk_frozen BK161.out 5
        go_wp2
        refine bodyPost_ret (results_ct rfl _ _ gb161 25 #[.int .i64 0, .int .i64 0, .int .i64 0, .int .u64 0, .int .u64 0, .int .u64 0] (0, 0) _ rfl (by (with_reducible repeat (first | refine blk_drewN ?_ _ | refine blk_drew ?_ | refine blk_alloc ?_ _)); refine blk_put (cs := #[.int .i64 0, .int .i64 0, .int .i64 0, .int .u64 0, .int .u64 0, .int .u64 0]) ?_ 5 _ rfl; (with_reducible repeat (first | refine blk_drewN ?_ _ | refine blk_drew ?_ | refine blk_alloc ?_ _)); refine blk_put (cs := #[.int .i64 0, .int .i64 0, .int .i64 0, .int .u64 0, .int .u64 0, .int .u64 0]) ?_ 4 _ rfl; (with_reducible repeat (first | refine blk_drewN ?_ _ | refine blk_drew ?_ | refine blk_alloc ?_ _)); refine blk_put (cs := #[.int .i64 0, .int .i64 0, .int .i64 0, .int .u64 0, .int .u64 0, .int .u64 0]) ?_ 3 _ rfl; (with_reducible repeat (first | refine blk_drewN ?_ _ | refine blk_drew ?_ | refine blk_alloc ?_ _)); refine blk_put (cs := #[.int .i64 0, .int .i64 0, .int .i64 0, .int .u64 0, .int .u64 0, .int .u64 0]) ?_ 2 _ rfl; (with_reducible repeat (first | refine blk_drewN ?_ _ | refine blk_drew ?_ | refine blk_alloc ?_ _)); refine blk_put (cs := #[.int .i64 0, .int .i64 0, .int .i64 0, .int .u64 0, .int .u64 0, .int .u64 0]) ?_ 1 _ rfl; (with_reducible repeat (first | refine blk_drewN ?_ _ | refine blk_drew ?_ | refine blk_alloc ?_ _)); refine blk_put (cs := #[.int .i64 0, .int .i64 0, .int .i64 0, .int .u64 0, .int .u64 0, .int .u64 0]) ?_ 0 _ rfl; (with_reducible repeat (first | refine blk_drewN ?_ _ | refine blk_drew ?_ | refine blk_alloc ?_ _)); exact BK161.out) Try.underlying25 rfl (by kernel_rfl)) rfl ?_
        exact ⟨by first | rfl | (simp [errW_none, errW_some] <;> rfl) | (simp [*, errW_none, errW_some] <;> rfl), by repeat (first | (with_reducible first | exact HB.out | apply below_alloc | apply pw_below_drewN | apply below_drew1 | refine below_set ?_ GE161.out | refine below_set ?_ GE162.out) | exact HB.out)⟩
      · replace c10 := Bool.eq_false_iff.mpr c10
        subst c10
        have H1 : (if 0 < (a0.size : Int) then ((cubicleref18_asks.f (wrap64 (bt a0 0))).bind fun t163 => (cubicleref18_Of.l0 kj1 a0 t163 1 0 (wrap64 (bt a0 0)) 0 0 0 0 0)) else (none)) = some (r1, r2, r3, r4, r5, r6, r7) := by rw [if_neg (show ¬ (false = true) by decide)] at H; exact H
        clear H
        have H := H1
        clear H1
        by_cases c14 : 0 < (a0.size : Int)
        · rw [if_pos c14] at H
          have c14b0 : decide (0 < (a0.size : Int)) = true := decide_eq_true c14
          have c14b1 : decide (0 < a0.size) = true := decide_eq_true (by omega)
          clear c14
          replace H := Option.bind_eq_some_iff.mp H
          obtain ⟨t163, A160, H⟩ := H
          replace H : (cubicleref18_Of.l0 kj1 a0 t163 1 0 (wrap64 (bt a0 0)) 0 0 0 0 0) = some (r1, r2, r3, r4, r5, r6, r7) := H
          have A16 := Aside0.mk A160
          clear A160
          have H' := Aside0.mk H
          clear H
          have p15 : 0 ≤ (0 : Int) := (by omega)
          have q15 : 0 < a0.size := (by have : (0 : Int) < (a0.size : Int) := of_decide_eq_true (by first | (with_reducible assumption) | assumption); omega)
          have hx15 : ∀ h : 0 < a0.size, ((a0[0]'h).toNat : Int) = bt a0 0 := bt_at a0 0
          clear p15
          have qi15 : (0 < (a0.size : Int)) = True := eq_true (of_decide_eq_true (by first | (with_reducible assumption) | assumption))
          replace q15 := eq_true q15
          have hnb17 := NB162_161.out
          have hnc17 := NB161_162.out
          have hcz18_0 : wc.cell? ⟨gb162, 0, none⟩ = some (.int .i64 0) := (blk_cell BK162.out 0).trans rfl
          have hcz18_1 : wc.cell? ⟨gb162, 1, none⟩ = some (.int .i64 0) := (blk_cell BK162.out 1).trans rfl
          have hcz18_2 : wc.cell? ⟨gb162, 2, none⟩ = some (.int .i64 0) := (blk_cell BK162.out 2).trans rfl
          have hcz18_3 : wc.cell? ⟨gb162, 3, none⟩ = some (.int .u64 0) := (blk_cell BK162.out 3).trans rfl
          have hcz18_4 : wc.cell? ⟨gb162, 4, none⟩ = some (.int .u64 0) := (blk_cell BK162.out 4).trans rfl
          have hcz18_5 : wc.cell? ⟨gb162, 5, none⟩ = some (.int .u64 0) := (blk_cell BK162.out 5).trans rfl
          have hfz18_0 := blk_frozen BK162.out 0
          have hfz18_1 := blk_frozen BK162.out 1
          have hfz18_2 := blk_frozen BK162.out 2
          have hfz18_3 := blk_frozen BK162.out 3
          have hfz18_4 := blk_frozen BK162.out 4
          have hfz18_5 := blk_frozen BK162.out 5
          go_wp2_with (first | ((with_reducible refine gate_callee (f := 39) rfl ?_); refine goesL_ (some 28) rfl rfl Try.func39 (by kernel_rfl) rfl #[.int .i64 (wrap64 (bt a0 0))] rfl (by (try simp only [List.map_toArray, List.map_cons, List.map_nil]); first | done | rfl | (simp only [List.length_drop, List.length_take]; rfl)) ?_; (with_reducible refine (cubicleref18_asks.calls (wrap64 (bt a0 0)) t163 _ A16.out).mono ?_); rintro e w19 ⟨rfl, hb⟩; refine ⟨_, rfl, ?_⟩; have n0_ := Aside0.mk (blk_below (g := gb161) (o := .cells #[.int .i64 0, .int .i64 0, .int .i64 0, .int .u64 0, .int .u64 0, .int .u64 0] 25 (0, 0)) (by (with_reducible repeat (first | refine blk_drewN ?_ _ | refine blk_drew ?_ | refine blk_alloc ?_ _)); refine blk_far ?_ NB161_162.out _; (with_reducible repeat (first | refine blk_drewN ?_ _ | refine blk_drew ?_ | refine blk_alloc ?_ _)); exact BK161.out) hb); have n1_ := Aside0.mk (blk_below (g := gb162) (o := .cells #[.int .i64 (wrap64 (bt a0 0)), .int .i64 0, .int .i64 0, .int .u64 0, .int .u64 0, .int .u64 0] 25 (0, 0)) (by (with_reducible repeat (first | refine blk_drewN ?_ _ | refine blk_drew ?_ | refine blk_alloc ?_ _)); refine blk_put (cs := #[.int .i64 0, .int .i64 0, .int .i64 0, .int .u64 0, .int .u64 0, .int .u64 0]) ?_ 0 _ rfl; (with_reducible repeat (first | refine blk_drewN ?_ _ | refine blk_drew ?_ | refine blk_alloc ?_ _)); exact BK162.out) hb); have n2_ := Aside0.mk (below_step (by repeat (first | (with_reducible first | exact HB.out | apply below_alloc | apply pw_below_drewN | apply below_drew1 | refine below_set ?_ GE161.out | refine below_set ?_ GE162.out) | exact HB.out)) hb); clear BK161; clear BK162; clear HB; have BK161 := n0_; have BK162 := n1_; have HB := n2_; clear n0_ n1_ n2_; (try clear hb); (try clear hb2); (try clear hk); (try clear hi)))
          go_loopg [6, 7] kj1 (fun kq v6 v7 w' => ∃ (x6_2 : Int) (x7_2 : Int) (x163001_2 : Int) (x163002_2 : Int) (x163003_2 : Int) (x163004_2 : Int) (x163005_2 : Int), v6 = .int .i64 x6_2 ∧ v7 = .int .i64 x7_2 ∧ Aside0 (cubicleref18_Of.l0 kq a0 t163 x6_2 x7_2 (wrap64 (bt a0 0)) x163001_2 x163002_2 x163003_2 x163004_2 x163005_2 = some (r1, r2, r3, r4, r5, r6, r7)) ∧ Aside0 (kq ≤ kj1) ∧ Aside0 (w'.heap[gb161]? = some (.cells #[.int .i64 0, .int .i64 0, .int .i64 0, .int .u64 0, .int .u64 0, .int .u64 0] 25 (0, 0))) ∧ Aside0 (w'.heap[gb162]? = some (.cells #[.int .i64 (wrap64 (bt a0 0)), .int .i64 x163001_2, .int .i64 x163002_2, .int .u64 x163003_2, .int .u64 x163004_2, .int .u64 x163005_2] 25 (0, 0))) ∧ Aside0 (Below w.heap.size w w'))
          case atStart => exact ⟨(1), (0), (0), (0), (0), (0), (0), (by first | rfl | (simp; done) | (simp [*]; done)), (by first | rfl | (simp; done) | (simp [*]; done)), H', ⟨Nat.le_refl _⟩, ⟨by (with_reducible repeat (first | refine blk_drewN ?_ _ | refine blk_drew ?_ | refine blk_alloc ?_ _)); exact BK161.out⟩, ⟨by (with_reducible repeat (first | refine blk_drewN ?_ _ | refine blk_drew ?_ | refine blk_alloc ?_ _)); exact BK162.out⟩, ⟨by repeat (first | (with_reducible first | exact HB.out | apply below_alloc | apply pw_below_drewN | apply below_drew1 | refine below_set ?_ GE161.out | refine below_set ?_ GE162.out) | exact HB.out)⟩⟩
          case round =>
            clear H'
            try clear c1
            try clear p1
            try clear q1
            try clear hx1
            try clear qi1
            try clear p2
            try clear c3
            try clear c5
            try clear c5b0
            try clear c5b1
            try clear c6
            try clear c6b0
            try clear c6b1
            try clear p6
            try clear p7
            try clear q7
            try clear hx7
            try clear qi7
            try clear c8
            try clear c8b0
            try clear p9
            try clear q9
            try clear hx9
            try clear qi9
            try clear c10
            try clear c11
            try clear c13
            try clear c14
            try clear c14b0
            try clear c14b1
            try clear p15
            try clear q15
            try clear hx15
            try clear qi15
            try clear c17
            try clear hcz12_0
            try clear hcz12_1
            try clear hcz12_2
            try clear hcz12_3
            try clear hcz12_4
            try clear hcz12_5
            try clear hcz13_0
            try clear hcz13_1
            try clear hcz13_2
            try clear hcz13_3
            try clear hcz13_4
            try clear hcz13_5
            try clear hcz18_0
            try clear hcz18_1
            try clear hcz18_2
            try clear hcz18_3
            try clear hcz18_4
            try clear hcz18_5
            try clear hfz12_0
            try clear hfz12_1
            try clear hfz12_2
            try clear hfz12_3
            try clear hfz12_4
            try clear hfz12_5
            try clear hfz13_0
            try clear hfz13_1
            try clear hfz13_2
            try clear hfz13_3
            try clear hfz13_4
            try clear hfz13_5
            try clear hfz18_0
            try clear hfz18_1
            try clear hfz18_2
            try clear hfz18_3
            try clear hfz18_4
            try clear hfz18_5
            try clear p15
            try clear p2
            try clear p7
            try clear p9
            try clear q15
            try clear q7
            try clear q9
            obtain ⟨x6_2, x7_2, x163001_2, x163002_2, x163003_2, x163004_2, x163005_2, rfl, rfl, HA, HK2, BK161, BK162, HB⟩ := hrel
            cases gk with
            | zero => exact absurd HA.out (by simp [cubicleref18_Of.l0])
            | succ k2 =>
              have H := HA.out
              clear HA
              simp only [cubicleref18_Of.l0] at H
              by_cases c20 : x7_2 < (t163.size : Int)
              · rw [if_pos c20] at H
                have c20b0 : decide (x7_2 < (t163.size : Int)) = true := decide_eq_true c20
                clear c20
                by_cases c21 : 0 ≤ x7_2
                · rw [if_pos c21] at H
                  have c21b0 : decide (0 ≤ x7_2) = true := decide_eq_true c21
                  clear c21
                  by_cases c23 : (bt t163 x7_2) = 104
                  · rw [if_pos c23] at H
                    have c23b0 : ((bt t163 x7_2) == 104) = true := beq_iff_eq.mpr c23
                    have c23b1 : ((bt t163 x7_2) != 104) = false := bne_eq_false_iff_eq.mpr c23
                    clear c23
                    replace H := Option.bind_eq_some_iff.mp H
                    obtain ⟨t164, A240, H⟩ := H
                    replace H : (cubicleref18_Of.l0 k2 a0 t163 (wrap64 (x6_2 + 8)) (wrap64 (x7_2 + 1)) (wrap64 (bt a0 0)) x163001_2 x163002_2 t164 x163004_2 x163005_2) = some (r1, r2, r3, r4, r5, r6, r7) := H
                    have A24 := Aside0.mk A240
                    clear A240
                    have H' := Aside0.mk H
                    clear H
                    have p22 : 0 ≤ (x7_2 : Int) := of_decide_eq_true (by first | (with_reducible assumption) | assumption)
                    have q22 : x7_2 < (t163.size : Int) := of_decide_eq_true (by first | (with_reducible assumption) | assumption)
                    have hx22 := bt_at t163 x7_2
                    replace p22 := eq_true p22
                    replace q22 := eq_true q22
                    go_wp2_with (first | ((with_reducible refine gate_callee (f := 40) rfl ?_); refine goesL_ (some 50) rfl rfl Try.func40 (by kernel_rfl) rfl #[.string a0, .int .i64 x6_2] rfl (by (try simp only [List.map_toArray, List.map_cons, List.map_nil]); first | done | rfl | (simp only [List.length_drop, List.length_take]; rfl)) ?_; (with_reducible refine (cubicleref18_word.calls k2 a0 x6_2 t164 _ A24.out).mono ?_); rintro e w' ⟨rfl, ⟨nd, rfl⟩⟩; refine ⟨_, rfl, ?_⟩; (try (rw [drewN_self wr]; generalize hq_ : World.drewN wr _ = wr; have n0_ : Aside0 (wr.heap[gb161]? = some (.cells #[.int .i64 0, .int .i64 0, .int .i64 0, .int .u64 0, .int .u64 0, .int .u64 0] 25 (0, 0))) := ⟨by rw [← hq_]; exact (by (with_reducible repeat (first | refine blk_drewN ?_ _ | refine blk_drew ?_ | refine blk_alloc ?_ _)); exact BK161.out)⟩; have n1_ : Aside0 (wr.heap[gb162]? = some (.cells #[.int .i64 (wrap64 (bt a0 0)), .int .i64 x163001_2, .int .i64 x163002_2, .int .u64 x163003_2, .int .u64 x163004_2, .int .u64 x163005_2] 25 (0, 0))) := ⟨by rw [← hq_]; exact (by (with_reducible repeat (first | refine blk_drewN ?_ _ | refine blk_drew ?_ | refine blk_alloc ?_ _)); exact BK162.out)⟩; have n2_ : Aside0 (Below w.heap.size w wr) := ⟨by rw [← hq_]; exact (by repeat (first | (with_reducible first | exact HB.out | apply below_alloc | apply pw_below_drewN | apply below_drew1 | refine below_set ?_ GE161.out | refine below_set ?_ GE162.out) | exact HB.out))⟩; clear BK161 BK162 HB hq_; have BK161 := n0_; have BK162 := n1_; have HB := n2_; clear n0_ n1_ n2_)); have hnb25 := NB162_161.out; have hnc25 := NB161_162.out; have hcz26_0 : wr.cell? ⟨gb162, 0, none⟩ = some (.int .i64 (wrap64 (bt a0 0))) := (blk_cell BK162.out 0).trans rfl; have hcz26_1 : wr.cell? ⟨gb162, 1, none⟩ = some (.int .i64 x163001_2) := (blk_cell BK162.out 1).trans rfl; have hcz26_2 : wr.cell? ⟨gb162, 2, none⟩ = some (.int .i64 x163002_2) := (blk_cell BK162.out 2).trans rfl; have hcz26_3 : wr.cell? ⟨gb162, 3, none⟩ = some (.int .u64 x163003_2) := (blk_cell BK162.out 3).trans rfl; have hcz26_4 : wr.cell? ⟨gb162, 4, none⟩ = some (.int .u64 x163004_2) := (blk_cell BK162.out 4).trans rfl; have hcz26_5 : wr.cell? ⟨gb162, 5, none⟩ = some (.int .u64 x163005_2) := (blk_cell BK162.out 5).trans rfl; have hfz26_0 := blk_frozen BK162.out 0; have hfz26_1 := blk_frozen BK162.out 1; have hfz26_2 := blk_frozen BK162.out 2; have hfz26_3 := blk_frozen BK162.out 3; have hfz26_4 := blk_frozen BK162.out 4; have hfz26_5 := blk_frozen BK162.out 5))
                    go_roundg k2
                    case measure => have := HJ1.out; have := HK2.out; omega
                    case rel => exact ⟨(wrap64 (x6_2 + 8)), (wrap64 (x7_2 + 1)), (x163001_2), (x163002_2), (t164), (x163004_2), (x163005_2), (by first | rfl | (simp; done) | (simp [*]; done)), (by first | rfl | (simp; done) | (simp [*]; done)), H', ⟨by have := HJ1.out; have := HK2.out; omega⟩, ⟨by (with_reducible repeat (first | refine blk_drewN ?_ _ | refine blk_drew ?_ | refine blk_alloc ?_ _)); refine blk_far ?_ NB161_162.out _; (with_reducible repeat (first | refine blk_drewN ?_ _ | refine blk_drew ?_ | refine blk_alloc ?_ _)); exact BK161.out⟩, ⟨by (with_reducible repeat (first | refine blk_drewN ?_ _ | refine blk_drew ?_ | refine blk_alloc ?_ _)); refine blk_put (cs := #[.int .i64 (wrap64 (bt a0 0)), .int .i64 x163001_2, .int .i64 x163002_2, .int .u64 x163003_2, .int .u64 x163004_2, .int .u64 x163005_2]) ?_ 3 _ rfl; (with_reducible repeat (first | refine blk_drewN ?_ _ | refine blk_drew ?_ | refine blk_alloc ?_ _)); exact BK162.out⟩, ⟨by repeat (first | (with_reducible first | exact HB.out | apply below_alloc | apply pw_below_drewN | apply below_drew1 | refine below_set ?_ GE161.out | refine below_set ?_ GE162.out) | exact HB.out)⟩⟩
                  · rw [if_neg c23] at H
                    have c23b0 : ((bt t163 x7_2) == 104) = false := beq_eq_false_iff_ne.mpr c23
                    have c23b1 : ((bt t163 x7_2) != 104) = true := bne_iff_ne.mpr c23
                    by_cases c27 : (bt t163 x7_2) = 97
                    · rw [if_pos c27] at H
                      have c27b0 : ((bt t163 x7_2) == 97) = true := beq_iff_eq.mpr c27
                      have c27b1 : ((bt t163 x7_2) != 97) = false := bne_eq_false_iff_eq.mpr c27
                      clear c27
                      replace H := Option.bind_eq_some_iff.mp H
                      obtain ⟨t165, A280, H⟩ := H
                      replace H : (cubicleref18_Of.l0 k2 a0 t163 (wrap64 (x6_2 + 8)) (wrap64 (x7_2 + 1)) (wrap64 (bt a0 0)) x163001_2 x163002_2 x163003_2 t165 x163005_2) = some (r1, r2, r3, r4, r5, r6, r7) := H
                      have A28 := Aside0.mk A280
                      clear A280
                      have H' := Aside0.mk H
                      clear H
                      have p22 : 0 ≤ (x7_2 : Int) := of_decide_eq_true (by first | (with_reducible assumption) | assumption)
                      have q22 : x7_2 < (t163.size : Int) := of_decide_eq_true (by first | (with_reducible assumption) | assumption)
                      have hx22 := bt_at t163 x7_2
                      replace p22 := eq_true p22
                      replace q22 := eq_true q22
                      go_wp2_with (first | ((with_reducible refine gate_callee (f := 40) rfl ?_); refine goesL_ (some 58) rfl rfl Try.func40 (by kernel_rfl) rfl #[.string a0, .int .i64 x6_2] rfl (by (try simp only [List.map_toArray, List.map_cons, List.map_nil]); first | done | rfl | (simp only [List.length_drop, List.length_take]; rfl)) ?_; (with_reducible refine (cubicleref18_word.calls k2 a0 x6_2 t165 _ A28.out).mono ?_); rintro e w' ⟨rfl, ⟨nd, rfl⟩⟩; refine ⟨_, rfl, ?_⟩; (try (rw [drewN_self wr]; generalize hq_ : World.drewN wr _ = wr; have n0_ : Aside0 (wr.heap[gb161]? = some (.cells #[.int .i64 0, .int .i64 0, .int .i64 0, .int .u64 0, .int .u64 0, .int .u64 0] 25 (0, 0))) := ⟨by rw [← hq_]; exact (by (with_reducible repeat (first | refine blk_drewN ?_ _ | refine blk_drew ?_ | refine blk_alloc ?_ _)); exact BK161.out)⟩; have n1_ : Aside0 (wr.heap[gb162]? = some (.cells #[.int .i64 (wrap64 (bt a0 0)), .int .i64 x163001_2, .int .i64 x163002_2, .int .u64 x163003_2, .int .u64 x163004_2, .int .u64 x163005_2] 25 (0, 0))) := ⟨by rw [← hq_]; exact (by (with_reducible repeat (first | refine blk_drewN ?_ _ | refine blk_drew ?_ | refine blk_alloc ?_ _)); exact BK162.out)⟩; have n2_ : Aside0 (Below w.heap.size w wr) := ⟨by rw [← hq_]; exact (by repeat (first | (with_reducible first | exact HB.out | apply below_alloc | apply pw_below_drewN | apply below_drew1 | refine below_set ?_ GE161.out | refine below_set ?_ GE162.out) | exact HB.out))⟩; clear BK161 BK162 HB hq_; have BK161 := n0_; have BK162 := n1_; have HB := n2_; clear n0_ n1_ n2_)); have hnb29 := NB162_161.out; have hnc29 := NB161_162.out; have hcz30_0 : wr.cell? ⟨gb162, 0, none⟩ = some (.int .i64 (wrap64 (bt a0 0))) := (blk_cell BK162.out 0).trans rfl; have hcz30_1 : wr.cell? ⟨gb162, 1, none⟩ = some (.int .i64 x163001_2) := (blk_cell BK162.out 1).trans rfl; have hcz30_2 : wr.cell? ⟨gb162, 2, none⟩ = some (.int .i64 x163002_2) := (blk_cell BK162.out 2).trans rfl; have hcz30_3 : wr.cell? ⟨gb162, 3, none⟩ = some (.int .u64 x163003_2) := (blk_cell BK162.out 3).trans rfl; have hcz30_4 : wr.cell? ⟨gb162, 4, none⟩ = some (.int .u64 x163004_2) := (blk_cell BK162.out 4).trans rfl; have hcz30_5 : wr.cell? ⟨gb162, 5, none⟩ = some (.int .u64 x163005_2) := (blk_cell BK162.out 5).trans rfl; have hfz30_0 := blk_frozen BK162.out 0; have hfz30_1 := blk_frozen BK162.out 1; have hfz30_2 := blk_frozen BK162.out 2; have hfz30_3 := blk_frozen BK162.out 3; have hfz30_4 := blk_frozen BK162.out 4; have hfz30_5 := blk_frozen BK162.out 5))
                      go_roundg k2
                      case measure => have := HJ1.out; have := HK2.out; omega
                      case rel => exact ⟨(wrap64 (x6_2 + 8)), (wrap64 (x7_2 + 1)), (x163001_2), (x163002_2), (x163003_2), (t165), (x163005_2), (by first | rfl | (simp; done) | (simp [*]; done)), (by first | rfl | (simp; done) | (simp [*]; done)), H', ⟨by have := HJ1.out; have := HK2.out; omega⟩, ⟨by (with_reducible repeat (first | refine blk_drewN ?_ _ | refine blk_drew ?_ | refine blk_alloc ?_ _)); refine blk_far ?_ NB161_162.out _; (with_reducible repeat (first | refine blk_drewN ?_ _ | refine blk_drew ?_ | refine blk_alloc ?_ _)); exact BK161.out⟩, ⟨by (with_reducible repeat (first | refine blk_drewN ?_ _ | refine blk_drew ?_ | refine blk_alloc ?_ _)); refine blk_put (cs := #[.int .i64 (wrap64 (bt a0 0)), .int .i64 x163001_2, .int .i64 x163002_2, .int .u64 x163003_2, .int .u64 x163004_2, .int .u64 x163005_2]) ?_ 4 _ rfl; (with_reducible repeat (first | refine blk_drewN ?_ _ | refine blk_drew ?_ | refine blk_alloc ?_ _)); exact BK162.out⟩, ⟨by repeat (first | (with_reducible first | exact HB.out | apply below_alloc | apply pw_below_drewN | apply below_drew1 | refine below_set ?_ GE161.out | refine below_set ?_ GE162.out) | exact HB.out)⟩⟩
                    · rw [if_neg c27] at H
                      have c27b0 : ((bt t163 x7_2) == 97) = false := beq_eq_false_iff_ne.mpr c27
                      have c27b1 : ((bt t163 x7_2) != 97) = true := bne_iff_ne.mpr c27
                      by_cases c31 : (bt t163 x7_2) = 98
                      · rw [if_pos c31] at H
                        have c31b0 : ((bt t163 x7_2) == 98) = true := beq_iff_eq.mpr c31
                        have c31b1 : ((bt t163 x7_2) != 98) = false := bne_eq_false_iff_eq.mpr c31
                        clear c31
                        replace H := Option.bind_eq_some_iff.mp H
                        obtain ⟨t166, A320, H⟩ := H
                        replace H : (cubicleref18_Of.l0 k2 a0 t163 (wrap64 (x6_2 + 8)) (wrap64 (x7_2 + 1)) (wrap64 (bt a0 0)) x163001_2 x163002_2 x163003_2 x163004_2 t166) = some (r1, r2, r3, r4, r5, r6, r7) := H
                        have A32 := Aside0.mk A320
                        clear A320
                        have H' := Aside0.mk H
                        clear H
                        have p22 : 0 ≤ (x7_2 : Int) := of_decide_eq_true (by first | (with_reducible assumption) | assumption)
                        have q22 : x7_2 < (t163.size : Int) := of_decide_eq_true (by first | (with_reducible assumption) | assumption)
                        have hx22 := bt_at t163 x7_2
                        replace p22 := eq_true p22
                        replace q22 := eq_true q22
                        go_wp2_with (first | ((with_reducible refine gate_callee (f := 40) rfl ?_); refine goesL_ (some 66) rfl rfl Try.func40 (by kernel_rfl) rfl #[.string a0, .int .i64 x6_2] rfl (by (try simp only [List.map_toArray, List.map_cons, List.map_nil]); first | done | rfl | (simp only [List.length_drop, List.length_take]; rfl)) ?_; (with_reducible refine (cubicleref18_word.calls k2 a0 x6_2 t166 _ A32.out).mono ?_); rintro e w' ⟨rfl, ⟨nd, rfl⟩⟩; refine ⟨_, rfl, ?_⟩; (try (rw [drewN_self wr]; generalize hq_ : World.drewN wr _ = wr; have n0_ : Aside0 (wr.heap[gb161]? = some (.cells #[.int .i64 0, .int .i64 0, .int .i64 0, .int .u64 0, .int .u64 0, .int .u64 0] 25 (0, 0))) := ⟨by rw [← hq_]; exact (by (with_reducible repeat (first | refine blk_drewN ?_ _ | refine blk_drew ?_ | refine blk_alloc ?_ _)); exact BK161.out)⟩; have n1_ : Aside0 (wr.heap[gb162]? = some (.cells #[.int .i64 (wrap64 (bt a0 0)), .int .i64 x163001_2, .int .i64 x163002_2, .int .u64 x163003_2, .int .u64 x163004_2, .int .u64 x163005_2] 25 (0, 0))) := ⟨by rw [← hq_]; exact (by (with_reducible repeat (first | refine blk_drewN ?_ _ | refine blk_drew ?_ | refine blk_alloc ?_ _)); exact BK162.out)⟩; have n2_ : Aside0 (Below w.heap.size w wr) := ⟨by rw [← hq_]; exact (by repeat (first | (with_reducible first | exact HB.out | apply below_alloc | apply pw_below_drewN | apply below_drew1 | refine below_set ?_ GE161.out | refine below_set ?_ GE162.out) | exact HB.out))⟩; clear BK161 BK162 HB hq_; have BK161 := n0_; have BK162 := n1_; have HB := n2_; clear n0_ n1_ n2_)); have hnb33 := NB162_161.out; have hnc33 := NB161_162.out; have hcz34_0 : wr.cell? ⟨gb162, 0, none⟩ = some (.int .i64 (wrap64 (bt a0 0))) := (blk_cell BK162.out 0).trans rfl; have hcz34_1 : wr.cell? ⟨gb162, 1, none⟩ = some (.int .i64 x163001_2) := (blk_cell BK162.out 1).trans rfl; have hcz34_2 : wr.cell? ⟨gb162, 2, none⟩ = some (.int .i64 x163002_2) := (blk_cell BK162.out 2).trans rfl; have hcz34_3 : wr.cell? ⟨gb162, 3, none⟩ = some (.int .u64 x163003_2) := (blk_cell BK162.out 3).trans rfl; have hcz34_4 : wr.cell? ⟨gb162, 4, none⟩ = some (.int .u64 x163004_2) := (blk_cell BK162.out 4).trans rfl; have hcz34_5 : wr.cell? ⟨gb162, 5, none⟩ = some (.int .u64 x163005_2) := (blk_cell BK162.out 5).trans rfl; have hfz34_0 := blk_frozen BK162.out 0; have hfz34_1 := blk_frozen BK162.out 1; have hfz34_2 := blk_frozen BK162.out 2; have hfz34_3 := blk_frozen BK162.out 3; have hfz34_4 := blk_frozen BK162.out 4; have hfz34_5 := blk_frozen BK162.out 5))
                        go_roundg k2
                        case measure => have := HJ1.out; have := HK2.out; omega
                        case rel => exact ⟨(wrap64 (x6_2 + 8)), (wrap64 (x7_2 + 1)), (x163001_2), (x163002_2), (x163003_2), (x163004_2), (t166), (by first | rfl | (simp; done) | (simp [*]; done)), (by first | rfl | (simp; done) | (simp [*]; done)), H', ⟨by have := HJ1.out; have := HK2.out; omega⟩, ⟨by (with_reducible repeat (first | refine blk_drewN ?_ _ | refine blk_drew ?_ | refine blk_alloc ?_ _)); refine blk_far ?_ NB161_162.out _; (with_reducible repeat (first | refine blk_drewN ?_ _ | refine blk_drew ?_ | refine blk_alloc ?_ _)); exact BK161.out⟩, ⟨by (with_reducible repeat (first | refine blk_drewN ?_ _ | refine blk_drew ?_ | refine blk_alloc ?_ _)); refine blk_put (cs := #[.int .i64 (wrap64 (bt a0 0)), .int .i64 x163001_2, .int .i64 x163002_2, .int .u64 x163003_2, .int .u64 x163004_2, .int .u64 x163005_2]) ?_ 5 _ rfl; (with_reducible repeat (first | refine blk_drewN ?_ _ | refine blk_drew ?_ | refine blk_alloc ?_ _)); exact BK162.out⟩, ⟨by repeat (first | (with_reducible first | exact HB.out | apply below_alloc | apply pw_below_drewN | apply below_drew1 | refine below_set ?_ GE161.out | refine below_set ?_ GE162.out) | exact HB.out)⟩⟩
                      · rw [if_neg c31] at H
                        have c31b0 : ((bt t163 x7_2) == 98) = false := beq_eq_false_iff_ne.mpr c31
                        have c31b1 : ((bt t163 x7_2) != 98) = true := bne_iff_ne.mpr c31
                        by_cases c35 : (bt t163 x7_2) = 100
                        · rw [if_pos c35] at H
                          have c35b0 : ((bt t163 x7_2) == 100) = true := beq_iff_eq.mpr c35
                          have c35b1 : ((bt t163 x7_2) != 100) = false := bne_eq_false_iff_eq.mpr c35
                          clear c35
                          replace H := Option.bind_eq_some_iff.mp H
                          obtain ⟨t167, A360, H⟩ := H
                          replace H : (cubicleref18_Of.l0 k2 a0 t163 (wrap64 (x6_2 + 1)) (wrap64 (x7_2 + 1)) (wrap64 (bt a0 0)) (wrap64 (Int.tmod t167 256)) x163002_2 x163003_2 x163004_2 x163005_2) = some (r1, r2, r3, r4, r5, r6, r7) := H
                          have A36 := Aside0.mk A360
                          clear A360
                          have H' := Aside0.mk H
                          clear H
                          have p22 : 0 ≤ (x7_2 : Int) := of_decide_eq_true (by first | (with_reducible assumption) | assumption)
                          have q22 : x7_2 < (t163.size : Int) := of_decide_eq_true (by first | (with_reducible assumption) | assumption)
                          have hx22 := bt_at t163 x7_2
                          replace p22 := eq_true p22
                          replace q22 := eq_true q22
                          go_wp2_with (first | ((with_reducible refine gate_callee (f := 40) rfl ?_); refine goesL_ (some 74) rfl rfl Try.func40 (by kernel_rfl) rfl #[.string a0, .int .i64 x6_2] rfl (by (try simp only [List.map_toArray, List.map_cons, List.map_nil]); first | done | rfl | (simp only [List.length_drop, List.length_take]; rfl)) ?_; (with_reducible refine (cubicleref18_word.calls k2 a0 x6_2 t167 _ A36.out).mono ?_); rintro e w' ⟨rfl, ⟨nd, rfl⟩⟩; refine ⟨_, rfl, ?_⟩; (try (rw [drewN_self wr]; generalize hq_ : World.drewN wr _ = wr; have n0_ : Aside0 (wr.heap[gb161]? = some (.cells #[.int .i64 0, .int .i64 0, .int .i64 0, .int .u64 0, .int .u64 0, .int .u64 0] 25 (0, 0))) := ⟨by rw [← hq_]; exact (by (with_reducible repeat (first | refine blk_drewN ?_ _ | refine blk_drew ?_ | refine blk_alloc ?_ _)); exact BK161.out)⟩; have n1_ : Aside0 (wr.heap[gb162]? = some (.cells #[.int .i64 (wrap64 (bt a0 0)), .int .i64 x163001_2, .int .i64 x163002_2, .int .u64 x163003_2, .int .u64 x163004_2, .int .u64 x163005_2] 25 (0, 0))) := ⟨by rw [← hq_]; exact (by (with_reducible repeat (first | refine blk_drewN ?_ _ | refine blk_drew ?_ | refine blk_alloc ?_ _)); exact BK162.out)⟩; have n2_ : Aside0 (Below w.heap.size w wr) := ⟨by rw [← hq_]; exact (by repeat (first | (with_reducible first | exact HB.out | apply below_alloc | apply pw_below_drewN | apply below_drew1 | refine below_set ?_ GE161.out | refine below_set ?_ GE162.out) | exact HB.out))⟩; clear BK161 BK162 HB hq_; have BK161 := n0_; have BK162 := n1_; have HB := n2_; clear n0_ n1_ n2_)); have hnb37 := NB162_161.out; have hnc37 := NB161_162.out; have hcz38_0 : wr.cell? ⟨gb162, 0, none⟩ = some (.int .i64 (wrap64 (bt a0 0))) := (blk_cell BK162.out 0).trans rfl; have hcz38_1 : wr.cell? ⟨gb162, 1, none⟩ = some (.int .i64 x163001_2) := (blk_cell BK162.out 1).trans rfl; have hcz38_2 : wr.cell? ⟨gb162, 2, none⟩ = some (.int .i64 x163002_2) := (blk_cell BK162.out 2).trans rfl; have hcz38_3 : wr.cell? ⟨gb162, 3, none⟩ = some (.int .u64 x163003_2) := (blk_cell BK162.out 3).trans rfl; have hcz38_4 : wr.cell? ⟨gb162, 4, none⟩ = some (.int .u64 x163004_2) := (blk_cell BK162.out 4).trans rfl; have hcz38_5 : wr.cell? ⟨gb162, 5, none⟩ = some (.int .u64 x163005_2) := (blk_cell BK162.out 5).trans rfl; have hfz38_0 := blk_frozen BK162.out 0; have hfz38_1 := blk_frozen BK162.out 1; have hfz38_2 := blk_frozen BK162.out 2; have hfz38_3 := blk_frozen BK162.out 3; have hfz38_4 := blk_frozen BK162.out 4; have hfz38_5 := blk_frozen BK162.out 5))
                          go_roundg k2
                          case measure => have := HJ1.out; have := HK2.out; omega
                          case rel => exact ⟨(wrap64 (x6_2 + 1)), (wrap64 (x7_2 + 1)), (wrap64 (Int.tmod t167 256)), (x163002_2), (x163003_2), (x163004_2), (x163005_2), (by first | rfl | (simp; done) | (simp [*]; done)), (by first | rfl | (simp; done) | (simp [*]; done)), H', ⟨by have := HJ1.out; have := HK2.out; omega⟩, ⟨by (with_reducible repeat (first | refine blk_drewN ?_ _ | refine blk_drew ?_ | refine blk_alloc ?_ _)); refine blk_far ?_ NB161_162.out _; (with_reducible repeat (first | refine blk_drewN ?_ _ | refine blk_drew ?_ | refine blk_alloc ?_ _)); exact BK161.out⟩, ⟨by (with_reducible repeat (first | refine blk_drewN ?_ _ | refine blk_drew ?_ | refine blk_alloc ?_ _)); refine blk_put (cs := #[.int .i64 (wrap64 (bt a0 0)), .int .i64 x163001_2, .int .i64 x163002_2, .int .u64 x163003_2, .int .u64 x163004_2, .int .u64 x163005_2]) ?_ 1 _ rfl; (with_reducible repeat (first | refine blk_drewN ?_ _ | refine blk_drew ?_ | refine blk_alloc ?_ _)); exact BK162.out⟩, ⟨by repeat (first | (with_reducible first | exact HB.out | apply below_alloc | apply pw_below_drewN | apply below_drew1 | refine below_set ?_ GE161.out | refine below_set ?_ GE162.out) | exact HB.out)⟩⟩
                        · rw [if_neg c35] at H
                          have c35b0 : ((bt t163 x7_2) == 100) = false := beq_eq_false_iff_ne.mpr c35
                          have c35b1 : ((bt t163 x7_2) != 100) = true := bne_iff_ne.mpr c35
                          replace H := Option.bind_eq_some_iff.mp H
                          obtain ⟨t168, A390, H⟩ := H
                          replace H : (cubicleref18_Of.l0 k2 a0 t163 (wrap64 (x6_2 + 1)) (wrap64 (x7_2 + 1)) (wrap64 (bt a0 0)) x163001_2 (wrap64 (Int.tmod t168 256)) x163003_2 x163004_2 x163005_2) = some (r1, r2, r3, r4, r5, r6, r7) := H
                          have A39 := Aside0.mk A390
                          clear A390
                          have H' := Aside0.mk H
                          clear H
                          have p22 : 0 ≤ (x7_2 : Int) := of_decide_eq_true (by first | (with_reducible assumption) | assumption)
                          have q22 : x7_2 < (t163.size : Int) := of_decide_eq_true (by first | (with_reducible assumption) | assumption)
                          have hx22 := bt_at t163 x7_2
                          replace p22 := eq_true p22
                          replace q22 := eq_true q22
                          go_wp2_with (first | ((with_reducible refine gate_callee (f := 40) rfl ?_); refine goesL_ (some 40) rfl rfl Try.func40 (by kernel_rfl) rfl #[.string a0, .int .i64 x6_2] rfl (by (try simp only [List.map_toArray, List.map_cons, List.map_nil]); first | done | rfl | (simp only [List.length_drop, List.length_take]; rfl)) ?_; (with_reducible refine (cubicleref18_word.calls k2 a0 x6_2 t168 _ A39.out).mono ?_); rintro e w' ⟨rfl, ⟨nd, rfl⟩⟩; refine ⟨_, rfl, ?_⟩; (try (rw [drewN_self wr]; generalize hq_ : World.drewN wr _ = wr; have n0_ : Aside0 (wr.heap[gb161]? = some (.cells #[.int .i64 0, .int .i64 0, .int .i64 0, .int .u64 0, .int .u64 0, .int .u64 0] 25 (0, 0))) := ⟨by rw [← hq_]; exact (by (with_reducible repeat (first | refine blk_drewN ?_ _ | refine blk_drew ?_ | refine blk_alloc ?_ _)); exact BK161.out)⟩; have n1_ : Aside0 (wr.heap[gb162]? = some (.cells #[.int .i64 (wrap64 (bt a0 0)), .int .i64 x163001_2, .int .i64 x163002_2, .int .u64 x163003_2, .int .u64 x163004_2, .int .u64 x163005_2] 25 (0, 0))) := ⟨by rw [← hq_]; exact (by (with_reducible repeat (first | refine blk_drewN ?_ _ | refine blk_drew ?_ | refine blk_alloc ?_ _)); exact BK162.out)⟩; have n2_ : Aside0 (Below w.heap.size w wr) := ⟨by rw [← hq_]; exact (by repeat (first | (with_reducible first | exact HB.out | apply below_alloc | apply pw_below_drewN | apply below_drew1 | refine below_set ?_ GE161.out | refine below_set ?_ GE162.out) | exact HB.out))⟩; clear BK161 BK162 HB hq_; have BK161 := n0_; have BK162 := n1_; have HB := n2_; clear n0_ n1_ n2_)); have hnb40 := NB162_161.out; have hnc40 := NB161_162.out; have hcz41_0 : wr.cell? ⟨gb162, 0, none⟩ = some (.int .i64 (wrap64 (bt a0 0))) := (blk_cell BK162.out 0).trans rfl; have hcz41_1 : wr.cell? ⟨gb162, 1, none⟩ = some (.int .i64 x163001_2) := (blk_cell BK162.out 1).trans rfl; have hcz41_2 : wr.cell? ⟨gb162, 2, none⟩ = some (.int .i64 x163002_2) := (blk_cell BK162.out 2).trans rfl; have hcz41_3 : wr.cell? ⟨gb162, 3, none⟩ = some (.int .u64 x163003_2) := (blk_cell BK162.out 3).trans rfl; have hcz41_4 : wr.cell? ⟨gb162, 4, none⟩ = some (.int .u64 x163004_2) := (blk_cell BK162.out 4).trans rfl; have hcz41_5 : wr.cell? ⟨gb162, 5, none⟩ = some (.int .u64 x163005_2) := (blk_cell BK162.out 5).trans rfl; have hfz41_0 := blk_frozen BK162.out 0; have hfz41_1 := blk_frozen BK162.out 1; have hfz41_2 := blk_frozen BK162.out 2; have hfz41_3 := blk_frozen BK162.out 3; have hfz41_4 := blk_frozen BK162.out 4; have hfz41_5 := blk_frozen BK162.out 5))
                          go_roundg k2
                          case measure => have := HJ1.out; have := HK2.out; omega
                          case rel => exact ⟨(wrap64 (x6_2 + 1)), (wrap64 (x7_2 + 1)), (x163001_2), (wrap64 (Int.tmod t168 256)), (x163003_2), (x163004_2), (x163005_2), (by first | rfl | (simp; done) | (simp [*]; done)), (by first | rfl | (simp; done) | (simp [*]; done)), H', ⟨by have := HJ1.out; have := HK2.out; omega⟩, ⟨by (with_reducible repeat (first | refine blk_drewN ?_ _ | refine blk_drew ?_ | refine blk_alloc ?_ _)); refine blk_far ?_ NB161_162.out _; (with_reducible repeat (first | refine blk_drewN ?_ _ | refine blk_drew ?_ | refine blk_alloc ?_ _)); exact BK161.out⟩, ⟨by (with_reducible repeat (first | refine blk_drewN ?_ _ | refine blk_drew ?_ | refine blk_alloc ?_ _)); refine blk_put (cs := #[.int .i64 (wrap64 (bt a0 0)), .int .i64 x163001_2, .int .i64 x163002_2, .int .u64 x163003_2, .int .u64 x163004_2, .int .u64 x163005_2]) ?_ 2 _ rfl; (with_reducible repeat (first | refine blk_drewN ?_ _ | refine blk_drew ?_ | refine blk_alloc ?_ _)); exact BK162.out⟩, ⟨by repeat (first | (with_reducible first | exact HB.out | apply below_alloc | apply pw_below_drewN | apply below_drew1 | refine below_set ?_ GE161.out | refine below_set ?_ GE162.out) | exact HB.out)⟩⟩
                · rw [if_neg c21] at H
                  exact absurd H (by simp)
              · rw [if_neg c20] at H
                have c20b0 : decide (x7_2 < (t163.size : Int)) = false := decide_eq_false c20
                clear c20
                replace H := Option.bind_eq_some_iff.mp H
                obtain ⟨t169, A420, H⟩ := H
                replace H : (if t169 = true then ((cubicleref18_Bytes.f k2 (wrap64 (bt a0 0)) x163001_2 x163002_2 x163003_2 x163004_2 x163005_2).bind fun t170 => (if t170.toList = a0.toList then (some ((wrap64 (bt a0 0)), x163001_2, x163002_2, x163003_2, x163004_2, x163005_2, 0)) else (some (0, 0, 0, 0, 0, 0, 2)))) else (some (0, 0, 0, 0, 0, 0, 2))) = some (r1, r2, r3, r4, r5, r6, r7) := H
                have A42 := Aside0.mk A420
                clear A420
                by_cases c43 : t169 = true
                · subst c43
                  have H1 : ((cubicleref18_Bytes.f k2 (wrap64 (bt a0 0)) x163001_2 x163002_2 x163003_2 x163004_2 x163005_2).bind fun t170 => (if t170.toList = a0.toList then (some ((wrap64 (bt a0 0)), x163001_2, x163002_2, x163003_2, x163004_2, x163005_2, 0)) else (some (0, 0, 0, 0, 0, 0, 2)))) = some (r1, r2, r3, r4, r5, r6, r7) := by rw [if_pos rfl] at H; exact H
                  clear H
                  have H := H1
                  clear H1
                  replace H := Option.bind_eq_some_iff.mp H
                  obtain ⟨t170, A440, H⟩ := H
                  replace H : (if t170.toList = a0.toList then (some ((wrap64 (bt a0 0)), x163001_2, x163002_2, x163003_2, x163004_2, x163005_2, 0)) else (some (0, 0, 0, 0, 0, 0, 2))) = some (r1, r2, r3, r4, r5, r6, r7) := H
                  have A44 := Aside0.mk A440
                  clear A440
                  by_cases c45 : t170.toList = a0.toList
                  · rw [if_pos c45] at H
                    have c45b0 : (t170.toList == a0.toList) = true := beq_iff_eq.mpr c45
                    have c45b1 : (t170.toList != a0.toList) = false := bne_eq_false_iff_eq.mpr c45
                    clear c45
                    simp only [Option.some.injEq, Prod.mk.injEq] at H
                    obtain ⟨rfl, rfl, rfl, rfl, rfl, rfl, rfl⟩ := H
                    have hnb46 := NB162_161.out
                    have hnc46 := NB161_162.out
                    have hcz47_0 : wr.cell? ⟨gb162, 0, none⟩ = some (.int .i64 (wrap64 (bt a0 0))) := (blk_cell BK162.out 0).trans rfl
                    have hcz47_1 : wr.cell? ⟨gb162, 1, none⟩ = some (.int .i64 x163001_2) := (blk_cell BK162.out 1).trans rfl
                    have hcz47_2 : wr.cell? ⟨gb162, 2, none⟩ = some (.int .i64 x163002_2) := (blk_cell BK162.out 2).trans rfl
                    have hcz47_3 : wr.cell? ⟨gb162, 3, none⟩ = some (.int .u64 x163003_2) := (blk_cell BK162.out 3).trans rfl
                    have hcz47_4 : wr.cell? ⟨gb162, 4, none⟩ = some (.int .u64 x163004_2) := (blk_cell BK162.out 4).trans rfl
                    have hcz47_5 : wr.cell? ⟨gb162, 5, none⟩ = some (.int .u64 x163005_2) := (blk_cell BK162.out 5).trans rfl
                    have hfz47_0 := blk_frozen BK162.out 0
                    have hfz47_1 := blk_frozen BK162.out 1
                    have hfz47_2 := blk_frozen BK162.out 2
                    have hfz47_3 := blk_frozen BK162.out 3
                    have hfz47_4 := blk_frozen BK162.out 4
                    have hfz47_5 := blk_frozen BK162.out 5
                    go_wp2_with (first | ((with_reducible refine gate_callee (f := 14) rfl ?_); refine goesL_ (some 81) rfl rfl Try.func14 (by kernel_rfl) rfl #[.agg #[.int .i64 (wrap64 (bt a0 0)), .int .i64 x163001_2, .int .i64 x163002_2, .int .u64 x163003_2, .int .u64 x163004_2, .int .u64 x163005_2]] rfl (by (try simp only [List.map_toArray, List.map_cons, List.map_nil]); first | done | rfl | (simp only [List.length_drop, List.length_take]; rfl)) ?_; (with_reducible refine (cubicleref18_Formed.calls k2 (wrap64 (bt a0 0)) x163001_2 x163002_2 x163003_2 x163004_2 x163005_2 true _ A42.out).mono ?_); rintro e w48 ⟨rfl, hb⟩; refine ⟨_, rfl, ?_⟩; have n0_ := Aside0.mk (blk_below (g := gb161) (o := .cells #[.int .i64 0, .int .i64 0, .int .i64 0, .int .u64 0, .int .u64 0, .int .u64 0] 25 (0, 0)) (by (with_reducible repeat (first | refine blk_drewN ?_ _ | refine blk_drew ?_ | refine blk_alloc ?_ _)); exact BK161.out) hb); have n1_ := Aside0.mk (blk_below (g := gb162) (o := .cells #[.int .i64 (wrap64 (bt a0 0)), .int .i64 x163001_2, .int .i64 x163002_2, .int .u64 x163003_2, .int .u64 x163004_2, .int .u64 x163005_2] 25 (0, 0)) (by (with_reducible repeat (first | refine blk_drewN ?_ _ | refine blk_drew ?_ | refine blk_alloc ?_ _)); exact BK162.out) hb); have n2_ := Aside0.mk (below_step (by repeat (first | (with_reducible first | exact HB.out | apply below_alloc | apply pw_below_drewN | apply below_drew1 | refine below_set ?_ GE161.out | refine below_set ?_ GE162.out) | exact HB.out)) hb); clear BK161; clear BK162; clear HB; have BK161 := n0_; have BK162 := n1_; have HB := n2_; clear n0_ n1_ n2_; (try clear hb); (try clear hb2); (try clear hk); (try clear hi); have hcz49_0 : w48.cell? ⟨gb162, 0, none⟩ = some (.int .i64 (wrap64 (bt a0 0))) := (blk_cell BK162.out 0).trans rfl; have hcz49_1 : w48.cell? ⟨gb162, 1, none⟩ = some (.int .i64 x163001_2) := (blk_cell BK162.out 1).trans rfl; have hcz49_2 : w48.cell? ⟨gb162, 2, none⟩ = some (.int .i64 x163002_2) := (blk_cell BK162.out 2).trans rfl; have hcz49_3 : w48.cell? ⟨gb162, 3, none⟩ = some (.int .u64 x163003_2) := (blk_cell BK162.out 3).trans rfl; have hcz49_4 : w48.cell? ⟨gb162, 4, none⟩ = some (.int .u64 x163004_2) := (blk_cell BK162.out 4).trans rfl; have hcz49_5 : w48.cell? ⟨gb162, 5, none⟩ = some (.int .u64 x163005_2) := (blk_cell BK162.out 5).trans rfl; have hfz49_0 := blk_frozen BK162.out 0; have hfz49_1 := blk_frozen BK162.out 1; have hfz49_2 := blk_frozen BK162.out 2; have hfz49_3 := blk_frozen BK162.out 3; have hfz49_4 := blk_frozen BK162.out 4; have hfz49_5 := blk_frozen BK162.out 5) | (go_at_call 41; (with_reducible refine (cubicleref18_Bytes.calls k2 (wrap64 (bt a0 0)) x163001_2 x163002_2 x163003_2 x163004_2 x163005_2 t170 _ A44.out).mono ?_); rintro e w50 ⟨rfl, hb⟩; have n0_ := Aside0.mk (blk_below (g := gb161) (o := .cells #[.int .i64 0, .int .i64 0, .int .i64 0, .int .u64 0, .int .u64 0, .int .u64 0] 25 (0, 0)) (by (with_reducible repeat (first | refine blk_drewN ?_ _ | refine blk_drew ?_ | refine blk_alloc ?_ _)); exact BK161.out) hb); have n1_ := Aside0.mk (blk_below (g := gb162) (o := .cells #[.int .i64 (wrap64 (bt a0 0)), .int .i64 x163001_2, .int .i64 x163002_2, .int .u64 x163003_2, .int .u64 x163004_2, .int .u64 x163005_2] 25 (0, 0)) (by (with_reducible repeat (first | refine blk_drewN ?_ _ | refine blk_drew ?_ | refine blk_alloc ?_ _)); exact BK162.out) hb); have n2_ := Aside0.mk (below_step (by repeat (first | (with_reducible first | exact HB.out | apply below_alloc | apply pw_below_drewN | apply below_drew1 | refine below_set ?_ GE161.out | refine below_set ?_ GE162.out) | exact HB.out)) hb); clear BK161; clear BK162; clear HB; have BK161 := n0_; have BK162 := n1_; have HB := n2_; clear n0_ n1_ n2_; (try clear hb); (try clear hb2); (try clear hk); (try clear hi); have hcz51_0 : w50.cell? ⟨gb162, 0, none⟩ = some (.int .i64 (wrap64 (bt a0 0))) := (blk_cell BK162.out 0).trans rfl; have hcz51_1 : w50.cell? ⟨gb162, 1, none⟩ = some (.int .i64 x163001_2) := (blk_cell BK162.out 1).trans rfl; have hcz51_2 : w50.cell? ⟨gb162, 2, none⟩ = some (.int .i64 x163002_2) := (blk_cell BK162.out 2).trans rfl; have hcz51_3 : w50.cell? ⟨gb162, 3, none⟩ = some (.int .u64 x163003_2) := (blk_cell BK162.out 3).trans rfl; have hcz51_4 : w50.cell? ⟨gb162, 4, none⟩ = some (.int .u64 x163004_2) := (blk_cell BK162.out 4).trans rfl; have hcz51_5 : w50.cell? ⟨gb162, 5, none⟩ = some (.int .u64 x163005_2) := (blk_cell BK162.out 5).trans rfl; have hfz51_0 := blk_frozen BK162.out 0; have hfz51_1 := blk_frozen BK162.out 1; have hfz51_2 := blk_frozen BK162.out 2; have hfz51_3 := blk_frozen BK162.out 3; have hfz51_4 := blk_frozen BK162.out 4; have hfz51_5 := blk_frozen BK162.out 5; have hcz52_0 : w50.cell? ⟨gb161, 0, none⟩ = some (.int .i64 0) := (blk_cell BK161.out 0).trans rfl; have hcz52_1 : w50.cell? ⟨gb161, 1, none⟩ = some (.int .i64 0) := (blk_cell BK161.out 1).trans rfl; have hcz52_2 : w50.cell? ⟨gb161, 2, none⟩ = some (.int .i64 0) := (blk_cell BK161.out 2).trans rfl; have hcz52_3 : w50.cell? ⟨gb161, 3, none⟩ = some (.int .u64 0) := (blk_cell BK161.out 3).trans rfl; have hcz52_4 : w50.cell? ⟨gb161, 4, none⟩ = some (.int .u64 0) := (blk_cell BK161.out 4).trans rfl; have hcz52_5 : w50.cell? ⟨gb161, 5, none⟩ = some (.int .u64 0) := (blk_cell BK161.out 5).trans rfl; have hfz52_0 := blk_frozen BK161.out 0; have hfz52_1 := blk_frozen BK161.out 1; have hfz52_2 := blk_frozen BK161.out 2; have hfz52_3 := blk_frozen BK161.out 3; have hfz52_4 := blk_frozen BK161.out 4; have hfz52_5 := blk_frozen BK161.out 5))
                    refine bodyPost_ret (results_ct rfl _ _ gb161 25 #[.int .i64 (wrap64 (bt a0 0)), .int .i64 x163001_2, .int .i64 x163002_2, .int .u64 x163003_2, .int .u64 x163004_2, .int .u64 x163005_2] (0, 0) _ rfl (by (with_reducible repeat (first | refine blk_drewN ?_ _ | refine blk_drew ?_ | refine blk_alloc ?_ _)); refine blk_put (cs := #[.int .i64 (wrap64 (bt a0 0)), .int .i64 x163001_2, .int .i64 x163002_2, .int .u64 x163003_2, .int .u64 x163004_2, .int .u64 0]) ?_ 5 _ rfl; (with_reducible repeat (first | refine blk_drewN ?_ _ | refine blk_drew ?_ | refine blk_alloc ?_ _)); refine blk_put (cs := #[.int .i64 (wrap64 (bt a0 0)), .int .i64 x163001_2, .int .i64 x163002_2, .int .u64 x163003_2, .int .u64 0, .int .u64 0]) ?_ 4 _ rfl; (with_reducible repeat (first | refine blk_drewN ?_ _ | refine blk_drew ?_ | refine blk_alloc ?_ _)); refine blk_put (cs := #[.int .i64 (wrap64 (bt a0 0)), .int .i64 x163001_2, .int .i64 x163002_2, .int .u64 0, .int .u64 0, .int .u64 0]) ?_ 3 _ rfl; (with_reducible repeat (first | refine blk_drewN ?_ _ | refine blk_drew ?_ | refine blk_alloc ?_ _)); refine blk_put (cs := #[.int .i64 (wrap64 (bt a0 0)), .int .i64 x163001_2, .int .i64 0, .int .u64 0, .int .u64 0, .int .u64 0]) ?_ 2 _ rfl; (with_reducible repeat (first | refine blk_drewN ?_ _ | refine blk_drew ?_ | refine blk_alloc ?_ _)); refine blk_put (cs := #[.int .i64 (wrap64 (bt a0 0)), .int .i64 0, .int .i64 0, .int .u64 0, .int .u64 0, .int .u64 0]) ?_ 1 _ rfl; (with_reducible repeat (first | refine blk_drewN ?_ _ | refine blk_drew ?_ | refine blk_alloc ?_ _)); refine blk_put (cs := #[.int .i64 0, .int .i64 0, .int .i64 0, .int .u64 0, .int .u64 0, .int .u64 0]) ?_ 0 _ rfl; (with_reducible repeat (first | refine blk_drewN ?_ _ | refine blk_drew ?_ | refine blk_alloc ?_ _)); exact BK161.out) Try.underlying25 rfl (by kernel_rfl)) rfl ?_
                    exact ⟨by first | rfl | (simp [errW_none, errW_some] <;> rfl) | (simp [*, errW_none, errW_some] <;> rfl), by repeat (first | (with_reducible first | exact HB.out | apply below_alloc | apply pw_below_drewN | apply below_drew1 | refine below_set ?_ GE161.out | refine below_set ?_ GE162.out) | exact HB.out)⟩
                  · rw [if_neg c45] at H
                    have c45b0 : (t170.toList == a0.toList) = false := beq_eq_false_iff_ne.mpr c45
                    have c45b1 : (t170.toList != a0.toList) = true := bne_iff_ne.mpr c45
                    simp only [Option.some.injEq, Prod.mk.injEq] at H
                    obtain ⟨rfl, rfl, rfl, rfl, rfl, rfl, rfl⟩ := H
                    have hnb53 := NB162_161.out
                    have hnc53 := NB161_162.out
                    have hcz54_0 : wr.cell? ⟨gb162, 0, none⟩ = some (.int .i64 (wrap64 (bt a0 0))) := (blk_cell BK162.out 0).trans rfl
                    have hcz54_1 : wr.cell? ⟨gb162, 1, none⟩ = some (.int .i64 x163001_2) := (blk_cell BK162.out 1).trans rfl
                    have hcz54_2 : wr.cell? ⟨gb162, 2, none⟩ = some (.int .i64 x163002_2) := (blk_cell BK162.out 2).trans rfl
                    have hcz54_3 : wr.cell? ⟨gb162, 3, none⟩ = some (.int .u64 x163003_2) := (blk_cell BK162.out 3).trans rfl
                    have hcz54_4 : wr.cell? ⟨gb162, 4, none⟩ = some (.int .u64 x163004_2) := (blk_cell BK162.out 4).trans rfl
                    have hcz54_5 : wr.cell? ⟨gb162, 5, none⟩ = some (.int .u64 x163005_2) := (blk_cell BK162.out 5).trans rfl
                    have hfz54_0 := blk_frozen BK162.out 0
                    have hfz54_1 := blk_frozen BK162.out 1
                    have hfz54_2 := blk_frozen BK162.out 2
                    have hfz54_3 := blk_frozen BK162.out 3
                    have hfz54_4 := blk_frozen BK162.out 4
                    have hfz54_5 := blk_frozen BK162.out 5
                    go_wp2_with (first | ((with_reducible refine gate_callee (f := 14) rfl ?_); refine goesL_ (some 81) rfl rfl Try.func14 (by kernel_rfl) rfl #[.agg #[.int .i64 (wrap64 (bt a0 0)), .int .i64 x163001_2, .int .i64 x163002_2, .int .u64 x163003_2, .int .u64 x163004_2, .int .u64 x163005_2]] rfl (by (try simp only [List.map_toArray, List.map_cons, List.map_nil]); first | done | rfl | (simp only [List.length_drop, List.length_take]; rfl)) ?_; (with_reducible refine (cubicleref18_Formed.calls k2 (wrap64 (bt a0 0)) x163001_2 x163002_2 x163003_2 x163004_2 x163005_2 true _ A42.out).mono ?_); rintro e w55 ⟨rfl, hb⟩; refine ⟨_, rfl, ?_⟩; have n0_ := Aside0.mk (blk_below (g := gb161) (o := .cells #[.int .i64 0, .int .i64 0, .int .i64 0, .int .u64 0, .int .u64 0, .int .u64 0] 25 (0, 0)) (by (with_reducible repeat (first | refine blk_drewN ?_ _ | refine blk_drew ?_ | refine blk_alloc ?_ _)); exact BK161.out) hb); have n1_ := Aside0.mk (blk_below (g := gb162) (o := .cells #[.int .i64 (wrap64 (bt a0 0)), .int .i64 x163001_2, .int .i64 x163002_2, .int .u64 x163003_2, .int .u64 x163004_2, .int .u64 x163005_2] 25 (0, 0)) (by (with_reducible repeat (first | refine blk_drewN ?_ _ | refine blk_drew ?_ | refine blk_alloc ?_ _)); exact BK162.out) hb); have n2_ := Aside0.mk (below_step (by repeat (first | (with_reducible first | exact HB.out | apply below_alloc | apply pw_below_drewN | apply below_drew1 | refine below_set ?_ GE161.out | refine below_set ?_ GE162.out) | exact HB.out)) hb); clear BK161; clear BK162; clear HB; have BK161 := n0_; have BK162 := n1_; have HB := n2_; clear n0_ n1_ n2_; (try clear hb); (try clear hb2); (try clear hk); (try clear hi); have hcz56_0 : w55.cell? ⟨gb162, 0, none⟩ = some (.int .i64 (wrap64 (bt a0 0))) := (blk_cell BK162.out 0).trans rfl; have hcz56_1 : w55.cell? ⟨gb162, 1, none⟩ = some (.int .i64 x163001_2) := (blk_cell BK162.out 1).trans rfl; have hcz56_2 : w55.cell? ⟨gb162, 2, none⟩ = some (.int .i64 x163002_2) := (blk_cell BK162.out 2).trans rfl; have hcz56_3 : w55.cell? ⟨gb162, 3, none⟩ = some (.int .u64 x163003_2) := (blk_cell BK162.out 3).trans rfl; have hcz56_4 : w55.cell? ⟨gb162, 4, none⟩ = some (.int .u64 x163004_2) := (blk_cell BK162.out 4).trans rfl; have hcz56_5 : w55.cell? ⟨gb162, 5, none⟩ = some (.int .u64 x163005_2) := (blk_cell BK162.out 5).trans rfl; have hfz56_0 := blk_frozen BK162.out 0; have hfz56_1 := blk_frozen BK162.out 1; have hfz56_2 := blk_frozen BK162.out 2; have hfz56_3 := blk_frozen BK162.out 3; have hfz56_4 := blk_frozen BK162.out 4; have hfz56_5 := blk_frozen BK162.out 5) | (go_at_call 41; (with_reducible refine (cubicleref18_Bytes.calls k2 (wrap64 (bt a0 0)) x163001_2 x163002_2 x163003_2 x163004_2 x163005_2 t170 _ A44.out).mono ?_); rintro e w57 ⟨rfl, hb⟩; have n0_ := Aside0.mk (blk_below (g := gb161) (o := .cells #[.int .i64 0, .int .i64 0, .int .i64 0, .int .u64 0, .int .u64 0, .int .u64 0] 25 (0, 0)) (by (with_reducible repeat (first | refine blk_drewN ?_ _ | refine blk_drew ?_ | refine blk_alloc ?_ _)); exact BK161.out) hb); have n1_ := Aside0.mk (blk_below (g := gb162) (o := .cells #[.int .i64 (wrap64 (bt a0 0)), .int .i64 x163001_2, .int .i64 x163002_2, .int .u64 x163003_2, .int .u64 x163004_2, .int .u64 x163005_2] 25 (0, 0)) (by (with_reducible repeat (first | refine blk_drewN ?_ _ | refine blk_drew ?_ | refine blk_alloc ?_ _)); exact BK162.out) hb); have n2_ := Aside0.mk (below_step (by repeat (first | (with_reducible first | exact HB.out | apply below_alloc | apply pw_below_drewN | apply below_drew1 | refine below_set ?_ GE161.out | refine below_set ?_ GE162.out) | exact HB.out)) hb); clear BK161; clear BK162; clear HB; have BK161 := n0_; have BK162 := n1_; have HB := n2_; clear n0_ n1_ n2_; (try clear hb); (try clear hb2); (try clear hk); (try clear hi); have hcz58_0 : w57.cell? ⟨gb161, 0, none⟩ = some (.int .i64 0) := (blk_cell BK161.out 0).trans rfl; have hcz58_1 : w57.cell? ⟨gb161, 1, none⟩ = some (.int .i64 0) := (blk_cell BK161.out 1).trans rfl; have hcz58_2 : w57.cell? ⟨gb161, 2, none⟩ = some (.int .i64 0) := (blk_cell BK161.out 2).trans rfl; have hcz58_3 : w57.cell? ⟨gb161, 3, none⟩ = some (.int .u64 0) := (blk_cell BK161.out 3).trans rfl; have hcz58_4 : w57.cell? ⟨gb161, 4, none⟩ = some (.int .u64 0) := (blk_cell BK161.out 4).trans rfl; have hcz58_5 : w57.cell? ⟨gb161, 5, none⟩ = some (.int .u64 0) := (blk_cell BK161.out 5).trans rfl; have hfz58_0 := blk_frozen BK161.out 0; have hfz58_1 := blk_frozen BK161.out 1; have hfz58_2 := blk_frozen BK161.out 2; have hfz58_3 := blk_frozen BK161.out 3; have hfz58_4 := blk_frozen BK161.out 4; have hfz58_5 := blk_frozen BK161.out 5))
                    refine bodyPost_ret (results_ct rfl _ _ gb161 25 #[.int .i64 0, .int .i64 0, .int .i64 0, .int .u64 0, .int .u64 0, .int .u64 0] (0, 0) _ rfl (by (with_reducible repeat (first | refine blk_drewN ?_ _ | refine blk_drew ?_ | refine blk_alloc ?_ _)); refine blk_put (cs := #[.int .i64 0, .int .i64 0, .int .i64 0, .int .u64 0, .int .u64 0, .int .u64 0]) ?_ 5 _ rfl; (with_reducible repeat (first | refine blk_drewN ?_ _ | refine blk_drew ?_ | refine blk_alloc ?_ _)); refine blk_put (cs := #[.int .i64 0, .int .i64 0, .int .i64 0, .int .u64 0, .int .u64 0, .int .u64 0]) ?_ 4 _ rfl; (with_reducible repeat (first | refine blk_drewN ?_ _ | refine blk_drew ?_ | refine blk_alloc ?_ _)); refine blk_put (cs := #[.int .i64 0, .int .i64 0, .int .i64 0, .int .u64 0, .int .u64 0, .int .u64 0]) ?_ 3 _ rfl; (with_reducible repeat (first | refine blk_drewN ?_ _ | refine blk_drew ?_ | refine blk_alloc ?_ _)); refine blk_put (cs := #[.int .i64 0, .int .i64 0, .int .i64 0, .int .u64 0, .int .u64 0, .int .u64 0]) ?_ 2 _ rfl; (with_reducible repeat (first | refine blk_drewN ?_ _ | refine blk_drew ?_ | refine blk_alloc ?_ _)); refine blk_put (cs := #[.int .i64 0, .int .i64 0, .int .i64 0, .int .u64 0, .int .u64 0, .int .u64 0]) ?_ 1 _ rfl; (with_reducible repeat (first | refine blk_drewN ?_ _ | refine blk_drew ?_ | refine blk_alloc ?_ _)); refine blk_put (cs := #[.int .i64 0, .int .i64 0, .int .i64 0, .int .u64 0, .int .u64 0, .int .u64 0]) ?_ 0 _ rfl; (with_reducible repeat (first | refine blk_drewN ?_ _ | refine blk_drew ?_ | refine blk_alloc ?_ _)); exact BK161.out) Try.underlying25 rfl (by kernel_rfl)) rfl ?_
                    exact ⟨by first | rfl | (simp [errW_none, errW_some] <;> rfl) | (simp [*, errW_none, errW_some] <;> rfl), by repeat (first | (with_reducible first | exact HB.out | apply below_alloc | apply pw_below_drewN | apply below_drew1 | refine below_set ?_ GE161.out | refine below_set ?_ GE162.out) | exact HB.out)⟩
                · replace c43 := Bool.eq_false_iff.mpr c43
                  subst c43
                  have H1 : (some (0, 0, 0, 0, 0, 0, 2)) = some (r1, r2, r3, r4, r5, r6, r7) := by rw [if_neg (show ¬ (false = true) by decide)] at H; exact H
                  clear H
                  have H := H1
                  clear H1
                  simp only [Option.some.injEq, Prod.mk.injEq] at H
                  obtain ⟨rfl, rfl, rfl, rfl, rfl, rfl, rfl⟩ := H
                  have hnb59 := NB162_161.out
                  have hnc59 := NB161_162.out
                  have hcz60_0 : wr.cell? ⟨gb162, 0, none⟩ = some (.int .i64 (wrap64 (bt a0 0))) := (blk_cell BK162.out 0).trans rfl
                  have hcz60_1 : wr.cell? ⟨gb162, 1, none⟩ = some (.int .i64 x163001_2) := (blk_cell BK162.out 1).trans rfl
                  have hcz60_2 : wr.cell? ⟨gb162, 2, none⟩ = some (.int .i64 x163002_2) := (blk_cell BK162.out 2).trans rfl
                  have hcz60_3 : wr.cell? ⟨gb162, 3, none⟩ = some (.int .u64 x163003_2) := (blk_cell BK162.out 3).trans rfl
                  have hcz60_4 : wr.cell? ⟨gb162, 4, none⟩ = some (.int .u64 x163004_2) := (blk_cell BK162.out 4).trans rfl
                  have hcz60_5 : wr.cell? ⟨gb162, 5, none⟩ = some (.int .u64 x163005_2) := (blk_cell BK162.out 5).trans rfl
                  have hfz60_0 := blk_frozen BK162.out 0
                  have hfz60_1 := blk_frozen BK162.out 1
                  have hfz60_2 := blk_frozen BK162.out 2
                  have hfz60_3 := blk_frozen BK162.out 3
                  have hfz60_4 := blk_frozen BK162.out 4
                  have hfz60_5 := blk_frozen BK162.out 5
                  go_wp2_with (first | ((with_reducible refine gate_callee (f := 14) rfl ?_); refine goesL_ (some 81) rfl rfl Try.func14 (by kernel_rfl) rfl #[.agg #[.int .i64 (wrap64 (bt a0 0)), .int .i64 x163001_2, .int .i64 x163002_2, .int .u64 x163003_2, .int .u64 x163004_2, .int .u64 x163005_2]] rfl (by (try simp only [List.map_toArray, List.map_cons, List.map_nil]); first | done | rfl | (simp only [List.length_drop, List.length_take]; rfl)) ?_; (with_reducible refine (cubicleref18_Formed.calls k2 (wrap64 (bt a0 0)) x163001_2 x163002_2 x163003_2 x163004_2 x163005_2 false _ A42.out).mono ?_); rintro e w61 ⟨rfl, hb⟩; refine ⟨_, rfl, ?_⟩; have n0_ := Aside0.mk (blk_below (g := gb161) (o := .cells #[.int .i64 0, .int .i64 0, .int .i64 0, .int .u64 0, .int .u64 0, .int .u64 0] 25 (0, 0)) (by (with_reducible repeat (first | refine blk_drewN ?_ _ | refine blk_drew ?_ | refine blk_alloc ?_ _)); exact BK161.out) hb); have n1_ := Aside0.mk (blk_below (g := gb162) (o := .cells #[.int .i64 (wrap64 (bt a0 0)), .int .i64 x163001_2, .int .i64 x163002_2, .int .u64 x163003_2, .int .u64 x163004_2, .int .u64 x163005_2] 25 (0, 0)) (by (with_reducible repeat (first | refine blk_drewN ?_ _ | refine blk_drew ?_ | refine blk_alloc ?_ _)); exact BK162.out) hb); have n2_ := Aside0.mk (below_step (by repeat (first | (with_reducible first | exact HB.out | apply below_alloc | apply pw_below_drewN | apply below_drew1 | refine below_set ?_ GE161.out | refine below_set ?_ GE162.out) | exact HB.out)) hb); clear BK161; clear BK162; clear HB; have BK161 := n0_; have BK162 := n1_; have HB := n2_; clear n0_ n1_ n2_; (try clear hb); (try clear hb2); (try clear hk); (try clear hi); have hcz62_0 : w61.cell? ⟨gb161, 0, none⟩ = some (.int .i64 0) := (blk_cell BK161.out 0).trans rfl; have hcz62_1 : w61.cell? ⟨gb161, 1, none⟩ = some (.int .i64 0) := (blk_cell BK161.out 1).trans rfl; have hcz62_2 : w61.cell? ⟨gb161, 2, none⟩ = some (.int .i64 0) := (blk_cell BK161.out 2).trans rfl; have hcz62_3 : w61.cell? ⟨gb161, 3, none⟩ = some (.int .u64 0) := (blk_cell BK161.out 3).trans rfl; have hcz62_4 : w61.cell? ⟨gb161, 4, none⟩ = some (.int .u64 0) := (blk_cell BK161.out 4).trans rfl; have hcz62_5 : w61.cell? ⟨gb161, 5, none⟩ = some (.int .u64 0) := (blk_cell BK161.out 5).trans rfl; have hfz62_0 := blk_frozen BK161.out 0; have hfz62_1 := blk_frozen BK161.out 1; have hfz62_2 := blk_frozen BK161.out 2; have hfz62_3 := blk_frozen BK161.out 3; have hfz62_4 := blk_frozen BK161.out 4; have hfz62_5 := blk_frozen BK161.out 5))
                  refine bodyPost_ret (results_ct rfl _ _ gb161 25 #[.int .i64 0, .int .i64 0, .int .i64 0, .int .u64 0, .int .u64 0, .int .u64 0] (0, 0) _ rfl (by (with_reducible repeat (first | refine blk_drewN ?_ _ | refine blk_drew ?_ | refine blk_alloc ?_ _)); refine blk_put (cs := #[.int .i64 0, .int .i64 0, .int .i64 0, .int .u64 0, .int .u64 0, .int .u64 0]) ?_ 5 _ rfl; (with_reducible repeat (first | refine blk_drewN ?_ _ | refine blk_drew ?_ | refine blk_alloc ?_ _)); refine blk_put (cs := #[.int .i64 0, .int .i64 0, .int .i64 0, .int .u64 0, .int .u64 0, .int .u64 0]) ?_ 4 _ rfl; (with_reducible repeat (first | refine blk_drewN ?_ _ | refine blk_drew ?_ | refine blk_alloc ?_ _)); refine blk_put (cs := #[.int .i64 0, .int .i64 0, .int .i64 0, .int .u64 0, .int .u64 0, .int .u64 0]) ?_ 3 _ rfl; (with_reducible repeat (first | refine blk_drewN ?_ _ | refine blk_drew ?_ | refine blk_alloc ?_ _)); refine blk_put (cs := #[.int .i64 0, .int .i64 0, .int .i64 0, .int .u64 0, .int .u64 0, .int .u64 0]) ?_ 2 _ rfl; (with_reducible repeat (first | refine blk_drewN ?_ _ | refine blk_drew ?_ | refine blk_alloc ?_ _)); refine blk_put (cs := #[.int .i64 0, .int .i64 0, .int .i64 0, .int .u64 0, .int .u64 0, .int .u64 0]) ?_ 1 _ rfl; (with_reducible repeat (first | refine blk_drewN ?_ _ | refine blk_drew ?_ | refine blk_alloc ?_ _)); refine blk_put (cs := #[.int .i64 0, .int .i64 0, .int .i64 0, .int .u64 0, .int .u64 0, .int .u64 0]) ?_ 0 _ rfl; (with_reducible repeat (first | refine blk_drewN ?_ _ | refine blk_drew ?_ | refine blk_alloc ?_ _)); exact BK161.out) Try.underlying25 rfl (by kernel_rfl)) rfl ?_
                  exact ⟨by first | rfl | (simp [errW_none, errW_some] <;> rfl) | (simp [*, errW_none, errW_some] <;> rfl), by repeat (first | (with_reducible first | exact HB.out | apply below_alloc | apply pw_below_drewN | apply below_drew1 | refine below_set ?_ GE161.out | refine below_set ?_ GE162.out) | exact HB.out)⟩
        · rw [if_neg c14] at H
          exact absurd H (by simp)

/-! ### cubiclelaw18_DecodeOf: function 3 -/
def cubiclelaw18_DecodeOf.j0 : Nat → ByteArray → Bool → Option (Bool)
  | 0, _, _ => none
  | k + 1, x0, x13 => if x13 = true then ((cubiclelaw18_awake.f).bind fun t172 => (some t172)) else ((decode_Of.f x0).bind fun bt173 => ((cubicleref18_Of.f k x0).bind fun bt181 => (if (bt173.1 == bt181.1 && (bt173.2.1 == bt181.2.1 && (bt173.2.2.1 == bt181.2.2.1 && (bt173.2.2.2.1 == bt181.2.2.2.1 && (bt173.2.2.2.2.1 == bt181.2.2.2.2.1 && (bt173.2.2.2.2.2.1 == bt181.2.2.2.2.2.1)))))) = true then (some (bt173.2.2.2.2.2.2 == bt181.2.2.2.2.2.2)) else (some false))))
def cubiclelaw18_DecodeOf.f (k : Nat) (a0 : ByteArray) : Option (Bool) := (cubiclelaw18_awake.f).bind fun t171 => (if t171 = true then (cubiclelaw18_DecodeOf.j0 k a0 (decide ((a0.size : Int) > 60))) else (cubiclelaw18_DecodeOf.j0 k a0 true))
theorem cubiclelaw18_DecodeOf.mono_l : ∀ k, (∀ y0 y1, LeO (cubiclelaw18_DecodeOf.j0 k y0 y1) (cubiclelaw18_DecodeOf.j0 (k + 1) y0 y1))
  | 0 => fun _ _ r h => by simp [cubiclelaw18_DecodeOf.j0] at h
  | k + 1 => by
    have ih0 := cubiclelaw18_DecodeOf.mono_l k
    · intro y0 y1
      unfold cubiclelaw18_DecodeOf.j0
      repeat' first
      | (with_reducible exact ih0 _ _)
      | (with_reducible exact cubicleref18_Of.mono _ _)
      | (with_reducible exact LeO.refl _)
      | (with_reducible exact LeO.none _)
      | (with_reducible refine LeO.ite ?_ ?_)
      | (with_reducible refine LeO.bind ?_ (fun _ => ?_))
      | exact ih0 _ _
      | exact cubicleref18_Of.mono _ _
      | exact LeO.none _
      | refine LeO.ite ?_ ?_
      | refine LeO.bind ?_ (fun _ => ?_)
theorem cubiclelaw18_DecodeOf.mono : ∀ a0 k, LeO (cubiclelaw18_DecodeOf.f k a0) (cubiclelaw18_DecodeOf.f (k + 1) a0) := by
  intro a0 k
  have ih0 := cubiclelaw18_DecodeOf.mono_l k
  unfold cubiclelaw18_DecodeOf.f
  repeat' first
      | (with_reducible exact ih0 _ _)
      | (with_reducible exact cubicleref18_Of.mono _ _)
      | (with_reducible exact LeO.refl _)
      | (with_reducible exact LeO.none _)
      | (with_reducible refine LeO.ite ?_ ?_)
      | (with_reducible refine LeO.bind ?_ (fun _ => ?_))
      | exact ih0 _ _
      | exact cubicleref18_Of.mono _ _
      | exact LeO.none _
      | refine LeO.ite ?_ ?_
      | refine LeO.bind ?_ (fun _ => ?_)
set_option maxHeartbeats 8000000 in
set_option maxRecDepth 100000 in
theorem cubiclelaw18_DecodeOf.calls (k : Nat) (a0 : ByteArray) (r : Bool) (w : World) (h : cubiclelaw18_DecodeOf.f k a0 = some r) :
    Calls Try.prog 3 #[.string a0] w fun e w' => e = .returned (.bool r) ∧ Below w.heap.size w w' := by
  have hu25 := Try.underlying25
  have HB := Aside0.mk (Below.refl w.heap.size w)
  have H : ((cubiclelaw18_awake.f).bind fun t171 => (if t171 = true then (cubiclelaw18_DecodeOf.j0 k a0 (decide ((a0.size : Int) > 60))) else (cubiclelaw18_DecodeOf.j0 k a0 true))) = some r := h
  clear h
  have HC2 := Aside0.mk H
  clear H
  go_enter Try.func3, Try.ntmps3
  go_upto_region 1 with (fail)
  go_cut [13] (fun v13 wc => ∃ (kq : Nat) (x13_1 : Bool), v13 = .bool x13_1 ∧ Aside0 (cubiclelaw18_DecodeOf.j0 kq a0 x13_1 = some r) ∧ Aside0 (kq ≤ k) ∧ Aside0 (Below w.heap.size w wc))
  case first =>
    have H := HC2.out
    clear HC2
    replace H := Option.bind_eq_some_iff.mp H
    obtain ⟨t171, A30, H⟩ := H
    replace H : (if t171 = true then (cubiclelaw18_DecodeOf.j0 k a0 (decide ((a0.size : Int) > 60))) else (cubiclelaw18_DecodeOf.j0 k a0 true)) = some r := H
    have A3 := Aside0.mk A30
    clear A30
    by_cases c4 : t171 = true
    · subst c4
      have H1 : (cubiclelaw18_DecodeOf.j0 k a0 (decide ((a0.size : Int) > 60))) = some r := by rw [if_pos rfl] at H; exact H
      clear H
      have H := H1
      clear H1
      have H' := Aside0.mk H
      clear H
      go_wp2_with (first | ((with_reducible refine gate_callee (f := 11) rfl ?_); refine goesL_ (some 7) rfl rfl Try.func11 (by kernel_rfl) rfl #[] rfl (by (try simp only [List.map_toArray, List.map_cons, List.map_nil]); first | done | rfl | (simp only [List.length_drop, List.length_take]; rfl)) ?_; (with_reducible refine (cubiclelaw18_awake.calls  true _ A3.out).mono ?_); rintro e w5 ⟨rfl, hb⟩; refine ⟨_, rfl, ?_⟩; have n0_ := Aside0.mk (below_step (by repeat (first | (with_reducible first | exact HB.out | apply below_alloc | apply pw_below_drewN | apply below_drew1) | exact HB.out)) hb); clear HB; have HB := n0_; clear n0_; (try clear hb); (try clear hb2); (try clear hk); (try clear hi)))
      go_meet
      case rel => exact ⟨_, (decide ((a0.size : Int) > 60)), (by first | rfl | (simp; done) | (simp [*]; done)), H', ⟨by first | omega | exact Nat.le_refl _⟩, ⟨by repeat (first | (with_reducible first | exact HB.out | apply below_alloc | apply pw_below_drewN | apply below_drew1) | exact HB.out)⟩⟩
    · replace c4 := Bool.eq_false_iff.mpr c4
      subst c4
      have H1 : (cubiclelaw18_DecodeOf.j0 k a0 true) = some r := by rw [if_neg (show ¬ (false = true) by decide)] at H; exact H
      clear H
      have H := H1
      clear H1
      have H' := Aside0.mk H
      clear H
      go_wp2_with (first | ((with_reducible refine gate_callee (f := 11) rfl ?_); refine goesL_ (some 7) rfl rfl Try.func11 (by kernel_rfl) rfl #[] rfl (by (try simp only [List.map_toArray, List.map_cons, List.map_nil]); first | done | rfl | (simp only [List.length_drop, List.length_take]; rfl)) ?_; (with_reducible refine (cubiclelaw18_awake.calls  false _ A3.out).mono ?_); rintro e w6 ⟨rfl, hb⟩; refine ⟨_, rfl, ?_⟩; have n0_ := Aside0.mk (below_step (by repeat (first | (with_reducible first | exact HB.out | apply below_alloc | apply pw_below_drewN | apply below_drew1) | exact HB.out)) hb); clear HB; have HB := n0_; clear n0_; (try clear hb); (try clear hb2); (try clear hk); (try clear hi)))
      go_meet
      case rel => exact ⟨_, (true), (by first | rfl | (simp; done) | (simp [*]; done)), H', ⟨by first | omega | exact Nat.le_refl _⟩, ⟨by repeat (first | (with_reducible first | exact HB.out | apply below_alloc | apply pw_below_drewN | apply below_drew1) | exact HB.out)⟩⟩
  case rest =>
    clear HC2
    try clear c1
    try clear p2
    try clear c3
    try clear c4
    obtain ⟨kq, x13_1, rfl, HA, HJ1, HB⟩ := hcut
    cases kq with
    | zero => exact absurd HA.out (by simp [cubiclelaw18_DecodeOf.j0])
    | succ kj1 =>
      have H := HA.out
      clear HA
      simp only [cubiclelaw18_DecodeOf.j0] at H
      by_cases c7 : x13_1 = true
      · subst c7
        have H1 : ((cubiclelaw18_awake.f).bind fun t172 => (some t172)) = some r := by rw [if_pos rfl] at H; exact H
        clear H
        have H := H1
        clear H1
        replace H := Option.bind_eq_some_iff.mp H
        obtain ⟨t172, A80, H⟩ := H
        replace H : (some t172) = some r := H
        have A8 := Aside0.mk A80
        clear A80
        obtain rfl := Option.some.inj H
        go_wp2_with (first | ((with_reducible refine gate_callee (f := 11) rfl ?_); refine goesL_ (some 14) rfl rfl Try.func11 (by kernel_rfl) rfl #[] rfl (by (try simp only [List.map_toArray, List.map_cons, List.map_nil]); first | done | rfl | (simp only [List.length_drop, List.length_take]; rfl)) ?_; (with_reducible refine (cubiclelaw18_awake.calls  t172 _ A8.out).mono ?_); rintro e w9 ⟨rfl, hb⟩; refine ⟨_, rfl, ?_⟩; have n0_ := Aside0.mk (below_step (by repeat (first | (with_reducible first | exact HB.out | apply below_alloc | apply pw_below_drewN | apply below_drew1) | exact HB.out)) hb); clear HB; have HB := n0_; clear n0_; (try clear hb); (try clear hb2); (try clear hk); (try clear hi)))
        go_ret
        exact ⟨by first | rfl | (simp [errW_none, errW_some] <;> rfl) | (simp [*, errW_none, errW_some] <;> rfl), by repeat (first | (with_reducible first | exact HB.out | apply below_alloc | apply pw_below_drewN | apply below_drew1) | exact HB.out)⟩
      · replace c7 := Bool.eq_false_iff.mpr c7
        subst c7
        have H1 : ((decode_Of.f a0).bind fun bt173 => ((cubicleref18_Of.f kj1 a0).bind fun bt181 => (if (bt173.1 == bt181.1 && (bt173.2.1 == bt181.2.1 && (bt173.2.2.1 == bt181.2.2.1 && (bt173.2.2.2.1 == bt181.2.2.2.1 && (bt173.2.2.2.2.1 == bt181.2.2.2.2.1 && (bt173.2.2.2.2.2.1 == bt181.2.2.2.2.2.1)))))) = true then (some (bt173.2.2.2.2.2.2 == bt181.2.2.2.2.2.2)) else (some false)))) = some r := by rw [if_neg (show ¬ (false = true) by decide)] at H; exact H
        clear H
        have H := H1
        clear H1
        replace H := Option.bind_eq_some_iff.mp H
        obtain ⟨⟨t173, t174, t175, t176, t177, t178, t179⟩, A100, H⟩ := H
        replace H : ((cubicleref18_Of.f kj1 a0).bind fun bt181 => (if (t173 == bt181.1 && (t174 == bt181.2.1 && (t175 == bt181.2.2.1 && (t176 == bt181.2.2.2.1 && (t177 == bt181.2.2.2.2.1 && (t178 == bt181.2.2.2.2.2.1)))))) = true then (some (t179 == bt181.2.2.2.2.2.2)) else (some false))) = some r := H
        have A10 := Aside0.mk A100
        clear A100
        replace H := Option.bind_eq_some_iff.mp H
        obtain ⟨⟨t181, t182, t183, t184, t185, t186, t187⟩, A110, H⟩ := H
        replace H : (if (t173 == t181 && (t174 == t182 && (t175 == t183 && (t176 == t184 && (t177 == t185 && (t178 == t186)))))) = true then (some (t179 == t187)) else (some false)) = some r := H
        have A11 := Aside0.mk A110
        clear A110
        by_cases c12 : (t173 == t181 && (t174 == t182 && (t175 == t183 && (t176 == t184 && (t177 == t185 && (t178 == t186)))))) = true
        · rw [if_pos c12] at H
          have c12b0 : (t173 == t181 && (t174 == t182 && (t175 == t183 && (t176 == t184 && (t177 == t185 && (t178 == t186)))))) = true := c12
          (try (have c12b1 : decide (t173 = t181 && (t174 == t182 && (t175 == t183 && (t176 == t184 && (t177 == t185 && (t178 == t186)))))) = true := by simpa using c12))
          (try (have c12b2 : (t173 == t181 && (t174 == t182 && (t175 == t183 && (t176 == t184 && (t177 == t185 && (t178 == t186)))))) = true := by simpa using c12))
          clear c12
          obtain rfl := Option.some.inj H
          go_wp2_with (first | ((with_reducible refine gate_callee (f := 12) rfl ?_); refine goesL_ (some 17) rfl rfl Try.func12 (by kernel_rfl) rfl #[.string a0] rfl (by (try simp only [List.map_toArray, List.map_cons, List.map_nil]); first | done | rfl | (simp only [List.length_drop, List.length_take]; rfl)) ?_; (with_reducible refine (decode_Of.calls a0 t173 t174 t175 t176 t177 t178 t179 _ A10.out).mono ?_); rintro e w13 ⟨rfl, hb⟩; refine ⟨_, rfl, ?_⟩; have n0_ := Aside0.mk (below_step (by repeat (first | (with_reducible first | exact HB.out | apply below_alloc | apply pw_below_drewN | apply below_drew1) | exact HB.out)) hb); clear HB; have HB := n0_; clear n0_; (try clear hb); (try clear hb2); (try clear hk); (try clear hi)) | ((with_reducible refine gate_dst (N := 3) rfl ?_); (try (refine gate_guard (by rfl) ?_; dsimp only)); refine box_event ?hg (N := 3) ?hd (cs := #[.int .i64 0, .int .i64 0, .int .i64 0, .int .u64 0, .int .u64 0, .int .u64 0]) (t := 25) ?hr ?_; (case hd => rfl); (case hg => rfl); (case hr => first | (go_simp; done) | (go_simp; rfl)); intro gb180 hg w14 hbox hb; have n0_ := Aside0.mk (below_step (by repeat (first | (with_reducible first | exact HB.out | apply below_alloc | apply pw_below_drewN | apply below_drew1) | exact HB.out)) hb); have n1_ := Aside0.mk (hbox); have n2_ := Aside0.mk ((by rw [hg]; exact (below_size (by repeat (first | (with_reducible first | exact HB.out | apply below_alloc | apply pw_below_drewN | apply below_drew1) | exact HB.out))) : w.heap.size ≤ gb180)); have n3_ := Aside0.mk ((by rw [hg]; exact (below_size (by repeat (first | (with_reducible first | exact HB.out | apply below_alloc | apply pw_below_drewN | apply below_drew1) | exact HB.out))) : w.heap.size ≤ gb180)); clear HB; have HB := n0_; have BK180 := n1_; have GW180 := n2_; have GE180 := n3_; clear n0_ n1_ n2_ n3_; clear hb hbox hg; have hcz15_0 : w14.cell? ⟨gb180, 0, none⟩ = some (.int .i64 0) := (blk_cell BK180.out 0).trans rfl; have hcz15_1 : w14.cell? ⟨gb180, 1, none⟩ = some (.int .i64 0) := (blk_cell BK180.out 1).trans rfl; have hcz15_2 : w14.cell? ⟨gb180, 2, none⟩ = some (.int .i64 0) := (blk_cell BK180.out 2).trans rfl; have hcz15_3 : w14.cell? ⟨gb180, 3, none⟩ = some (.int .u64 0) := (blk_cell BK180.out 3).trans rfl; have hcz15_4 : w14.cell? ⟨gb180, 4, none⟩ = some (.int .u64 0) := (blk_cell BK180.out 4).trans rfl; have hcz15_5 : w14.cell? ⟨gb180, 5, none⟩ = some (.int .u64 0) := (blk_cell BK180.out 5).trans rfl; have hfz15_0 := blk_frozen BK180.out 0; have hfz15_1 := blk_frozen BK180.out 1; have hfz15_2 := blk_frozen BK180.out 2; have hfz15_3 := blk_frozen BK180.out 3; have hfz15_4 := blk_frozen BK180.out 4; have hfz15_5 := blk_frozen BK180.out 5) | ((with_reducible refine gate_callee (f := 13) rfl ?_); refine goesL_ (some 22) rfl rfl Try.func13 (by kernel_rfl) rfl #[.string a0] rfl (by (try simp only [List.map_toArray, List.map_cons, List.map_nil]); first | done | rfl | (simp only [List.length_drop, List.length_take]; rfl)) ?_; (with_reducible refine (cubicleref18_Of.calls kj1 a0 t181 t182 t183 t184 t185 t186 t187 _ A11.out).mono ?_); rintro e w16 ⟨rfl, hb⟩; refine ⟨_, rfl, ?_⟩; have n0_ := Aside0.mk (blk_below (g := gb180) (o := .cells #[.int .i64 t173, .int .i64 t174, .int .i64 t175, .int .u64 t176, .int .u64 t177, .int .u64 t178] 25 (0, 0)) (by (with_reducible repeat (first | refine blk_drewN ?_ _ | refine blk_drew ?_ | refine blk_alloc ?_ _)); refine blk_put (cs := #[.int .i64 t173, .int .i64 t174, .int .i64 t175, .int .u64 t176, .int .u64 t177, .int .u64 0]) ?_ 5 _ rfl; (with_reducible repeat (first | refine blk_drewN ?_ _ | refine blk_drew ?_ | refine blk_alloc ?_ _)); refine blk_put (cs := #[.int .i64 t173, .int .i64 t174, .int .i64 t175, .int .u64 t176, .int .u64 0, .int .u64 0]) ?_ 4 _ rfl; (with_reducible repeat (first | refine blk_drewN ?_ _ | refine blk_drew ?_ | refine blk_alloc ?_ _)); refine blk_put (cs := #[.int .i64 t173, .int .i64 t174, .int .i64 t175, .int .u64 0, .int .u64 0, .int .u64 0]) ?_ 3 _ rfl; (with_reducible repeat (first | refine blk_drewN ?_ _ | refine blk_drew ?_ | refine blk_alloc ?_ _)); refine blk_put (cs := #[.int .i64 t173, .int .i64 t174, .int .i64 0, .int .u64 0, .int .u64 0, .int .u64 0]) ?_ 2 _ rfl; (with_reducible repeat (first | refine blk_drewN ?_ _ | refine blk_drew ?_ | refine blk_alloc ?_ _)); refine blk_put (cs := #[.int .i64 t173, .int .i64 0, .int .i64 0, .int .u64 0, .int .u64 0, .int .u64 0]) ?_ 1 _ rfl; (with_reducible repeat (first | refine blk_drewN ?_ _ | refine blk_drew ?_ | refine blk_alloc ?_ _)); refine blk_put (cs := #[.int .i64 0, .int .i64 0, .int .i64 0, .int .u64 0, .int .u64 0, .int .u64 0]) ?_ 0 _ rfl; (with_reducible repeat (first | refine blk_drewN ?_ _ | refine blk_drew ?_ | refine blk_alloc ?_ _)); exact BK180.out) hb); have n1_ := Aside0.mk (below_step (by repeat (first | (with_reducible first | exact HB.out | apply below_alloc | apply pw_below_drewN | apply below_drew1 | refine below_set ?_ GE180.out) | exact HB.out)) hb); clear BK180; clear HB; have BK180 := n0_; have HB := n1_; clear n0_ n1_; (try clear hb); (try clear hb2); (try clear hk); (try clear hi)) | ((with_reducible refine gate_dst (N := 5) rfl ?_); (try (refine gate_guard (by rfl) ?_; dsimp only)); refine box_event ?hg (N := 5) ?hd (cs := #[.int .i64 0, .int .i64 0, .int .i64 0, .int .u64 0, .int .u64 0, .int .u64 0]) (t := 25) ?hr ?_; (case hd => rfl); (case hg => rfl); (case hr => first | (go_simp; done) | (go_simp; rfl)); intro gb188 hg w17 hbox hb; have n0_ := Aside0.mk (blk_below (g := gb180) (o := .cells #[.int .i64 t173, .int .i64 t174, .int .i64 t175, .int .u64 t176, .int .u64 t177, .int .u64 t178] 25 (0, 0)) (by (with_reducible repeat (first | refine blk_drewN ?_ _ | refine blk_drew ?_ | refine blk_alloc ?_ _)); exact BK180.out) hb); have n1_ := Aside0.mk (below_step (by repeat (first | (with_reducible first | exact HB.out | apply below_alloc | apply pw_below_drewN | apply below_drew1 | refine below_set ?_ GE180.out) | exact HB.out)) hb); have n2_ := Aside0.mk (hbox); have n3_ := Aside0.mk ((by rw [hg]; exact (below_size (by repeat (first | (with_reducible first | exact HB.out | apply below_alloc | apply pw_below_drewN | apply below_drew1 | refine below_set ?_ GE180.out) | exact HB.out))) : w.heap.size ≤ gb188)); have n4_ := Aside0.mk ((by rw [hg]; exact (below_size (by repeat (first | (with_reducible first | exact HB.out | apply below_alloc | apply pw_below_drewN | apply below_drew1 | refine below_set ?_ GE180.out) | exact HB.out))) : w.heap.size ≤ gb188)); have n5_ := Aside0.mk ((by rw [hg]; exact Nat.ne_of_lt (blk_lt (g := gb180) (o := .cells #[.int .i64 t173, .int .i64 t174, .int .i64 t175, .int .u64 t176, .int .u64 t177, .int .u64 t178] 25 (0, 0)) (by (with_reducible repeat (first | refine blk_drewN ?_ _ | refine blk_drew ?_ | refine blk_alloc ?_ _)); exact BK180.out)) : gb180 ≠ gb188)); have n6_ := Aside0.mk ((by rw [hg]; exact Nat.ne_of_gt (blk_lt (g := gb180) (o := .cells #[.int .i64 t173, .int .i64 t174, .int .i64 t175, .int .u64 t176, .int .u64 t177, .int .u64 t178] 25 (0, 0)) (by (with_reducible repeat (first | refine blk_drewN ?_ _ | refine blk_drew ?_ | refine blk_alloc ?_ _)); exact BK180.out)) : gb188 ≠ gb180)); clear BK180; clear HB; have BK180 := n0_; have HB := n1_; have BK188 := n2_; have GW188 := n3_; have GE188 := n4_; have NB180_188 := n5_; have NB188_180 := n6_; clear n0_ n1_ n2_ n3_ n4_ n5_ n6_; clear hb hbox hg; have hnb18 := NB188_180.out; have hnc18 := NB180_188.out; have hcz19_0 : w17.cell? ⟨gb188, 0, none⟩ = some (.int .i64 0) := (blk_cell BK188.out 0).trans rfl; have hcz19_1 : w17.cell? ⟨gb188, 1, none⟩ = some (.int .i64 0) := (blk_cell BK188.out 1).trans rfl; have hcz19_2 : w17.cell? ⟨gb188, 2, none⟩ = some (.int .i64 0) := (blk_cell BK188.out 2).trans rfl; have hcz19_3 : w17.cell? ⟨gb188, 3, none⟩ = some (.int .u64 0) := (blk_cell BK188.out 3).trans rfl; have hcz19_4 : w17.cell? ⟨gb188, 4, none⟩ = some (.int .u64 0) := (blk_cell BK188.out 4).trans rfl; have hcz19_5 : w17.cell? ⟨gb188, 5, none⟩ = some (.int .u64 0) := (blk_cell BK188.out 5).trans rfl; have hfz19_0 := blk_frozen BK188.out 0; have hfz19_1 := blk_frozen BK188.out 1; have hfz19_2 := blk_frozen BK188.out 2; have hfz19_3 := blk_frozen BK188.out 3; have hfz19_4 := blk_frozen BK188.out 4; have hfz19_5 := blk_frozen BK188.out 5; have hcz20_0 : w17.cell? ⟨gb180, 0, none⟩ = some (.int .i64 t173) := (blk_cell BK180.out 0).trans rfl; have hcz20_1 : w17.cell? ⟨gb180, 1, none⟩ = some (.int .i64 t174) := (blk_cell BK180.out 1).trans rfl; have hcz20_2 : w17.cell? ⟨gb180, 2, none⟩ = some (.int .i64 t175) := (blk_cell BK180.out 2).trans rfl; have hcz20_3 : w17.cell? ⟨gb180, 3, none⟩ = some (.int .u64 t176) := (blk_cell BK180.out 3).trans rfl; have hcz20_4 : w17.cell? ⟨gb180, 4, none⟩ = some (.int .u64 t177) := (blk_cell BK180.out 4).trans rfl; have hcz20_5 : w17.cell? ⟨gb180, 5, none⟩ = some (.int .u64 t178) := (blk_cell BK180.out 5).trans rfl; have hfz20_0 := blk_frozen BK180.out 0; have hfz20_1 := blk_frozen BK180.out 1; have hfz20_2 := blk_frozen BK180.out 2; have hfz20_3 := blk_frozen BK180.out 3; have hfz20_4 := blk_frozen BK180.out 4; have hfz20_5 := blk_frozen BK180.out 5))
          go_ret
          exact ⟨by first | rfl | (simp [errW_none, errW_some] <;> rfl) | (simp [*, errW_none, errW_some] <;> rfl), by repeat (first | (with_reducible first | exact HB.out | apply below_alloc | apply pw_below_drewN | apply below_drew1 | refine below_set ?_ GE180.out | refine below_set ?_ GE188.out) | exact HB.out)⟩
        · rw [if_neg c12] at H
          have c12b0 : (t173 == t181 && (t174 == t182 && (t175 == t183 && (t176 == t184 && (t177 == t185 && (t178 == t186)))))) = false := by simpa using c12
          (try (have c12b1 : decide (t173 = t181 && (t174 == t182 && (t175 == t183 && (t176 == t184 && (t177 == t185 && (t178 == t186)))))) = false := by simpa using c12))
          (try (have c12b2 : (t173 == t181 && (t174 == t182 && (t175 == t183 && (t176 == t184 && (t177 == t185 && (t178 == t186)))))) = false := by simpa using c12))
          (try (have c12b3 : ¬ (t173 = t181 && (t174 == t182 && (t175 == t183 && (t176 == t184 && (t177 == t185 && (t178 == t186)))))) := by simpa using c12))
          clear c12
          obtain rfl := Option.some.inj H
          go_wp2_with (first | ((with_reducible refine gate_callee (f := 12) rfl ?_); refine goesL_ (some 17) rfl rfl Try.func12 (by kernel_rfl) rfl #[.string a0] rfl (by (try simp only [List.map_toArray, List.map_cons, List.map_nil]); first | done | rfl | (simp only [List.length_drop, List.length_take]; rfl)) ?_; (with_reducible refine (decode_Of.calls a0 t173 t174 t175 t176 t177 t178 t179 _ A10.out).mono ?_); rintro e w21 ⟨rfl, hb⟩; refine ⟨_, rfl, ?_⟩; have n0_ := Aside0.mk (below_step (by repeat (first | (with_reducible first | exact HB.out | apply below_alloc | apply pw_below_drewN | apply below_drew1) | exact HB.out)) hb); clear HB; have HB := n0_; clear n0_; (try clear hb); (try clear hb2); (try clear hk); (try clear hi)) | ((with_reducible refine gate_dst (N := 3) rfl ?_); (try (refine gate_guard (by rfl) ?_; dsimp only)); refine box_event ?hg (N := 3) ?hd (cs := #[.int .i64 0, .int .i64 0, .int .i64 0, .int .u64 0, .int .u64 0, .int .u64 0]) (t := 25) ?hr ?_; (case hd => rfl); (case hg => rfl); (case hr => first | (go_simp; done) | (go_simp; rfl)); intro gb180 hg w22 hbox hb; have n0_ := Aside0.mk (below_step (by repeat (first | (with_reducible first | exact HB.out | apply below_alloc | apply pw_below_drewN | apply below_drew1) | exact HB.out)) hb); have n1_ := Aside0.mk (hbox); have n2_ := Aside0.mk ((by rw [hg]; exact (below_size (by repeat (first | (with_reducible first | exact HB.out | apply below_alloc | apply pw_below_drewN | apply below_drew1) | exact HB.out))) : w.heap.size ≤ gb180)); have n3_ := Aside0.mk ((by rw [hg]; exact (below_size (by repeat (first | (with_reducible first | exact HB.out | apply below_alloc | apply pw_below_drewN | apply below_drew1) | exact HB.out))) : w.heap.size ≤ gb180)); clear HB; have HB := n0_; have BK180 := n1_; have GW180 := n2_; have GE180 := n3_; clear n0_ n1_ n2_ n3_; clear hb hbox hg; have hcz23_0 : w22.cell? ⟨gb180, 0, none⟩ = some (.int .i64 0) := (blk_cell BK180.out 0).trans rfl; have hcz23_1 : w22.cell? ⟨gb180, 1, none⟩ = some (.int .i64 0) := (blk_cell BK180.out 1).trans rfl; have hcz23_2 : w22.cell? ⟨gb180, 2, none⟩ = some (.int .i64 0) := (blk_cell BK180.out 2).trans rfl; have hcz23_3 : w22.cell? ⟨gb180, 3, none⟩ = some (.int .u64 0) := (blk_cell BK180.out 3).trans rfl; have hcz23_4 : w22.cell? ⟨gb180, 4, none⟩ = some (.int .u64 0) := (blk_cell BK180.out 4).trans rfl; have hcz23_5 : w22.cell? ⟨gb180, 5, none⟩ = some (.int .u64 0) := (blk_cell BK180.out 5).trans rfl; have hfz23_0 := blk_frozen BK180.out 0; have hfz23_1 := blk_frozen BK180.out 1; have hfz23_2 := blk_frozen BK180.out 2; have hfz23_3 := blk_frozen BK180.out 3; have hfz23_4 := blk_frozen BK180.out 4; have hfz23_5 := blk_frozen BK180.out 5) | ((with_reducible refine gate_callee (f := 13) rfl ?_); refine goesL_ (some 22) rfl rfl Try.func13 (by kernel_rfl) rfl #[.string a0] rfl (by (try simp only [List.map_toArray, List.map_cons, List.map_nil]); first | done | rfl | (simp only [List.length_drop, List.length_take]; rfl)) ?_; (with_reducible refine (cubicleref18_Of.calls kj1 a0 t181 t182 t183 t184 t185 t186 t187 _ A11.out).mono ?_); rintro e w24 ⟨rfl, hb⟩; refine ⟨_, rfl, ?_⟩; have n0_ := Aside0.mk (blk_below (g := gb180) (o := .cells #[.int .i64 t173, .int .i64 t174, .int .i64 t175, .int .u64 t176, .int .u64 t177, .int .u64 t178] 25 (0, 0)) (by (with_reducible repeat (first | refine blk_drewN ?_ _ | refine blk_drew ?_ | refine blk_alloc ?_ _)); refine blk_put (cs := #[.int .i64 t173, .int .i64 t174, .int .i64 t175, .int .u64 t176, .int .u64 t177, .int .u64 0]) ?_ 5 _ rfl; (with_reducible repeat (first | refine blk_drewN ?_ _ | refine blk_drew ?_ | refine blk_alloc ?_ _)); refine blk_put (cs := #[.int .i64 t173, .int .i64 t174, .int .i64 t175, .int .u64 t176, .int .u64 0, .int .u64 0]) ?_ 4 _ rfl; (with_reducible repeat (first | refine blk_drewN ?_ _ | refine blk_drew ?_ | refine blk_alloc ?_ _)); refine blk_put (cs := #[.int .i64 t173, .int .i64 t174, .int .i64 t175, .int .u64 0, .int .u64 0, .int .u64 0]) ?_ 3 _ rfl; (with_reducible repeat (first | refine blk_drewN ?_ _ | refine blk_drew ?_ | refine blk_alloc ?_ _)); refine blk_put (cs := #[.int .i64 t173, .int .i64 t174, .int .i64 0, .int .u64 0, .int .u64 0, .int .u64 0]) ?_ 2 _ rfl; (with_reducible repeat (first | refine blk_drewN ?_ _ | refine blk_drew ?_ | refine blk_alloc ?_ _)); refine blk_put (cs := #[.int .i64 t173, .int .i64 0, .int .i64 0, .int .u64 0, .int .u64 0, .int .u64 0]) ?_ 1 _ rfl; (with_reducible repeat (first | refine blk_drewN ?_ _ | refine blk_drew ?_ | refine blk_alloc ?_ _)); refine blk_put (cs := #[.int .i64 0, .int .i64 0, .int .i64 0, .int .u64 0, .int .u64 0, .int .u64 0]) ?_ 0 _ rfl; (with_reducible repeat (first | refine blk_drewN ?_ _ | refine blk_drew ?_ | refine blk_alloc ?_ _)); exact BK180.out) hb); have n1_ := Aside0.mk (below_step (by repeat (first | (with_reducible first | exact HB.out | apply below_alloc | apply pw_below_drewN | apply below_drew1 | refine below_set ?_ GE180.out) | exact HB.out)) hb); clear BK180; clear HB; have BK180 := n0_; have HB := n1_; clear n0_ n1_; (try clear hb); (try clear hb2); (try clear hk); (try clear hi)) | ((with_reducible refine gate_dst (N := 5) rfl ?_); (try (refine gate_guard (by rfl) ?_; dsimp only)); refine box_event ?hg (N := 5) ?hd (cs := #[.int .i64 0, .int .i64 0, .int .i64 0, .int .u64 0, .int .u64 0, .int .u64 0]) (t := 25) ?hr ?_; (case hd => rfl); (case hg => rfl); (case hr => first | (go_simp; done) | (go_simp; rfl)); intro gb188 hg w25 hbox hb; have n0_ := Aside0.mk (blk_below (g := gb180) (o := .cells #[.int .i64 t173, .int .i64 t174, .int .i64 t175, .int .u64 t176, .int .u64 t177, .int .u64 t178] 25 (0, 0)) (by (with_reducible repeat (first | refine blk_drewN ?_ _ | refine blk_drew ?_ | refine blk_alloc ?_ _)); exact BK180.out) hb); have n1_ := Aside0.mk (below_step (by repeat (first | (with_reducible first | exact HB.out | apply below_alloc | apply pw_below_drewN | apply below_drew1 | refine below_set ?_ GE180.out) | exact HB.out)) hb); have n2_ := Aside0.mk (hbox); have n3_ := Aside0.mk ((by rw [hg]; exact (below_size (by repeat (first | (with_reducible first | exact HB.out | apply below_alloc | apply pw_below_drewN | apply below_drew1 | refine below_set ?_ GE180.out) | exact HB.out))) : w.heap.size ≤ gb188)); have n4_ := Aside0.mk ((by rw [hg]; exact (below_size (by repeat (first | (with_reducible first | exact HB.out | apply below_alloc | apply pw_below_drewN | apply below_drew1 | refine below_set ?_ GE180.out) | exact HB.out))) : w.heap.size ≤ gb188)); have n5_ := Aside0.mk ((by rw [hg]; exact Nat.ne_of_lt (blk_lt (g := gb180) (o := .cells #[.int .i64 t173, .int .i64 t174, .int .i64 t175, .int .u64 t176, .int .u64 t177, .int .u64 t178] 25 (0, 0)) (by (with_reducible repeat (first | refine blk_drewN ?_ _ | refine blk_drew ?_ | refine blk_alloc ?_ _)); exact BK180.out)) : gb180 ≠ gb188)); have n6_ := Aside0.mk ((by rw [hg]; exact Nat.ne_of_gt (blk_lt (g := gb180) (o := .cells #[.int .i64 t173, .int .i64 t174, .int .i64 t175, .int .u64 t176, .int .u64 t177, .int .u64 t178] 25 (0, 0)) (by (with_reducible repeat (first | refine blk_drewN ?_ _ | refine blk_drew ?_ | refine blk_alloc ?_ _)); exact BK180.out)) : gb188 ≠ gb180)); clear BK180; clear HB; have BK180 := n0_; have HB := n1_; have BK188 := n2_; have GW188 := n3_; have GE188 := n4_; have NB180_188 := n5_; have NB188_180 := n6_; clear n0_ n1_ n2_ n3_ n4_ n5_ n6_; clear hb hbox hg; have hnb26 := NB188_180.out; have hnc26 := NB180_188.out; have hcz27_0 : w25.cell? ⟨gb188, 0, none⟩ = some (.int .i64 0) := (blk_cell BK188.out 0).trans rfl; have hcz27_1 : w25.cell? ⟨gb188, 1, none⟩ = some (.int .i64 0) := (blk_cell BK188.out 1).trans rfl; have hcz27_2 : w25.cell? ⟨gb188, 2, none⟩ = some (.int .i64 0) := (blk_cell BK188.out 2).trans rfl; have hcz27_3 : w25.cell? ⟨gb188, 3, none⟩ = some (.int .u64 0) := (blk_cell BK188.out 3).trans rfl; have hcz27_4 : w25.cell? ⟨gb188, 4, none⟩ = some (.int .u64 0) := (blk_cell BK188.out 4).trans rfl; have hcz27_5 : w25.cell? ⟨gb188, 5, none⟩ = some (.int .u64 0) := (blk_cell BK188.out 5).trans rfl; have hfz27_0 := blk_frozen BK188.out 0; have hfz27_1 := blk_frozen BK188.out 1; have hfz27_2 := blk_frozen BK188.out 2; have hfz27_3 := blk_frozen BK188.out 3; have hfz27_4 := blk_frozen BK188.out 4; have hfz27_5 := blk_frozen BK188.out 5; have hcz28_0 : w25.cell? ⟨gb180, 0, none⟩ = some (.int .i64 t173) := (blk_cell BK180.out 0).trans rfl; have hcz28_1 : w25.cell? ⟨gb180, 1, none⟩ = some (.int .i64 t174) := (blk_cell BK180.out 1).trans rfl; have hcz28_2 : w25.cell? ⟨gb180, 2, none⟩ = some (.int .i64 t175) := (blk_cell BK180.out 2).trans rfl; have hcz28_3 : w25.cell? ⟨gb180, 3, none⟩ = some (.int .u64 t176) := (blk_cell BK180.out 3).trans rfl; have hcz28_4 : w25.cell? ⟨gb180, 4, none⟩ = some (.int .u64 t177) := (blk_cell BK180.out 4).trans rfl; have hcz28_5 : w25.cell? ⟨gb180, 5, none⟩ = some (.int .u64 t178) := (blk_cell BK180.out 5).trans rfl; have hfz28_0 := blk_frozen BK180.out 0; have hfz28_1 := blk_frozen BK180.out 1; have hfz28_2 := blk_frozen BK180.out 2; have hfz28_3 := blk_frozen BK180.out 3; have hfz28_4 := blk_frozen BK180.out 4; have hfz28_5 := blk_frozen BK180.out 5))
          go_ret
          exact ⟨by first | rfl | (simp [errW_none, errW_some] <;> rfl) | (simp [*, errW_none, errW_some] <;> rfl), by repeat (first | (with_reducible first | exact HB.out | apply below_alloc | apply pw_below_drewN | apply below_drew1 | refine below_set ?_ GE180.out | refine below_set ?_ GE188.out) | exact HB.out)⟩

/-- THE ONE PURE STATEMENT of cubiclelaw18_DecodeOf: yours. -/
def cubiclelaw18_DecodeOf.Pure : Prop := ∀ (a0 : ByteArray), a0.size ≤ 140737488351232 → ∃ k, cubiclelaw18_DecodeOf.f k a0 = some true
theorem cubiclelaw18_DecodeOf.walk (P : cubiclelaw18_DecodeOf.Pure) (a0 : ByteArray) (w : World) (w0 : a0.size ≤ 140737488351232) :
    Calls Try.prog 3 #[.string a0] w fun e w' => e = .returned (.bool true) ∧ Below w.heap.size w w' := by
  obtain ⟨k, h⟩ := P a0 w0
  refine (cubiclelaw18_DecodeOf.calls k a0 true w h).mono ?_
  rintro e w' ⟨rfl, hd⟩
  exact ⟨rfl, hd⟩

end Go.Proofs.Ytdmiingneodcbaa.PDecodeOf
