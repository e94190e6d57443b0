-- Laid by a program of this session, which builds on the kit's print: it takes some functions' texts as they are given to it.
import Derived.Test.YtdmiingneodcbaaPStateBackx0
import Derived.Test.YtdmiingneodcbaaPStateBackx2
namespace Go.Proofs.Ytdmiingneodcbaa.PStateBack
open Go.RowKit Go.Proofs.YtdmiingneodcbaaW.PrintWords Go.Proofs.YtdmiingneodcbaaW.PrintLast Go.Proofs.YtdmiingneodcbaaW.PrintMore
attribute [local go_sem] max2_int min2_int max_two min_two max_three min_three max_four min_four   -- for this text's walks alone
set_option linter.unusedVariables false
set_option linter.unusedSimpArgs false

/-! ### field_Pack: function 46 -/
mutual
def field_Pack.j0 : Nat → List (S79) → List Int → Bool → Option (Int × Int)
  | 0, _, _, _ => none
  | k + 1, x0, x1, x18 => if x18 = true then (some (0, 1)) else (field_Pack.l0 k x1 0 x0 (x0.length : Int) 0)
def field_Pack.l0 : Nat → List Int → Int → List (S79) → Int → Int → Option (Int × Int)
  | 0, _, _, _, _, _ => none
  | k + 1, x1, x6, x19, x20, x21 => if x21 < x20 then (if 0 ≤ x21 then (if x21 < (x19.length : Int) then (if x21 < (x1.length : Int) then ((field_Field_Most.f ((rd_T79 x19 x21).f0) ((rd_T79 x19 x21).f1)).bind fun t121 => (if (rd x1 x21) > t121 then (some (0, 1)) else ((field_Field_Put.f ((rd_T79 x19 x21).f0) ((rd_T79 x19 x21).f1) x6 (rd x1 x21)).bind fun t123 => (field_Pack.l0 k x1 t123 x19 x20 (wrap64 (x21 + 1)))))) else (none)) else (none)) else (none)) else (some (x6, 0))
end
def field_Pack.f (k : Nat) (l0 : List (S79)) (l1 : List Int) : Option (Int × Int) := (field_Formed.f k l0).bind fun t117 => (if t117 = true then (field_Pack.j0 k l0 l1 ((l0.length : Int) != (l1.length : Int))) else (field_Pack.j0 k l0 l1 true))
theorem field_Pack.mono_l : ∀ k, (∀ y0 y1 y2, LeO (field_Pack.j0 k y0 y1 y2) (field_Pack.j0 (k + 1) y0 y1 y2)) ∧ (∀ y0 y1 y2 y3 y4, LeO (field_Pack.l0 k y0 y1 y2 y3 y4) (field_Pack.l0 (k + 1) y0 y1 y2 y3 y4))
  | 0 => ⟨fun _ _ _ r h => by simp [field_Pack.j0] at h, fun _ _ _ _ _ r h => by simp [field_Pack.l0] at h⟩
  | k + 1 => by
    obtain ⟨ih0, ih1⟩ := field_Pack.mono_l k
    refine ⟨?_, ?_⟩
    · intro y0 y1 y2
      unfold field_Pack.j0
      repeat' first
      | (with_reducible exact ih0 _ _ _)
      | (with_reducible exact ih1 _ _ _ _ _)
      | (with_reducible exact field_Formed.mono _ _)
      | (with_reducible exact LeO.refl _)
      | (with_reducible exact LeO.none _)
      | (with_reducible refine LeO.ite ?_ ?_)
      | (with_reducible refine LeO.bind ?_ (fun _ => ?_))
      | exact ih0 _ _ _
      | exact ih1 _ _ _ _ _
      | exact field_Formed.mono _ _
      | exact LeO.none _
      | refine LeO.ite ?_ ?_
      | refine LeO.bind ?_ (fun _ => ?_)
    · intro y0 y1 y2 y3 y4
      unfold field_Pack.l0
      repeat' first
      | (with_reducible exact ih0 _ _ _)
      | (with_reducible exact ih1 _ _ _ _ _)
      | (with_reducible exact field_Formed.mono _ _)
      | (with_reducible exact LeO.refl _)
      | (with_reducible exact LeO.none _)
      | (with_reducible refine LeO.ite ?_ ?_)
      | (with_reducible refine LeO.bind ?_ (fun _ => ?_))
      | exact ih0 _ _ _
      | exact ih1 _ _ _ _ _
      | exact field_Formed.mono _ _
      | exact LeO.none _
      | refine LeO.ite ?_ ?_
      | refine LeO.bind ?_ (fun _ => ?_)
theorem field_Pack.mono : ∀ a0 a1 k, LeO (field_Pack.f k a0 a1) (field_Pack.f (k + 1) a0 a1) := by
  intro a0 a1 k
  obtain ⟨ih0, ih1⟩ := field_Pack.mono_l k
  unfold field_Pack.f
  repeat' first
      | (with_reducible exact ih0 _ _ _)
      | (with_reducible exact ih1 _ _ _ _ _)
      | (with_reducible exact field_Formed.mono _ _)
      | (with_reducible exact LeO.refl _)
      | (with_reducible exact LeO.none _)
      | (with_reducible refine LeO.ite ?_ ?_)
      | (with_reducible refine LeO.bind ?_ (fun _ => ?_))
      | exact ih0 _ _ _
      | exact ih1 _ _ _ _ _
      | exact field_Formed.mono _ _
      | exact LeO.none _
      | refine LeO.ite ?_ ?_
      | refine LeO.bind ?_ (fun _ => ?_)
def field_Pack.T9 : Bool × List (List Nat × List Nat) := (true, [([], []), ([], []), ([], []), ([], []), ([2, 3], [2, 3]), ([4], [4]), ([0, 1, 5], [0, 1, 5]), ([6, 6, 0, 1, 2, 3, 4, 5, 6], [1, 6])])
def field_Pack.B9 : List Nat := [0, 0, 0, 0, 12, 28, 63, 127]
theorem field_Pack.tab9 : rtab .any (opsOf Try.f46 9) = field_Pack.T9 := by kernel_rfl
theorem field_Pack.bits9 : waitsOk field_Pack.T9.2 field_Pack.B9 = true := by kernel_rfl
set_option maxHeartbeats 8000000 in
set_option maxRecDepth 100000 in
theorem field_Pack.calls (k : Nat) (A0 : Option Addr) (c0 : Nat) (l0 : List (S79)) (A1 : Option Addr) (c1 : Nat) (l1 : List Int) (r1 : Int) (r2 : Int) (w : World) (hr0 : Kd.C k79 w A0 l0.length l0) (hc0 : l0.length ≤ c0) (hr1 : Kd.C (Kd.int .u64) w A1 l1.length l1) (hc1 : l1.length ≤ c1) (h : field_Pack.f k l0 l1 = some (r1, r2)) :
    Calls Try.prog 46 #[.slice A0 l0.length c0, .slice A1 l1.length c1] w fun e w' => e = .returned (.tuple #[.int .u64 r1, .int .i64 r2]) ∧ Below w.heap.size w w' := by
  have hu79 := Try.underlying79
  have HR0 := Aside0.mk hr0
  have HC0 := Aside0.mk hc0
  clear hr0 hc0
  have HR1 := Aside0.mk hr1
  have HC1 := Aside0.mk hc1
  clear hr1 hc1
  have HB := Aside0.mk (Below.refl w.heap.size w)
  have H : ((field_Formed.f k l0).bind fun t117 => (if t117 = true then (field_Pack.j0 k l0 l1 ((l0.length : Int) != (l1.length : Int))) else (field_Pack.j0 k l0 l1 true))) = some (r1, r2) := h
  clear h
  have HC3 := Aside0.mk H
  clear H
  go_enter Try.func46, Try.ntmps46
  go_upto_region 1 with (fail)
  go_cut [18] (fun v18 wc => ∃ (kq : Nat) (x18_2 : Bool), v18 = .bool x18_2 ∧ Aside0 (field_Pack.j0 kq l0 l1 x18_2 = some (r1, r2)) ∧ Aside0 (kq ≤ k) ∧ Aside0 (Below w.heap.size w wc))
  case first =>
    have H := HC3.out
    clear HC3
    replace H := Option.bind_eq_some_iff.mp H
    obtain ⟨t117, A40, H⟩ := H
    replace H : (if t117 = true then (field_Pack.j0 k l0 l1 ((l0.length : Int) != (l1.length : Int))) else (field_Pack.j0 k l0 l1 true)) = some (r1, r2) := H
    have A4 := Aside0.mk A40
    clear A40
    by_cases c5 : t117 = true
    · subst c5
      have H1 : (field_Pack.j0 k l0 l1 ((l0.length : Int) != (l1.length : Int))) = some (r1, r2) := by rw [if_pos rfl] at H; exact H
      clear H
      have H := H1
      clear H1
      have H' := Aside0.mk H
      clear H
      go_wp2_with (first | ((with_reducible refine gate_callee (f := 49) rfl ?_); refine goesL_ (some 10) rfl rfl Try.func49 (by kernel_rfl) rfl #[.slice A0 l0.length c0] rfl (by (try simp only [List.map_toArray, List.map_cons, List.map_nil]); first | done | rfl | (simp only [List.length_drop, List.length_take]; rfl)) ?_; (with_reducible refine (field_Formed.calls k _ _ l0 true _ ?side1 ?side2 A4.out).mono ?_); (case side1 => repeat (first | exact (Kd.C_below HR0.out HB.out) | (with_reducible refine Kd.C_alloc ?_ _) | (with_reducible refine Kd.C_drewN ?_ _) | (with_reducible refine Kd.C_drew ?_))); (case side2 => exact HC0.out); rintro e w6 ⟨rfl, hb⟩; refine ⟨_, rfl, ?_⟩; have n0_ := Aside0.mk (below_step (by repeat (first | (with_reducible first | exact HB.out | apply below_alloc | apply pw_below_drewN | apply below_drew1) | exact HB.out)) hb); clear HB; have HB := n0_; clear n0_; (try clear hb); (try clear hb2); (try clear hk); (try clear hi)))
      go_meet
      case rel => exact ⟨_, (((l0.length : Int) != (l1.length : Int))), (by first | rfl | (simp; done) | (simp [*]; done)), H', ⟨by first | omega | exact Nat.le_refl _⟩, ⟨by repeat (first | (with_reducible first | exact HB.out | apply below_alloc | apply pw_below_drewN | apply below_drew1) | exact HB.out)⟩⟩
    · replace c5 := Bool.eq_false_iff.mpr c5
      subst c5
      have H1 : (field_Pack.j0 k l0 l1 true) = some (r1, r2) := by rw [if_neg (show ¬ (false = true) by decide)] at H; exact H
      clear H
      have H := H1
      clear H1
      have H' := Aside0.mk H
      clear H
      go_wp2_with (first | ((with_reducible refine gate_callee (f := 49) rfl ?_); refine goesL_ (some 10) rfl rfl Try.func49 (by kernel_rfl) rfl #[.slice A0 l0.length c0] rfl (by (try simp only [List.map_toArray, List.map_cons, List.map_nil]); first | done | rfl | (simp only [List.length_drop, List.length_take]; rfl)) ?_; (with_reducible refine (field_Formed.calls k _ _ l0 false _ ?side1 ?side2 A4.out).mono ?_); (case side1 => repeat (first | exact (Kd.C_below HR0.out HB.out) | (with_reducible refine Kd.C_alloc ?_ _) | (with_reducible refine Kd.C_drewN ?_ _) | (with_reducible refine Kd.C_drew ?_))); (case side2 => exact HC0.out); rintro e w7 ⟨rfl, hb⟩; refine ⟨_, rfl, ?_⟩; have n0_ := Aside0.mk (below_step (by repeat (first | (with_reducible first | exact HB.out | apply below_alloc | apply pw_below_drewN | apply below_drew1) | exact HB.out)) hb); clear HB; have HB := n0_; clear n0_; (try clear hb); (try clear hb2); (try clear hk); (try clear hi)))
      go_meet
      case rel => exact ⟨_, (true), (by first | rfl | (simp; done) | (simp [*]; done)), H', ⟨by first | omega | exact Nat.le_refl _⟩, ⟨by repeat (first | (with_reducible first | exact HB.out | apply below_alloc | apply pw_below_drewN | apply below_drew1) | exact HB.out)⟩⟩
  case rest =>
    clear HC3
    try clear c1
    try clear p2
    try clear c4
    try clear c5
    obtain ⟨kq, x18_2, rfl, HA, HJ2, HB⟩ := hcut
    cases kq with
    | zero => exact absurd HA.out (by simp [field_Pack.j0])
    | succ kj2 =>
      have H := HA.out
      clear HA
      simp only [field_Pack.j0] at H
      by_cases c8 : x18_2 = true
      · subst c8
        have H1 : (some (0, 1)) = some (r1, r2) := by rw [if_pos rfl] at H; exact H
        clear H
        have H := H1
        clear H1
        simp only [Option.some.injEq, Prod.mk.injEq] at H
        obtain ⟨rfl, rfl⟩ := H
        go_wp2
        go_ret2
        exact ⟨by first | rfl | (simp [errW_none, errW_some] <;> rfl) | (simp [*, errW_none, errW_some] <;> rfl), by repeat (first | (with_reducible first | exact HB.out | apply below_alloc | apply pw_below_drewN | apply below_drew1) | exact HB.out)⟩
      · replace c8 := Bool.eq_false_iff.mpr c8
        subst c8
        have H1 : (field_Pack.l0 kj2 l1 0 l0 (l0.length : Int) 0) = some (r1, r2) := by rw [if_neg (show ¬ (false = true) by decide)] at H; exact H
        clear H
        have H := H1
        clear H1
        have H' := Aside0.mk H
        clear H
        go_wp2
        go_loopg [6, 21] kj2 (fun kq v6 v21 w' => ∃ (x6_2 : Int) (x21_2 : Int), v6 = .int .u64 x6_2 ∧ v21 = .int .i64 x21_2 ∧ Aside0 (field_Pack.l0 kq l1 x6_2 l0 (l0.length : Int) x21_2 = some (r1, r2)) ∧ Aside0 (kq ≤ kj2) ∧ Aside0 (Below w.heap.size w w'))
        case atStart => exact ⟨(0), (0), (by first | rfl | (simp; done) | (simp [*]; done)), (by first | rfl | (simp; done) | (simp [*]; done)), H', ⟨Nat.le_refl _⟩, ⟨by repeat (first | (with_reducible first | exact HB.out | apply below_alloc | apply pw_below_drewN | apply below_drew1) | exact HB.out)⟩⟩
        case round =>
          clear H'
          try clear c1
          try clear p2
          try clear c4
          try clear c5
          try clear c8
          try clear p2
          obtain ⟨x6_2, x21_2, rfl, rfl, HA, HK2, HB⟩ := hrel
          cases gk with
          | zero => exact absurd HA.out (by simp [field_Pack.l0])
          | succ k2 =>
            have H := HA.out
            clear HA
            simp only [field_Pack.l0] at H
            by_cases c9 : x21_2 < (l0.length : Int)
            · rw [if_pos c9] at H
              have c9b0 : decide (x21_2 < (l0.length : Int)) = true := decide_eq_true c9
              clear c9
              by_cases c10 : 0 ≤ x21_2
              · rw [if_pos c10] at H
                have c10b0 : decide (0 ≤ x21_2) = true := decide_eq_true c10
                clear c10
                by_cases c11 : x21_2 < (l0.length : Int)
                · rw [if_pos c11] at H
                  have c11b0 : decide (x21_2 < (l0.length : Int)) = true := decide_eq_true c11
                  clear c11
                  by_cases c12 : x21_2 < (l1.length : Int)
                  · rw [if_pos c12] at H
                    have c12b0 : decide (x21_2 < (l1.length : Int)) = true := decide_eq_true c12
                    clear c12
                    replace H := Option.bind_eq_some_iff.mp H
                    obtain ⟨t121, A130, H⟩ := H
                    replace H : (if (rd l1 x21_2) > t121 then (some (0, 1)) else ((field_Field_Put.f ((rd_T79 l0 x21_2).f0) ((rd_T79 l0 x21_2).f1) x6_2 (rd l1 x21_2)).bind fun t123 => (field_Pack.l0 k2 l1 t123 l0 (l0.length : Int) (wrap64 (x21_2 + 1))))) = some (r1, r2) := H
                    have A13 := Aside0.mk A130
                    clear A130
                    by_cases c14 : (rd l1 x21_2) > t121
                    · rw [if_pos c14] at H
                      have c14b0 : decide (t121 < (rd l1 x21_2)) = true := decide_eq_true c14
                      clear c14
                      simp only [Option.some.injEq, Prod.mk.injEq] at H
                      obtain ⟨rfl, rfl⟩ := H
                      have p118 : 0 ≤ (x21_2 : Int) := of_decide_eq_true (by first | (with_reducible assumption) | assumption)
                      have q118 : x21_2 < (l0.length : Int) := of_decide_eq_true (by first | (with_reducible assumption) | assumption)
                      obtain ⟨ad118, e118, hx118_0, hx118_1⟩ := at_T79 HR0.out x21_2 p118 q118
                      cases e118
                      replace hx118_0 := (HB.out.cell (World.block_lt_of_cell? w _ hx118_0)).trans hx118_0
                      replace hx118_1 := (HB.out.cell (World.block_lt_of_cell? w _ hx118_1)).trans hx118_1
                      replace p118 := eq_true p118
                      replace q118 := eq_true q118
                      try go_wp2_with (first | ((with_reducible refine gate_dst (N := 8) rfl ?_); (try (refine gate_guard (by rfl) ?_; dsimp only)); refine box_event ?hg (N := 8) ?hd (cs := #[.int .i64 0, .int .i64 0]) (t := 79) ?hr ?_; (case hd => rfl); (case hg => rfl); (case hr => first | (go_simp; done) | (go_simp; rfl)); intro gb119 hg w15 hbox hb; have n0_ := Aside0.mk (below_step (by repeat (first | (with_reducible first | exact HB.out | apply below_alloc | apply pw_below_drewN | apply below_drew1) | exact HB.out)) hb); have n1_ := Aside0.mk (hbox); have n2_ := Aside0.mk ((by rw [hg]; exact (below_size (by repeat (first | (with_reducible first | exact HB.out | apply below_alloc | apply pw_below_drewN | apply below_drew1) | exact HB.out))) : w.heap.size ≤ gb119)); have n3_ := Aside0.mk ((by rw [hg]; exact (below_size (by repeat (first | (with_reducible first | exact HB.out | apply below_alloc | apply pw_below_drewN | apply below_drew1) | exact HB.out))) : w.heap.size ≤ gb119)); clear HB; have HB := n0_; have BK119 := n1_; have GW119 := n2_; have GE119 := n3_; clear n0_ n1_ n2_ n3_; clear hb hbox hg; have hcz16_0 : w15.cell? ⟨gb119, 0, none⟩ = some (.int .i64 0) := (blk_cell BK119.out 0).trans rfl; have hcz16_1 : w15.cell? ⟨gb119, 1, none⟩ = some (.int .i64 0) := (blk_cell BK119.out 1).trans rfl; have hfz16_0 := blk_frozen BK119.out 0; have hfz16_1 := blk_frozen BK119.out 1))
                      have n0_ : Aside0 (((w15.setCell ⟨gb119, 0, none⟩ (.int .i64 ((rd_T79 l0 x21_2).f0))).setCell ⟨gb119, 1, none⟩ (.int .i64 ((rd_T79 l0 x21_2).f1))).heap[gb119]? = some (.cells #[.int .i64 ((rd_T79 l0 x21_2).f0), .int .i64 ((rd_T79 l0 x21_2).f1)] 79 (0, 0))) := ⟨by (with_reducible repeat (first | refine blk_drewN ?_ _ | refine blk_drew ?_ | refine blk_alloc ?_ _)); refine blk_put (cs := #[.int .i64 ((rd_T79 l0 x21_2).f0), .int .i64 0]) ?_ 1 _ rfl; (with_reducible repeat (first | refine blk_drewN ?_ _ | refine blk_drew ?_ | refine blk_alloc ?_ _)); refine blk_put (cs := #[.int .i64 0, .int .i64 0]) ?_ 0 _ rfl; (with_reducible repeat (first | refine blk_drewN ?_ _ | refine blk_drew ?_ | refine blk_alloc ?_ _)); exact BK119.out⟩
                      have n1_ : Aside0 (Below w.heap.size w ((w15.setCell ⟨gb119, 0, none⟩ (.int .i64 ((rd_T79 l0 x21_2).f0))).setCell ⟨gb119, 1, none⟩ (.int .i64 ((rd_T79 l0 x21_2).f1)))) := ⟨by repeat (first | (with_reducible first | exact HB.out | apply below_alloc | apply pw_below_drewN | apply below_drew1 | refine below_set ?_ GE119.out) | exact HB.out)⟩
                      (try clear BK119)
                      (try clear HB)
                      generalize ((w15.setCell ⟨gb119, 0, none⟩ (.int .i64 ((rd_T79 l0 x21_2).f0))).setCell ⟨gb119, 1, none⟩ (.int .i64 ((rd_T79 l0 x21_2).f1))) = w17 at n0_ n1_ ⊢
                      have BK119 := n0_
                      have HB := n1_
                      clear n0_ n1_
                      have n0_ := Aside0.mk (blk_drew BK119.out)
                      have n1_ := Aside0.mk (below_drew1 HB.out)
                      clear BK119
                      clear HB
                      have BK119 := n0_
                      have HB := n1_
                      clear n0_ n1_
                      have p120 : 0 ≤ (x21_2 : Int) := of_decide_eq_true (by first | (with_reducible assumption) | assumption)
                      have q120 : x21_2 < (l1.length : Int) := of_decide_eq_true (by first | (with_reducible assumption) | assumption)
                      obtain ⟨ad120, e120, hx120_0⟩ := Kd.at_int HR1.out x21_2 p120 q120
                      have hw120_0 := hx120_0
                      cases e120
                      replace hx120_0 := (HB.out.cell (World.block_lt_of_cell? w _ hx120_0)).trans hx120_0
                      replace p120 := eq_true p120
                      replace q120 := eq_true q120
                      refine start_ (n := 7) (S := fun w' => w'.cell? ⟨gb119, 0, none⟩ = some (.int .i64 ((rd_T79 l0 x21_2).f0)) ∧ w'.cell? ⟨gb119, 1, none⟩ = some (.int .i64 ((rd_T79 l0 x21_2).f1)) ∧ w'.cell? (ad120.add (x21_2).toNat) = some (.int .u64 (rd l1 x21_2))) (ds := []) #[false, false, false, false, false, false, false] (by kernel_rfl) rfl rfl ⟨(blk_cell BK119.out 0).trans rfl, (blk_cell BK119.out 1).trans rfl, ((HB.out.cell (World.block_lt_of_cell? w _ hw120_0)).trans hw120_0)⟩ (fun hHeld => ?_)
                      generalize w17.drew = w18 at BK119 HB hx120_0 hHeld ⊢
                      refine pure_ (i := 0) (N := some 26) (v := ?_) (a' := ?_) #[true, false, false, false, false, false, false] rfl rfl (by kernel_rfl) (fun _ _ _ h => h) (Or.inl ⟨by rfl, ?_⟩) ?_ ?_
                      rotate_left
                      · intro w'
                        go_simp
                        with_reducible rfl
                      rotate_left
                      · simp only [Act.put, List.setIfInBounds_toArray, List.set_cons_zero, List.set_cons_succ, i64_w, i32_w]
                        rfl
                      refine pure_ (i := 1) (N := some 27) (v := ?_) (a' := ?_) #[true, true, false, false, false, false, false] rfl rfl (by kernel_rfl) (fun _ _ _ h => h) (Or.inl ⟨by rfl, ?_⟩) ?_ ?_
                      rotate_left
                      · intro w'
                        go_simp
                        with_reducible rfl
                      rotate_left
                      · simp only [Act.put, List.setIfInBounds_toArray, List.set_cons_zero, List.set_cons_succ, i64_w, i32_w]
                        rfl
                      refine pure_ (i := 2) (N := some 28) (v := ?_) (a' := ?_) #[true, true, true, false, false, false, false] rfl rfl (by kernel_rfl) (fun _ _ _ h => h) (Or.inl ⟨by rfl, ?_⟩) ?_ ?_
                      rotate_left
                      · intro w'
                        go_simp
                        with_reducible rfl
                      rotate_left
                      · simp only [Act.put, List.setIfInBounds_toArray, List.set_cons_zero, List.set_cons_succ, i64_w, i32_w]
                        rfl
                      refine take_ (i := 3) (N := some 29) (v := ?_) (a' := ?_) #[true, true, true, true, false, false, false] rfl rfl (by kernel_rfl) (fun _ _ _ h => h) (Or.inl ⟨by rfl, ?_⟩) hHeld ?_ ?_
                      rotate_left
                      · rintro w' ⟨s0, s1, s2⟩
                        go_simp
                        with_reducible rfl
                      rotate_left
                      · simp only [Act.put, List.setIfInBounds_toArray, List.set_cons_zero, List.set_cons_succ, i64_w, i32_w]
                        rfl
                      refine take_ (i := 4) (N := some 30) (v := ?_) (a' := ?_) #[true, true, true, true, true, false, false] rfl rfl (by kernel_rfl) (fun _ _ _ h => h) (Or.inl ⟨by rfl, ?_⟩) hHeld ?_ ?_
                      rotate_left
                      · rintro w' ⟨s0, s1, s2⟩
                        go_simp
                        with_reducible rfl
                      rotate_left
                      · simp only [Act.put, List.setIfInBounds_toArray, List.set_cons_zero, List.set_cons_succ, i64_w, i32_w]
                        rfl
                      refine one_ (i := 5) (N := some 31) #[true, true, true, true, true, true, false] rfl rfl (by kernel_rfl) (by decide) (fun K hK => ?_)
                      refine goes_ Try.func52 (by kernel_rfl) rfl #[.agg #[.int .i64 ((rd_T79 l0 x21_2).f0), .int .i64 ((rd_T79 l0 x21_2).f1)]] (by rfl) rfl rfl (by (try simp only [List.map_toArray, List.map_cons, List.map_nil]); first | done | rfl | (simp only [List.length_drop, List.length_take]; rfl)) ?_
                      with_reducible refine (field_Field_Most.calls ((rd_T79 l0 x21_2).f0) ((rd_T79 l0 x21_2).f1) t121 _ A13.out).mono ?_
                      rintro e w19 ⟨rfl, hb⟩
                      refine ⟨_, rfl, ?_⟩
                      have n0_ := Aside0.mk (blk_below (g := gb119) (o := .cells #[.int .i64 ((rd_T79 l0 x21_2).f0), .int .i64 ((rd_T79 l0 x21_2).f1)] 79 (0, 0)) (by (with_reducible repeat (first | refine blk_drewN ?_ _ | refine blk_drew ?_ | refine blk_alloc ?_ _)); exact BK119.out) hb)
                      have n1_ := Aside0.mk (below_step (by repeat (first | (with_reducible first | exact HB.out | apply below_alloc | apply pw_below_drewN | apply below_drew1 | refine below_set ?_ GE119.out) | exact HB.out)) hb)
                      clear BK119
                      clear HB
                      have BK119 := n0_
                      have HB := n1_
                      clear n0_ n1_
                      (try clear hb)
                      (try clear hb2)
                      (try clear hk)
                      (try clear hi)
                      refine hK.out _ _ ⟨(blk_cell BK119.out 0).trans rfl, (blk_cell BK119.out 1).trans rfl, ((HB.out.cell (World.block_lt_of_cell? w _ hw120_0)).trans hw120_0)⟩ (fun hHeld => ?_)
                      clear hK K
                      refine norm_ (a' := ?_) ?_ ?_
                      rotate_left
                      · show Act.put _ (some 31) _ = _
                        simp only [Act.put, List.setIfInBounds_toArray, List.set_cons_zero, List.set_cons_succ, i64_w, i32_w]
                        rfl
                      refine pure_ (i := 6) (N := some 32) (v := ?_) (a' := ?_) #[true, true, true, true, true, true, true] rfl rfl (by kernel_rfl) (fun _ _ _ h => h) (Or.inl ⟨by rfl, ?_⟩) ?_ ?_
                      rotate_left
                      · intro w'
                        go_simp
                        with_reducible rfl
                      rotate_left
                      · simp only [Act.put, List.setIfInBounds_toArray, List.set_cons_zero, List.set_cons_succ, i64_w, i32_w]
                        rfl
                      refine done_ (by kernel_rfl) ?_
                      try go_wp2
                      go_ret2
                      exact ⟨by first | rfl | (simp [errW_none, errW_some] <;> rfl) | (simp [*, errW_none, errW_some] <;> rfl), by repeat (first | (with_reducible first | exact HB.out | apply below_alloc | apply pw_below_drewN | apply below_drew1 | refine below_set ?_ GE119.out) | exact HB.out)⟩
                    · rw [if_neg c14] at H
                      have c14b0 : decide (t121 < (rd l1 x21_2)) = false := decide_eq_false c14
                      clear c14
                      replace H := Option.bind_eq_some_iff.mp H
                      obtain ⟨t123, A200, H⟩ := H
                      replace H : (field_Pack.l0 k2 l1 t123 l0 (l0.length : Int) (wrap64 (x21_2 + 1))) = some (r1, r2) := H
                      have A20 := Aside0.mk A200
                      clear A200
                      have H' := Aside0.mk H
                      clear H
                      have p118 : 0 ≤ (x21_2 : Int) := of_decide_eq_true (by first | (with_reducible assumption) | assumption)
                      have q118 : x21_2 < (l0.length : Int) := of_decide_eq_true (by first | (with_reducible assumption) | assumption)
                      obtain ⟨ad118, e118, hx118_0, hx118_1⟩ := at_T79 HR0.out x21_2 p118 q118
                      cases e118
                      replace hx118_0 := (HB.out.cell (World.block_lt_of_cell? w _ hx118_0)).trans hx118_0
                      replace hx118_1 := (HB.out.cell (World.block_lt_of_cell? w _ hx118_1)).trans hx118_1
                      replace p118 := eq_true p118
                      replace q118 := eq_true q118
                      try go_wp2_with (first | ((with_reducible refine gate_dst (N := 8) rfl ?_); (try (refine gate_guard (by rfl) ?_; dsimp only)); refine box_event ?hg (N := 8) ?hd (cs := #[.int .i64 0, .int .i64 0]) (t := 79) ?hr ?_; (case hd => rfl); (case hg => rfl); (case hr => first | (go_simp; done) | (go_simp; rfl)); intro gb119 hg w21 hbox hb; have n0_ := Aside0.mk (below_step (by repeat (first | (with_reducible first | exact HB.out | apply below_alloc | apply pw_below_drewN | apply below_drew1) | exact HB.out)) hb); have n1_ := Aside0.mk (hbox); have n2_ := Aside0.mk ((by rw [hg]; exact (below_size (by repeat (first | (with_reducible first | exact HB.out | apply below_alloc | apply pw_below_drewN | apply below_drew1) | exact HB.out))) : w.heap.size ≤ gb119)); have n3_ := Aside0.mk ((by rw [hg]; exact (below_size (by repeat (first | (with_reducible first | exact HB.out | apply below_alloc | apply pw_below_drewN | apply below_drew1) | exact HB.out))) : w.heap.size ≤ gb119)); clear HB; have HB := n0_; have BK119 := n1_; have GW119 := n2_; have GE119 := n3_; clear n0_ n1_ n2_ n3_; clear hb hbox hg; have hcz22_0 : w21.cell? ⟨gb119, 0, none⟩ = some (.int .i64 0) := (blk_cell BK119.out 0).trans rfl; have hcz22_1 : w21.cell? ⟨gb119, 1, none⟩ = some (.int .i64 0) := (blk_cell BK119.out 1).trans rfl; have hfz22_0 := blk_frozen BK119.out 0; have hfz22_1 := blk_frozen BK119.out 1))
                      have n0_ : Aside0 (((w21.setCell ⟨gb119, 0, none⟩ (.int .i64 ((rd_T79 l0 x21_2).f0))).setCell ⟨gb119, 1, none⟩ (.int .i64 ((rd_T79 l0 x21_2).f1))).heap[gb119]? = some (.cells #[.int .i64 ((rd_T79 l0 x21_2).f0), .int .i64 ((rd_T79 l0 x21_2).f1)] 79 (0, 0))) := ⟨by (with_reducible repeat (first | refine blk_drewN ?_ _ | refine blk_drew ?_ | refine blk_alloc ?_ _)); refine blk_put (cs := #[.int .i64 ((rd_T79 l0 x21_2).f0), .int .i64 0]) ?_ 1 _ rfl; (with_reducible repeat (first | refine blk_drewN ?_ _ | refine blk_drew ?_ | refine blk_alloc ?_ _)); refine blk_put (cs := #[.int .i64 0, .int .i64 0]) ?_ 0 _ rfl; (with_reducible repeat (first | refine blk_drewN ?_ _ | refine blk_drew ?_ | refine blk_alloc ?_ _)); exact BK119.out⟩
                      have n1_ : Aside0 (Below w.heap.size w ((w21.setCell ⟨gb119, 0, none⟩ (.int .i64 ((rd_T79 l0 x21_2).f0))).setCell ⟨gb119, 1, none⟩ (.int .i64 ((rd_T79 l0 x21_2).f1)))) := ⟨by repeat (first | (with_reducible first | exact HB.out | apply below_alloc | apply pw_below_drewN | apply below_drew1 | refine below_set ?_ GE119.out) | exact HB.out)⟩
                      (try clear BK119)
                      (try clear HB)
                      generalize ((w21.setCell ⟨gb119, 0, none⟩ (.int .i64 ((rd_T79 l0 x21_2).f0))).setCell ⟨gb119, 1, none⟩ (.int .i64 ((rd_T79 l0 x21_2).f1))) = w23 at n0_ n1_ ⊢
                      have BK119 := n0_
                      have HB := n1_
                      clear n0_ n1_
                      have n0_ := Aside0.mk (blk_drew BK119.out)
                      have n1_ := Aside0.mk (below_drew1 HB.out)
                      clear BK119
                      clear HB
                      have BK119 := n0_
                      have HB := n1_
                      clear n0_ n1_
                      have p120 : 0 ≤ (x21_2 : Int) := of_decide_eq_true (by first | (with_reducible assumption) | assumption)
                      have q120 : x21_2 < (l1.length : Int) := of_decide_eq_true (by first | (with_reducible assumption) | assumption)
                      obtain ⟨ad120, e120, hx120_0⟩ := Kd.at_int HR1.out x21_2 p120 q120
                      have hw120_0 := hx120_0
                      cases e120
                      replace hx120_0 := (HB.out.cell (World.block_lt_of_cell? w _ hx120_0)).trans hx120_0
                      replace p120 := eq_true p120
                      replace q120 := eq_true q120
                      refine start_ (n := 7) (S := fun w' => w'.cell? ⟨gb119, 0, none⟩ = some (.int .i64 ((rd_T79 l0 x21_2).f0)) ∧ w'.cell? ⟨gb119, 1, none⟩ = some (.int .i64 ((rd_T79 l0 x21_2).f1)) ∧ w'.cell? (ad120.add (x21_2).toNat) = some (.int .u64 (rd l1 x21_2))) (ds := []) #[false, false, false, false, false, false, false] (by kernel_rfl) rfl rfl ⟨(blk_cell BK119.out 0).trans rfl, (blk_cell BK119.out 1).trans rfl, ((HB.out.cell (World.block_lt_of_cell? w _ hw120_0)).trans hw120_0)⟩ (fun hHeld => ?_)
                      generalize w23.drew = w24 at BK119 HB hx120_0 hHeld ⊢
                      refine pure_ (i := 0) (N := some 26) (v := ?_) (a' := ?_) #[true, false, false, false, false, false, false] rfl rfl (by kernel_rfl) (fun _ _ _ h => h) (Or.inl ⟨by rfl, ?_⟩) ?_ ?_
                      rotate_left
                      · intro w'
                        go_simp
                        with_reducible rfl
                      rotate_left
                      · simp only [Act.put, List.setIfInBounds_toArray, List.set_cons_zero, List.set_cons_succ, i64_w, i32_w]
                        rfl
                      refine pure_ (i := 1) (N := some 27) (v := ?_) (a' := ?_) #[true, true, false, false, false, false, false] rfl rfl (by kernel_rfl) (fun _ _ _ h => h) (Or.inl ⟨by rfl, ?_⟩) ?_ ?_
                      rotate_left
                      · intro w'
                        go_simp
                        with_reducible rfl
                      rotate_left
                      · simp only [Act.put, List.setIfInBounds_toArray, List.set_cons_zero, List.set_cons_succ, i64_w, i32_w]
                        rfl
                      refine pure_ (i := 2) (N := some 28) (v := ?_) (a' := ?_) #[true, true, true, false, false, false, false] rfl rfl (by kernel_rfl) (fun _ _ _ h => h) (Or.inl ⟨by rfl, ?_⟩) ?_ ?_
                      rotate_left
                      · intro w'
                        go_simp
                        with_reducible rfl
                      rotate_left
                      · simp only [Act.put, List.setIfInBounds_toArray, List.set_cons_zero, List.set_cons_succ, i64_w, i32_w]
                        rfl
                      refine take_ (i := 3) (N := some 29) (v := ?_) (a' := ?_) #[true, true, true, true, false, false, false] rfl rfl (by kernel_rfl) (fun _ _ _ h => h) (Or.inl ⟨by rfl, ?_⟩) hHeld ?_ ?_
                      rotate_left
                      · rintro w' ⟨s0, s1, s2⟩
                        go_simp
                        with_reducible rfl
                      rotate_left
                      · simp only [Act.put, List.setIfInBounds_toArray, List.set_cons_zero, List.set_cons_succ, i64_w, i32_w]
                        rfl
                      refine take_ (i := 4) (N := some 30) (v := ?_) (a' := ?_) #[true, true, true, true, true, false, false] rfl rfl (by kernel_rfl) (fun _ _ _ h => h) (Or.inl ⟨by rfl, ?_⟩) hHeld ?_ ?_
                      rotate_left
                      · rintro w' ⟨s0, s1, s2⟩
                        go_simp
                        with_reducible rfl
                      rotate_left
                      · simp only [Act.put, List.setIfInBounds_toArray, List.set_cons_zero, List.set_cons_succ, i64_w, i32_w]
                        rfl
                      refine one_ (i := 5) (N := some 31) #[true, true, true, true, true, true, false] rfl rfl (by kernel_rfl) (by decide) (fun K hK => ?_)
                      refine goes_ Try.func52 (by kernel_rfl) rfl #[.agg #[.int .i64 ((rd_T79 l0 x21_2).f0), .int .i64 ((rd_T79 l0 x21_2).f1)]] (by rfl) rfl rfl (by (try simp only [List.map_toArray, List.map_cons, List.map_nil]); first | done | rfl | (simp only [List.length_drop, List.length_take]; rfl)) ?_
                      with_reducible refine (field_Field_Most.calls ((rd_T79 l0 x21_2).f0) ((rd_T79 l0 x21_2).f1) t121 _ A13.out).mono ?_
                      rintro e w25 ⟨rfl, hb⟩
                      refine ⟨_, rfl, ?_⟩
                      have n0_ := Aside0.mk (blk_below (g := gb119) (o := .cells #[.int .i64 ((rd_T79 l0 x21_2).f0), .int .i64 ((rd_T79 l0 x21_2).f1)] 79 (0, 0)) (by (with_reducible repeat (first | refine blk_drewN ?_ _ | refine blk_drew ?_ | refine blk_alloc ?_ _)); exact BK119.out) hb)
                      have n1_ := Aside0.mk (below_step (by repeat (first | (with_reducible first | exact HB.out | apply below_alloc | apply pw_below_drewN | apply below_drew1 | refine below_set ?_ GE119.out) | exact HB.out)) hb)
                      clear BK119
                      clear HB
                      have BK119 := n0_
                      have HB := n1_
                      clear n0_ n1_
                      (try clear hb)
                      (try clear hb2)
                      (try clear hk)
                      (try clear hi)
                      refine hK.out _ _ ⟨(blk_cell BK119.out 0).trans rfl, (blk_cell BK119.out 1).trans rfl, ((HB.out.cell (World.block_lt_of_cell? w _ hw120_0)).trans hw120_0)⟩ (fun hHeld => ?_)
                      clear hK K
                      refine norm_ (a' := ?_) ?_ ?_
                      rotate_left
                      · show Act.put _ (some 31) _ = _
                        simp only [Act.put, List.setIfInBounds_toArray, List.set_cons_zero, List.set_cons_succ, i64_w, i32_w]
                        rfl
                      refine pure_ (i := 6) (N := some 32) (v := ?_) (a' := ?_) #[true, true, true, true, true, true, true] rfl rfl (by kernel_rfl) (fun _ _ _ h => h) (Or.inl ⟨by rfl, ?_⟩) ?_ ?_
                      rotate_left
                      · intro w'
                        go_simp
                        with_reducible rfl
                      rotate_left
                      · simp only [Act.put, List.setIfInBounds_toArray, List.set_cons_zero, List.set_cons_succ, i64_w, i32_w]
                        rfl
                      refine done_ (by kernel_rfl) ?_
                      try go_wp2
                      have n0_ := Aside0.mk (blk_drew BK119.out)
                      have n1_ := Aside0.mk (below_drew1 HB.out)
                      clear BK119
                      clear HB
                      have BK119 := n0_
                      have HB := n1_
                      clear n0_ n1_
                      have p122 : 0 ≤ (x21_2 : Int) := of_decide_eq_true (by first | (with_reducible assumption) | assumption)
                      have q122 : x21_2 < (l1.length : Int) := of_decide_eq_true (by first | (with_reducible assumption) | assumption)
                      obtain ⟨ad122, e122, hx122_0⟩ := Kd.at_int HR1.out x21_2 p122 q122
                      have hw122_0 := hx122_0
                      obtain rfl : ad120 = ad122 := (by injection e122)
                      replace hx122_0 := (HB.out.cell (World.block_lt_of_cell? w _ hx122_0)).trans hx122_0
                      replace p122 := eq_true p122
                      replace q122 := eq_true q122
                      refine start_ (n := 8) (S := fun w' => w'.cell? ⟨gb119, 0, none⟩ = some (.int .i64 ((rd_T79 l0 x21_2).f0)) ∧ w'.cell? ⟨gb119, 1, none⟩ = some (.int .i64 ((rd_T79 l0 x21_2).f1)) ∧ w'.cell? (ad120.add (x21_2).toNat) = some (.int .u64 (rd l1 x21_2))) (ds := []) #[false, false, false, false, false, false, false, false] (by kernel_rfl) rfl rfl ⟨(blk_cell BK119.out 0).trans rfl, (blk_cell BK119.out 1).trans rfl, ((HB.out.cell (World.block_lt_of_cell? w _ hw122_0)).trans hw122_0)⟩ (fun hHeld => ?_); refine with_tabW field_Pack.tab9 field_Pack.bits9 (fun HT_ HW_ => ?_)
                      generalize w25.drew = w26 at BK119 HB hx122_0 hHeld ⊢
                      refine pure_ (i := 1) (N := some 34) (v := ?_) (a' := ?_) #[false, true, false, false, false, false, false, false] rfl rfl (any_of HT_.out (by kernel_rfl)) (fun _ _ _ h => h) (Or.inl ⟨by rfl, ?_⟩) ?_ ?_
                      rotate_left
                      · intro w'
                        go_simp
                        with_reducible rfl
                      rotate_left
                      · simp only [Act.put, List.setIfInBounds_toArray, List.set_cons_zero, List.set_cons_succ, i64_w, i32_w]
                        rfl
                      refine pure_ (i := 2) (N := some 35) (v := ?_) (a' := ?_) #[false, true, true, false, false, false, false, false] rfl rfl (any_of HT_.out (by kernel_rfl)) (fun _ _ _ h => h) (Or.inl ⟨by rfl, ?_⟩) ?_ ?_
                      rotate_left
                      · intro w'
                        go_simp
                        with_reducible rfl
                      rotate_left
                      · simp only [Act.put, List.setIfInBounds_toArray, List.set_cons_zero, List.set_cons_succ, i64_w, i32_w]
                        rfl
                      refine pure_ (i := 3) (N := some 36) (v := ?_) (a' := ?_) #[false, true, true, true, false, false, false, false] rfl rfl (any_of HT_.out (by kernel_rfl)) (fun _ _ _ h => h) (Or.inl ⟨by rfl, ?_⟩) ?_ ?_
                      rotate_left
                      · intro w'
                        go_simp
                        with_reducible rfl
                      rotate_left
                      · simp only [Act.put, List.setIfInBounds_toArray, List.set_cons_zero, List.set_cons_succ, i64_w, i32_w]
                        rfl
                      refine pure_ (i := 4) (N := some 37) (v := ?_) (a' := ?_) #[false, true, true, true, true, false, false, false] rfl rfl (any_of HT_.out (by kernel_rfl)) (fun _ _ _ h => h) (Or.inl ⟨by rfl, ?_⟩) ?_ ?_
                      rotate_left
                      · intro w'
                        go_simp
                        with_reducible rfl
                      rotate_left
                      · simp only [Act.put, List.setIfInBounds_toArray, List.set_cons_zero, List.set_cons_succ, i64_w, i32_w]
                        rfl
                      refine take_ (i := 0) (N := some 33) (v := ?_) (a' := ?_) #[true, true, true, true, true, false, false, false] rfl rfl (take_ofW HT_.out HW_.out (by kernel_rfl)) (fun _ _ _ h => h) (Or.inl ⟨by rfl, ?_⟩) hHeld ?_ ?_
                      rotate_left
                      · rintro w' ⟨s0, s1, s2⟩
                        go_simp
                        with_reducible rfl
                      rotate_left
                      · simp only [Act.put, List.setIfInBounds_toArray, List.set_cons_zero, List.set_cons_succ, i64_w, i32_w]
                        rfl
                      refine take_ (i := 5) (N := some 38) (v := ?_) (a' := ?_) #[true, true, true, true, true, true, false, false] rfl rfl (take_ofW HT_.out HW_.out (by kernel_rfl)) (fun _ _ _ h => h) (Or.inl ⟨by rfl, ?_⟩) hHeld ?_ ?_
                      rotate_left
                      · rintro w' ⟨s0, s1, s2⟩
                        go_simp
                        with_reducible rfl
                      rotate_left
                      · simp only [Act.put, List.setIfInBounds_toArray, List.set_cons_zero, List.set_cons_succ, i64_w, i32_w]
                        rfl
                      refine one_ (i := 6) (N := some 39) #[true, true, true, true, true, true, true, false] rfl rfl (one_of HT_.out (by kernel_rfl)) (by decide) (fun K hK => ?_)
                      refine goes_ Try.func53 (by kernel_rfl) rfl #[.agg #[.int .i64 ((rd_T79 l0 x21_2).f0), .int .i64 ((rd_T79 l0 x21_2).f1)], .int .u64 x6_2, .int .u64 (rd l1 x21_2)] (by rfl) rfl rfl (by (try simp only [List.map_toArray, List.map_cons, List.map_nil]); first | done | rfl | (simp only [List.length_drop, List.length_take]; rfl)) ?_
                      with_reducible refine (field_Field_Put.calls ((rd_T79 l0 x21_2).f0) ((rd_T79 l0 x21_2).f1) x6_2 (rd l1 x21_2) t123 _ A20.out).mono ?_
                      rintro e w27 ⟨rfl, hb⟩
                      refine ⟨_, rfl, ?_⟩
                      have n0_ := Aside0.mk (blk_below (g := gb119) (o := .cells #[.int .i64 ((rd_T79 l0 x21_2).f0), .int .i64 ((rd_T79 l0 x21_2).f1)] 79 (0, 0)) (by (with_reducible repeat (first | refine blk_drewN ?_ _ | refine blk_drew ?_ | refine blk_alloc ?_ _)); exact BK119.out) hb)
                      have n1_ := Aside0.mk (below_step (by repeat (first | (with_reducible first | exact HB.out | apply below_alloc | apply pw_below_drewN | apply below_drew1 | refine below_set ?_ GE119.out) | exact HB.out)) hb)
                      clear BK119
                      clear HB
                      have BK119 := n0_
                      have HB := n1_
                      clear n0_ n1_
                      (try clear hb)
                      (try clear hb2)
                      (try clear hk)
                      (try clear hi)
                      refine hK.out _ _ ⟨(blk_cell BK119.out 0).trans rfl, (blk_cell BK119.out 1).trans rfl, ((HB.out.cell (World.block_lt_of_cell? w _ hw122_0)).trans hw122_0)⟩ (fun hHeld => ?_)
                      clear hK K
                      refine norm_ (a' := ?_) ?_ ?_
                      rotate_left
                      · show Act.put _ (some 39) _ = _
                        simp only [Act.put, List.setIfInBounds_toArray, List.set_cons_zero, List.set_cons_succ, i64_w, i32_w]
                        rfl
                      refine pure_ (i := 7) (N := some 6) (v := ?_) (a' := ?_) #[true, true, true, true, true, true, true, true] rfl rfl (any_of HT_.out (by kernel_rfl)) (fun _ _ _ h => h) (Or.inl ⟨by rfl, ?_⟩) ?_ ?_
                      rotate_left
                      · intro w'
                        go_simp
                        with_reducible rfl
                      rotate_left
                      · simp only [Act.put, List.setIfInBounds_toArray, List.set_cons_zero, List.set_cons_succ, i64_w, i32_w]
                        rfl
                      refine done_ (done_of HT_.out (by kernel_rfl)) ?_
                      try go_wp2
                      go_roundg k2
                      case measure => have := HJ2.out; have := HK2.out; omega
                      case rel => exact ⟨(t123), (wrap64 (x21_2 + 1)), (by first | rfl | (simp; done) | (simp [*]; done)), (by first | rfl | (simp; done) | (simp [*]; done)), H', ⟨by have := HJ2.out; have := HK2.out; omega⟩, ⟨by repeat (first | (with_reducible first | exact HB.out | apply below_alloc | apply pw_below_drewN | apply below_drew1 | refine below_set ?_ GE119.out) | exact HB.out)⟩⟩
                  · rw [if_neg c12] at H
                    exact absurd H (by simp)
                · rw [if_neg c11] at H
                  exact absurd H (by simp)
              · rw [if_neg c10] at H
                exact absurd H (by simp)
            · rw [if_neg c9] at H
              have c9b0 : decide (x21_2 < (l0.length : Int)) = false := decide_eq_false c9
              clear c9
              simp only [Option.some.injEq, Prod.mk.injEq] at H
              obtain ⟨rfl, rfl⟩ := H
              go_wp2
              go_ret2
              exact ⟨by first | rfl | (simp [errW_none, errW_some] <;> rfl) | (simp [*, errW_none, errW_some] <;> rfl), by repeat (first | (with_reducible first | exact HB.out | apply below_alloc | apply pw_below_drewN | apply below_drew1) | exact HB.out)⟩

-- NOT PRINTED: function 47 (state_layout)

/-! ### state_State_Word: function 28 -/
namespace Giv
open Go.Proofs.Ytdmiingneodcbaa.FB Go.Proofs.Ytdmiingneodcbaa.FL Go.Proofs.Ytdmiingneodcbaa.FN

 theorem formed_eq (a n : Int) : field_Field_Formed.f a n = some (decide (Fm a n)) := by
  unfold field_Field_Formed.f Fm
  by_cases h1 : 0 ≤ a
  · by_cases h2 : a < 64
    · by_cases h3 : 1 ≤ n
      · rw [if_pos h1, if_pos h2, if_pos h3, wrap_in (by omega)]; simp [h1, h2, h3]
      · rw [if_pos h1, if_pos h2, if_neg h3]; simp [h3]
    · rw [if_pos h1, if_neg h2]; simp [h2]
  · rw [if_neg h1]; simp [h1]
 theorem formed_yes {a n : Int} (h : Fm a n) : field_Field_Formed.f a n = some true := by rw [formed_eq, decide_eq_true h]
 theorem formed_no {a n : Int} (h : ¬ Fm a n) : field_Field_Formed.f a n = some false := by rw [formed_eq, decide_eq_false h]
 theorem most_eq {A B : Nat} (h : Fm A B) : field_Field_Most.f A B = some (u (ones B)) := by
  unfold field_Field_Most.f
  rw [formed_yes h, Option.bind_some, if_pos rfl]
  unfold Fm at h
  by_cases h64 : (B : Int) = 64
  · have : B = 64 := by omega
    subst this
    rw [if_pos (by rfl), ones_64, ← all_u]
  · rw [if_neg h64, if_pos (by omega), most_u (by omega)]
 theorem most_no {a n : Int} (h : ¬ Fm a n) : field_Field_Most.f a n = some 0 := by
  unfold field_Field_Most.f
  rw [formed_no h]
  simp
 theorem mask_eq {A B : Nat} (h : Fm A B) : field_Field_mask.f A B = some (u (mask A B)) := by
  unfold field_Field_mask.f
  rw [formed_yes h, most_eq h, Option.bind_some, if_pos rfl, Option.bind_some]
  unfold Fm at h
  rw [if_pos (by omega), shl_u _ _ (by omega)]
  rfl
 theorem put_eq {A B : Nat} (h : Fm A B) (w v : BitVec 64) : field_Field_Put.f A B (u w) (u v) = some (u (put A B w v)) := by
  unfold field_Field_Put.f
  rw [formed_yes h, most_eq h, mask_eq h, Option.bind_some, if_pos rfl, Option.bind_some, Option.bind_some]
  unfold Fm at h
  rw [if_pos (by omega), and_u, shl_u _ _ (by omega), andNot_u, or_u]
  rfl
 theorem put_no {a n : Int} (h : ¬ Fm a n) (w v : Int) : field_Field_Put.f a n w v = some w := by
  unfold field_Field_Put.f
  rw [formed_no h]
  simp

 def pr (l : List S79) : List Fld := l.map fun x => (x.f0, x.f1)
 theorem pr_len (l : List S79) : (pr l).length = l.length := by simp [pr]
 theorem pr_app (p s : List S79) : pr (p ++ s) = pr p ++ pr s := by simp [pr]
 theorem rd_mid (p : List S79) (x : S79) (s : List S79) (n : Int) (h : n = p.length) : rd_T79 (p ++ x :: s) n = x := by
  subst h
  unfold rd_T79
  rw [Int.toNat_natCast]
  simp [List.getD_eq_getElem?_getD]
 theorem rd_num (p : List Int) (x : Int) (s : List Int) (n : Int) (h : n = p.length) : rd (p ++ x :: s) n = x := by
  subst h
  unfold rd
  rw [Int.toNat_natCast]
  simp [List.getD_eq_getElem?_getD]
 theorem fnat {f : Fld} (h : Fm f.1 f.2) : f.1 = (f.1.toNat : Int) ∧ f.2 = (f.2.toNat : Int) := by unfold Fm at h; omega
 theorem most_f {f : Fld} (h : Fm f.1 f.2) : field_Field_Most.f f.1 f.2 = some (u (ons f)) := by
  obtain ⟨e1, e2⟩ := fnat h
  have h' := h
  rw [e1, e2] at h'
  have := most_eq h'
  rw [← e1, ← e2] at this
  exact this
 theorem mask_f {f : Fld} (h : Fm f.1 f.2) : field_Field_mask.f f.1 f.2 = some (u (msk f)) := by
  obtain ⟨e1, e2⟩ := fnat h
  have h' := h
  rw [e1, e2] at h'
  have := mask_eq h'
  rw [← e1, ← e2] at this
  exact this
 theorem put_f {f : Fld} (h : Fm f.1 f.2) (w v : BitVec 64) : field_Field_Put.f f.1 f.2 (u w) (u v) = some (u (pt f w v)) := by
  obtain ⟨e1, e2⟩ := fnat h
  have h' := h
  rw [e1, e2] at h'
  have := put_eq h' w v
  rw [← e1, ← e2] at this
  exact this
 theorem formed_loop (s : List S79) : ∀ (p : List S79) (all : BitVec 64), (p ++ s).length < 4611686018427387904 → Lay (pr p) → Bits all (pr p) →
    Ev (fun k => field_Formed.l0 k (u all) (p ++ s) ((p ++ s).length : Int) (p.length : Int)) (decide (Lay (pr (p ++ s)))) := by
  induction s with
  | nil =>
    intro p all hn hl hb
    refine Ev.step (f := fun _ => some (decide (Lay (pr (p ++ []))))) (fun k => ?_) (Ev.now _)
    simp only [field_Formed.l0]
    rw [if_neg (by simp), List.append_nil, decide_eq_true hl]
  | cons x s ih =>
    intro p all hn hl hb
    have e0 : (p.length : Int) < ((p ++ x :: s).length : Int) := by simp; omega
    have e1 : wrap64 ((p.length : Int) + 1) = ((p ++ [x]).length : Int) := by
      rw [wrap_in (by simp at hn; omega)]; simp
    have e2 : p ++ x :: s = (p ++ [x]) ++ s := by simp
    have e3 := rd_mid p x s _ rfl
    by_cases hf : Fm x.f0 x.f1
    · have hm := mask_f (f := (x.f0, x.f1)) hf
      by_cases ha : all &&& msk (x.f0, x.f1) = 0#64
      · refine Ev.step (f := fun k => field_Formed.l0 k (u (all ||| msk (x.f0, x.f1))) ((p ++ [x]) ++ s) (((p ++ [x]) ++ s).length : Int) ((p ++ [x]).length : Int)) (fun k => ?_) ?_
        · simp only [field_Formed.l0]
          rw [if_pos e0, if_pos (by omega), if_pos e0, e3, formed_yes hf, Option.bind_some, if_pos rfl]
          simp only [hm, Option.bind_some]
          rw [and_u, if_pos (by rw [ha]; rfl), or_u, e1, e2]
        · rw [e2]
          refine ih (p ++ [x]) _ (by rw [← e2]; exact hn) ?_ ?_
          · rw [pr_app]
            exact lay_snoc.2 ⟨hl, hf, (bits_apart hb hl.1 hf).1 ha⟩
          · rw [pr_app]
            exact bits_snoc hb hf
      · have hno : decide (Lay (pr (p ++ x :: s))) = false := by
          rw [decide_eq_false_iff_not]
          intro h
          rw [e2, pr_app] at h
          have h2 := lay_pre h
          rw [pr_app] at h2
          exact ha ((bits_apart hb hl.1 hf).2 (lay_snoc.1 h2).2.2)
        rw [hno]
        refine Ev.step (f := fun _ => some false) (fun k => ?_) (Ev.now _)
        simp only [field_Formed.l0]
        rw [if_pos e0, if_pos (by omega), if_pos e0, e3, formed_yes hf, Option.bind_some, if_pos rfl]
        simp only [hm, Option.bind_some]
        rw [and_u, if_neg (by rw [u_eq_zero]; exact ha)]
    · have hno : decide (Lay (pr (p ++ x :: s))) = false := by
        rw [decide_eq_false_iff_not]
        intro h
        exact hf (h.1 (x.f0, x.f1) (by simp [pr]))
      rw [hno]
      refine Ev.step (f := fun _ => some false) (fun k => ?_) (Ev.now _)
      simp only [field_Formed.l0]
      rw [if_pos e0, if_pos (by omega), if_pos e0, e3, formed_no hf, Option.bind_some, if_neg (by simp)]
 theorem formed_f (l : List S79) (hn : l.length < 4611686018427387904) : Ev (fun k => field_Formed.f k l) (decide (Lay (pr l))) := by
  have := formed_loop l [] 0#64 (by simpa using hn) lay_nil bits_nil
  exact this
 def told (o : Option (BitVec 64)) : Int × Int := match o with | some w => (u w, 0) | none => (0, 1)
 theorem pack_loop (s : List S79) : ∀ (p : List S79) (a b : List (BitVec 64)) (w : BitVec 64), (p ++ s).length < 4611686018427387904 → (∀ f ∈ pr s, Fm f.1 f.2) → a.length = p.length → b.length = s.length →
    Ev (fun k => field_Pack.l0 k ((a ++ b).map u) (u w) (p ++ s) ((p ++ s).length : Int) (p.length : Int)) (told (pk w (pr s) b)) := by
  induction s with
  | nil =>
    intro p a b w hn hl ha hb
    refine Ev.step (f := fun _ => some (told (some w))) (fun k => ?_) (Ev.now _)
    simp only [field_Pack.l0]
    rw [if_neg (by simp)]
    rfl
  | cons x s ih =>
    intro p a b w hn hl ha hb
    obtain ⟨v, b, rfl⟩ : ∃ v c, b = v :: c := by cases b with | nil => simp at hb | cons v c => exact ⟨v, c, rfl⟩
    have e0 : (p.length : Int) < ((p ++ x :: s).length : Int) := by simp; omega
    have e1 : wrap64 ((p.length : Int) + 1) = ((p ++ [x]).length : Int) := by
      rw [wrap_in (by simp at hn; omega)]; simp
    have e2 : p ++ x :: s = (p ++ [x]) ++ s := by simp
    have e3 := rd_mid p x s _ rfl
    have e4 : rd ((a ++ v :: b).map u) (p.length : Int) = u v := by
      rw [List.map_append, List.map_cons]
      exact rd_num _ _ _ _ (by simp [ha])
    have e5 : (p.length : Int) < (((a ++ v :: b).map u).length : Int) := by simp; omega
    have e6 : a ++ v :: b = (a ++ [v]) ++ b := by simp
    have hf : Fm x.f0 x.f1 := hl (x.f0, x.f1) (by simp [pr])
    have hp : pr (x :: s) = (x.f0, x.f1) :: pr s := rfl
    rw [hp, pk]
    by_cases hv : u (ons (x.f0, x.f1)) < u v
    · rw [if_pos hv]
      refine Ev.step (f := fun _ => some (0, 1)) (fun k => ?_) (Ev.now _)
      simp only [field_Pack.l0]
      rw [if_pos e0, if_pos (by omega), if_pos e0, if_pos e5, e3, e4, most_f (f := (x.f0, x.f1)) hf, Option.bind_some, if_pos hv]
    · rw [if_neg hv]
      have hgo := ih (p ++ [x]) (a ++ [v]) b (pt (x.f0, x.f1) w v) (by rw [← e2]; exact hn) (fun f hfm => hl f (by rw [hp]; simp [hfm])) (by simp [ha]) (by simpa using hb)
      rw [← e2, ← e6] at hgo
      refine Ev.step (fun k => ?_) hgo
      simp only [field_Pack.l0]
      rw [if_pos e0, if_pos (by omega), if_pos e0, if_pos e5, e3, e4, most_f (f := (x.f0, x.f1)) hf, Option.bind_some, if_neg hv, put_f (f := (x.f0, x.f1)) hf, Option.bind_some, e1]
 theorem pack_f (l : List S79) (vs : List (BitVec 64)) (hn : l.length < 4611686018427387904) : Ev (fun k => field_Pack.f k l (vs.map u)) (packed (pr l) vs) := by
  unfold field_Pack.f
  refine Ev.bind (formed_f l hn) ?_
  unfold packed
  by_cases h : Lay (pr l)
  · rw [decide_eq_true h]
    by_cases hlen : l.length = vs.length
    · rw [if_pos ⟨h, by rw [pr_len]; exact hlen⟩]
      have hgo := pack_loop l [] [] vs 0#64 (by simpa using hn) h.1 rfl hlen.symm
      refine Ev.congr (fun k => if_pos rfl) ?_
      refine Ev.step (fun k => ?_) hgo
      simp only [field_Pack.j0]
      rw [if_neg (by simp [hlen])]
      rfl
    · rw [if_neg (by rw [pr_len]; exact fun e => hlen e.2)]
      refine Ev.congr (fun k => if_pos rfl) ?_
      refine Ev.step (f := fun _ => some (0, 1)) (fun k => ?_) (Ev.now _)
      simp only [field_Pack.j0]
      rw [if_pos (by simp; omega)]
  · rw [decide_eq_false h, if_neg (fun e => h e.1)]
    refine Ev.congr (fun k => if_neg (by simp)) ?_
    refine Ev.step (f := fun _ => some (0, 1)) (fun k => ?_) (Ev.now _)
    simp only [field_Pack.j0]
    rw [if_pos True.intro]

 theorem sformed_eq (g m t : Int) : state_State_Formed.f g m t = some (decide (StF g m t)) := by
  unfold state_State_Formed.f StF
  by_cases h1 : 0 ≤ g
  · by_cases h2 : g ≤ 1073741823
    · by_cases h3 : 0 ≤ m
      · by_cases h4 : m ≤ 3
        · by_cases h5 : 0 ≤ t
          · rw [if_pos h1, if_pos h2, if_pos h3, if_pos h4, if_pos h5]; simp [h1, h2, h3, h4, h5]
          · rw [if_pos h1, if_pos h2, if_pos h3, if_pos h4, if_neg h5]; simp [h5]
        · rw [if_pos h1, if_pos h2, if_pos h3, if_neg h4]; simp [h4]
      · rw [if_pos h1, if_pos h2, if_neg h3]; simp [h3]
    · rw [if_pos h1, if_neg h2]; simp [h2]
  · rw [if_neg h1]; simp [h1]
 def stw (g m t : Int) : Int := if StF g m t then g + m * 1073741824 + t * 4294967296 else 0
 theorem layout_any (w : World) : Calls Try.prog 47 #[] w fun e w' => e = .returned (.agg #[.int .i64 0, .int .i64 30, .int .i64 30, .int .i64 2, .int .i64 32, .int .i64 2]) ∧ Below w.heap.size w w' := by
  go_enter Try.func47, Try.ntmps47
  go_wp2
  exact bodyPost_ret (v := .agg #[.int .i64 0, .int .i64 30, .int .i64 30, .int .i64 2, .int .i64 32, .int .i64 2]) (by simp [results, Try.results47, go_sem]) rfl ⟨rfl, (Below.refl _ _).alloc (Nat.le_refl _) _⟩
 theorem bcell {W w1 : World} (hb : Below W.heap.size W w1) : (∀ b o, b < W.heap.size → w1.cell? ⟨b, o, none⟩ = W.cell? ⟨b, o, none⟩) ∧ (∀ b o, b < W.heap.size → w1.frozen? ⟨b, o, none⟩ = W.frozen? ⟨b, o, none⟩) :=
  ⟨fun b o h => hb.cell (p := ⟨b, o, none⟩) h, fun b o h => hb.frozen (p := ⟨b, o, none⟩) h⟩
 theorem below_trans2 {w w1 w2 : World} {B : Nat} (h : Below B w w1) (h2 : Below w1.heap.size w1 w2) (hB : B ≤ w1.heap.size) : Below B w w2 := h.trans (h2.mono hB)
 theorem layC (g1 : Nat) (W : World) (h1 : W.heap[g1]? = some (.cells #[.int .i64 0, .int .i64 30, .int .i64 30, .int .i64 2, .int .i64 32, .int .i64 2] 80 (0, 0))) :
    Kd.C k79 W (some ⟨g1, 0, none⟩) 3 [⟨0, 30⟩, ⟨30, 2⟩, ⟨32, 2⟩] := by
  refine ⟨rfl, by simp, fun _ => ⟨_, rfl, fun j p hj => ⟨[.int .i64 p.f0, .int .i64 p.f1], rfl, k79_mk W p, fun i u hu => ?_⟩⟩⟩
  rw [add_plain]
  match j, i, hj, hu with
  | 0, 0, hj, hu | 0, 1, hj, hu | 1, 0, hj, hu | 1, 1, hj, hu | 2, 0, hj, hu | 2, 1, hj, hu =>
    simp at hj hu
    subst hj
    subst hu
    simp [World.cell?, h1, k79, Kd.iso, Kd.pair, Kd.int, Kd.scalar]
  | j + 3, _, hj, _ => simp at hj
  | _, i + 2, _, hu => simp at hu
 theorem pack_any (g1 g2 : Nat) (a b c r1 r2 : Int) (k : Nat) (W : World) (h1 : W.heap[g1]? = some (.cells #[.int .i64 0, .int .i64 30, .int .i64 30, .int .i64 2, .int .i64 32, .int .i64 2] 80 (0, 0)))
    (h2 : W.heap[g2]? = some (.cells #[.int .u64 a, .int .u64 b, .int .u64 c] 23 (0, 0))) (h : field_Pack.f k [⟨0, 30⟩, ⟨30, 2⟩, ⟨32, 2⟩] [a, b, c] = some (r1, r2)) :
    Calls Try.prog 46 #[.slice (some ⟨g1, 0, none⟩) 3 3, .slice (some ⟨g2, 0, none⟩) 3 3] W fun e w' => e = .returned (.tuple #[.int .u64 r1, .int .i64 r2]) ∧ Below W.heap.size W w' := by
  refine field_Pack.calls k (some ⟨g1, 0, none⟩) 3 [⟨0, 30⟩, ⟨30, 2⟩, ⟨32, 2⟩] (some ⟨g2, 0, none⟩) 3 [a, b, c] r1 r2 W (layC g1 W h1) (Nat.le_refl _) ?_ (Nat.le_refl _) h
  refine ⟨rfl, by simp, fun _ => ⟨_, rfl, fun j p hj => ⟨[.int .u64 p], rfl, rfl, fun i u hu => ?_⟩⟩⟩
  rw [add_plain]
  match j, i, hj, hu with
  | 0, 0, hj, hu | 1, 0, hj, hu | 2, 0, hj, hu =>
    simp at hj hu
    subst hj
    subst hu
    simp [World.cell?, h2, Kd.int, Kd.scalar]
  | j + 3, _, hj, _ => simp at hj
  | _, i + 1, _, hu => simp at hu
set_option maxHeartbeats 1000000 in
 theorem word_yes (g m t : Int) (r1 r2 : Int) (k : Nat) (w : World) (hf : state_State_Formed.f g m t = some true) (hp0 : field_Pack.f k [⟨0, 30⟩, ⟨30, 2⟩, ⟨32, 2⟩] [IntKind.u64.wrap g, IntKind.u64.wrap m, IntKind.u64.wrap t] = some (r1, r2)) :
    Calls Try.prog 28 #[.agg #[.int .i64 g, .int .i64 m, .int .i64 t]] w fun e w' => e = .returned (.int .u64 r1) ∧ Below w.heap.size w w' := by
  have Hf := Lib.hid hf
  have hp := Lib.hid hp0
  clear hf hp0
  go_enter Try.func28, Try.ntmps28
  go_wp2_with fail
  refine (state_State_Formed.calls g m t true _ Hf.out).mono ?_
  rintro e w1 ⟨rfl, hb⟩
  obtain ⟨hc, hz⟩ := bcell hb
  go_wp2_with fail
  refine (layout_any _).mono ?_
  rintro e w2 ⟨rfl, hb2⟩
  have hB : Below w.heap.size w w2 := below_trans2 (below_trans2 ((Below.refl _ _).alloc (Nat.le_refl _) _) hb (by simp)) hb2 (by have := hb.size; simp at this; omega)
  have hcell : ∀ o, w2.cell? ⟨w.heap.size, o, none⟩ = (w.alloc (.cells #[.int .i64 g, .int .i64 m, .int .i64 t] 44)).cell? ⟨w.heap.size, o, none⟩ := fun o => by
    have h1 := hb2.size
    have h2 := hb.size
    simp at h2
    rw [(bcell hb2).1 _ _ (by omega), hc _ _ (by simp)]
  have hsz : w.heap.size < w2.heap.size := by
    have h1 := hb2.size
    have h2 := hb.size
    simp at h2
    omega
  clear hc hz hb hb2
  go_wp2_with fail
  obtain ⟨w3, hw3⟩ : ∃ w3, w3 = w2.alloc (Obj.cells #[Value.int IntKind.i64 0, Value.int IntKind.i64 30, Value.int IntKind.i64 30, Value.int IntKind.i64 2, Value.int IntKind.i64 32, Value.int IntKind.i64 2] 80) := ⟨_, rfl⟩
  rw [← hw3]
  have hB3 : Below w.heap.size w w3 := by rw [hw3]; exact hB.alloc (by omega) _
  have hlay : w3.heap[w2.heap.size]? = some (.cells #[.int .i64 0, .int .i64 30, .int .i64 30, .int .i64 2, .int .i64 32, .int .i64 2] 80 (0, 0)) := by rw [hw3]; exact heap_alloc_new _ _
  have h0 : w3.cell? ⟨w.heap.size, 0, none⟩ = some (.int .i64 g) := by rw [hw3, World.cell?_alloc_lt _ _ _ hsz, hcell]; simp
  have h1 : w3.cell? ⟨w.heap.size, 1, none⟩ = some (.int .i64 m) := by rw [hw3, World.cell?_alloc_lt _ _ _ hsz, hcell]; simp
  have h2 : w3.cell? ⟨w.heap.size, 2, none⟩ = some (.int .i64 t) := by rw [hw3, World.cell?_alloc_lt _ _ _ hsz, hcell]; simp
  have h3 : w3.heap.size = w2.heap.size + 1 := by rw [hw3]; simp
  generalize w2.heap.size = gl at *
  clear hw3 hcell hB
  go_region_held3 (fun w' => w'.cell? ⟨w.heap.size, 0, none⟩ = some (.int .i64 g) ∧ w'.cell? ⟨w.heap.size, 1, none⟩ = some (.int .i64 m) ∧ w'.cell? ⟨w.heap.size, 2, none⟩ = some (.int .i64 t))
    (first | go_keep | (refine ⟨?_, ?_, ?_⟩ <;> (rw [hb5.cell (by simp; omega)]; go_keep))) (first | (go_at_call 46; refine (pack_any gl (gl + 1) _ _ _ r1 r2 k _ (by exact (Below.heap_alloc _ _ _ (by omega)).trans hlay) (by show (w3.alloc _).heap[_]? = _; rw [← h3]; exact heap_alloc_new _ _) hp.out).mono ?_; rintro e w5 ⟨rfl, hb5⟩))
  go_wp2
  go_ret
  exact ⟨rfl, below_trans2 (by exact (hB3.alloc (by omega) _).drew) hb5 (by simp; omega)⟩
set_option maxHeartbeats 1000000 in
 theorem word_no (g m t : Int) (w : World) (hf : state_State_Formed.f g m t = some false) :
    Calls Try.prog 28 #[.agg #[.int .i64 g, .int .i64 m, .int .i64 t]] w fun e w' => e = .returned (.int .u64 0) ∧ Below w.heap.size w w' := by
  have Hf := Lib.hid hf
  clear hf
  go_enter Try.func28, Try.ntmps28
  go_wp2_with fail
  refine (state_State_Formed.calls g m t false _ Hf.out).mono ?_
  rintro e w1 ⟨rfl, hb⟩
  go_wp2_with fail
  go_ret
  exact ⟨rfl, below_trans2 ((Below.refl _ _).alloc (Nat.le_refl _) _) hb (by simp)⟩
 theorem spack (g m t : Int) (h : StF g m t) : ∃ k, field_Pack.f k [⟨0, 30⟩, ⟨30, 2⟩, ⟨32, 2⟩] [IntKind.u64.wrap g, IntKind.u64.wrap m, IntKind.u64.wrap t] = some (stw g m t, 0) := by
  have h' := h
  unfold StF at h'
  obtain ⟨vs, hvs, hp⟩ := st_pack (g := g) (m := m) (t := t) (by omega)
  have e : ([IntKind.u64.wrap g, IntKind.u64.wrap m, IntKind.u64.wrap t] : List Int) = vs.map u := by
    rw [hvs, wrapu, wrapu, wrapu, Int.emod_eq_of_lt (by omega) (by omega), Int.emod_eq_of_lt (by omega) (by omega), Int.emod_eq_of_lt (by omega) (by omega)]
  have hpk := pack_f [⟨0, 30⟩, ⟨30, 2⟩, ⟨32, 2⟩] vs (by simp)
  have e2 : pr [⟨0, 30⟩, ⟨30, 2⟩, ⟨32, 2⟩] = stl := rfl
  rw [e2, hp] at hpk
  rw [e]
  have e3 : stw g m t = g + m * 1073741824 + t * 4294967296 := if_pos h
  rw [e3]
  exact hpk.rounds
end Giv
def state_State_Word.f (a0_0 : Int) (a0_1 : Int) (a0_2 : Int) : Option (Int) := some (Giv.stw a0_0 a0_1 a0_2)
theorem state_State_Word.calls (a0_0 : Int) (a0_1 : Int) (a0_2 : Int) (r : Int) (w : World) (h : state_State_Word.f a0_0 a0_1 a0_2 = some r) :
    Calls Try.prog 28 #[.agg #[.int .i64 a0_0, .int .i64 a0_1, .int .i64 a0_2]] w fun e w' => e = .returned (.int .u64 r) ∧ Below w.heap.size w w' := by
  obtain rfl := Option.some.inj h
  by_cases hf : Go.Proofs.Ytdmiingneodcbaa.FN.StF a0_0 a0_1 a0_2
  · obtain ⟨k, hk⟩ := Giv.spack a0_0 a0_1 a0_2 hf
    exact Giv.word_yes a0_0 a0_1 a0_2 _ 0 k w (by rw [Giv.sformed_eq, decide_eq_true hf]) hk
  · have e : Giv.stw a0_0 a0_1 a0_2 = 0 := if_neg hf
    rw [e]
    exact Giv.word_no a0_0 a0_1 a0_2 w (by rw [Giv.sformed_eq, decide_eq_false hf])

/-! ### cubiclelaw07_awake: function 23 -/
def cubiclelaw07_awake.f  : Option (Bool) := (state_State_Formed.f 5 1 0).bind fun t125 => (if t125 = true then ((state_State_Word.f 5 1 0).bind fun t126 => (some (t126 == 1073741829))) else (some false))
set_option maxHeartbeats 8000000 in
set_option maxRecDepth 100000 in
theorem cubiclelaw07_awake.calls  (r : Bool) (w : World) (h : cubiclelaw07_awake.f  = some r) :
    Calls Try.prog 23 #[] w fun e w' => e = .returned (.bool r) ∧ Below w.heap.size w w' := by
  have hu44 := Try.underlying44
  have HB := Aside0.mk (Below.refl w.heap.size w)
  have H : ((state_State_Formed.f 5 1 0).bind fun t125 => (if t125 = true then ((state_State_Word.f 5 1 0).bind fun t126 => (some (t126 == 1073741829))) else (some false))) = some r := h
  clear h
  replace H := Option.bind_eq_some_iff.mp H
  obtain ⟨t125, A10, H⟩ := H
  replace H : (if t125 = true then ((state_State_Word.f 5 1 0).bind fun t126 => (some (t126 == 1073741829))) else (some false)) = some r := H
  have A1 := Aside0.mk A10
  clear A10
  by_cases c2 : t125 = true
  · subst c2
    have H1 : ((state_State_Word.f 5 1 0).bind fun t126 => (some (t126 == 1073741829))) = some r := by rw [if_pos rfl] at H; exact H
    clear H
    have H := H1
    clear H1
    replace H := Option.bind_eq_some_iff.mp H
    obtain ⟨t126, A30, H⟩ := H
    replace H : (some (t126 == 1073741829)) = some r := H
    have A3 := Aside0.mk A30
    clear A30
    obtain rfl := Option.some.inj H
    go_enter Try.func23, Try.ntmps23
    go_wp2_with (first | ((with_reducible refine gate_dst (N := 1) rfl ?_); refine box_event ?hg (N := 1) ?hd (cs := #[.int .i64 0, .int .i64 0, .int .i64 0]) (t := 44) ?hr ?_; (case hd => rfl); (case hg => rfl); (case hr => first | (go_simp; done) | (go_simp; rfl)); intro gb124 hg w4 hbox hb; have n0_ := Aside0.mk (below_step (by repeat (first | (with_reducible first | exact HB.out | apply below_alloc | apply pw_below_drewN | apply below_drew1) | exact HB.out)) hb); have n1_ := Aside0.mk (hbox); have n2_ := Aside0.mk ((by rw [hg]; exact (below_size (by repeat (first | (with_reducible first | exact HB.out | apply below_alloc | apply pw_below_drewN | apply below_drew1) | exact HB.out))) : w.heap.size ≤ gb124)); have n3_ := Aside0.mk ((by rw [hg]; exact (below_size (by repeat (first | (with_reducible first | exact HB.out | apply below_alloc | apply pw_below_drewN | apply below_drew1) | exact HB.out))) : w.heap.size ≤ gb124)); clear HB; have HB := n0_; have BK124 := n1_; have GW124 := n2_; have GE124 := n3_; clear n0_ n1_ n2_ n3_; clear hb hbox hg; have hcz5_0 : w4.cell? ⟨gb124, 0, none⟩ = some (.int .i64 0) := (blk_cell BK124.out 0).trans rfl; have hcz5_1 : w4.cell? ⟨gb124, 1, none⟩ = some (.int .i64 0) := (blk_cell BK124.out 1).trans rfl; have hcz5_2 : w4.cell? ⟨gb124, 2, none⟩ = some (.int .i64 0) := (blk_cell BK124.out 2).trans rfl; have hfz5_0 := blk_frozen BK124.out 0; have hfz5_1 := blk_frozen BK124.out 1; have hfz5_2 := blk_frozen BK124.out 2) | ((with_reducible refine gate_callee (f := 26) rfl ?_); refine goesL_ (some 4) rfl rfl Try.func26 (by kernel_rfl) rfl #[.agg #[.int .i64 5, .int .i64 1, .int .i64 0]] rfl (by (try simp only [List.map_toArray, List.map_cons, List.map_nil]); first | done | rfl | (simp only [List.length_drop, List.length_take]; rfl)) ?_; (with_reducible refine (state_State_Formed.calls 5 1 0 true _ A1.out).mono ?_); rintro e w6 ⟨rfl, hb⟩; refine ⟨_, rfl, ?_⟩; have n0_ := Aside0.mk (blk_below (g := gb124) (o := .cells #[.int .i64 5, .int .i64 1, .int .i64 0] 44 (0, 0)) (by (with_reducible repeat (first | refine blk_drewN ?_ _ | refine blk_drew ?_ | refine blk_alloc ?_ _)); refine blk_put (cs := #[.int .i64 5, .int .i64 1, .int .i64 0]) ?_ 2 _ rfl; (with_reducible repeat (first | refine blk_drewN ?_ _ | refine blk_drew ?_ | refine blk_alloc ?_ _)); refine blk_put (cs := #[.int .i64 5, .int .i64 0, .int .i64 0]) ?_ 1 _ rfl; (with_reducible repeat (first | refine blk_drewN ?_ _ | refine blk_drew ?_ | refine blk_alloc ?_ _)); refine blk_put (cs := #[.int .i64 0, .int .i64 0, .int .i64 0]) ?_ 0 _ rfl; (with_reducible repeat (first | refine blk_drewN ?_ _ | refine blk_drew ?_ | refine blk_alloc ?_ _)); exact BK124.out) hb); have n1_ := Aside0.mk (below_step (by repeat (first | (with_reducible first | exact HB.out | apply below_alloc | apply pw_below_drewN | apply below_drew1 | refine below_set ?_ GE124.out) | exact HB.out)) hb); clear BK124; clear HB; have BK124 := n0_; have HB := n1_; clear n0_ n1_; (try clear hb); (try clear hb2); (try clear hk); (try clear hi); have hcz7_0 : w6.cell? ⟨gb124, 0, none⟩ = some (.int .i64 5) := (blk_cell BK124.out 0).trans rfl; have hcz7_1 : w6.cell? ⟨gb124, 1, none⟩ = some (.int .i64 1) := (blk_cell BK124.out 1).trans rfl; have hcz7_2 : w6.cell? ⟨gb124, 2, none⟩ = some (.int .i64 0) := (blk_cell BK124.out 2).trans rfl; have hfz7_0 := blk_frozen BK124.out 0; have hfz7_1 := blk_frozen BK124.out 1; have hfz7_2 := blk_frozen BK124.out 2) | (go_at_call 28; (with_reducible refine (state_State_Word.calls 5 1 0 t126 _ A3.out).mono ?_); rintro e w8 ⟨rfl, hb⟩; have n0_ := Aside0.mk (blk_below (g := gb124) (o := .cells #[.int .i64 5, .int .i64 1, .int .i64 0] 44 (0, 0)) (by (with_reducible repeat (first | refine blk_drewN ?_ _ | refine blk_drew ?_ | refine blk_alloc ?_ _)); exact BK124.out) hb); have n1_ := Aside0.mk (below_step (by repeat (first | (with_reducible first | exact HB.out | apply below_alloc | apply pw_below_drewN | apply below_drew1 | refine below_set ?_ GE124.out) | exact HB.out)) hb); clear BK124; clear HB; have BK124 := n0_; have HB := n1_; clear n0_ n1_; (try clear hb); (try clear hb2); (try clear hk); (try clear hi)))
    go_ret
    exact ⟨by first | rfl | (simp [errW_none, errW_some] <;> rfl) | (simp [*, errW_none, errW_some] <;> rfl), by repeat (first | (with_reducible first | exact HB.out | apply below_alloc | apply pw_below_drewN | apply below_drew1 | refine below_set ?_ GE124.out) | exact HB.out)⟩
  · replace c2 := Bool.eq_false_iff.mpr c2
    subst c2
    have H1 : (some false) = some r := by rw [if_neg (show ¬ (false = true) by decide)] at H; exact H
    clear H
    have H := H1
    clear H1
    obtain rfl := Option.some.inj H
    go_enter Try.func23, Try.ntmps23
    go_wp2_with (first | ((with_reducible refine gate_dst (N := 1) rfl ?_); refine box_event ?hg (N := 1) ?hd (cs := #[.int .i64 0, .int .i64 0, .int .i64 0]) (t := 44) ?hr ?_; (case hd => rfl); (case hg => rfl); (case hr => first | (go_simp; done) | (go_simp; rfl)); intro gb124 hg w9 hbox hb; have n0_ := Aside0.mk (below_step (by repeat (first | (with_reducible first | exact HB.out | apply below_alloc | apply pw_below_drewN | apply below_drew1) | exact HB.out)) hb); have n1_ := Aside0.mk (hbox); have n2_ := Aside0.mk ((by rw [hg]; exact (below_size (by repeat (first | (with_reducible first | exact HB.out | apply below_alloc | apply pw_below_drewN | apply below_drew1) | exact HB.out))) : w.heap.size ≤ gb124)); have n3_ := Aside0.mk ((by rw [hg]; exact (below_size (by repeat (first | (with_reducible first | exact HB.out | apply below_alloc | apply pw_below_drewN | apply below_drew1) | exact HB.out))) : w.heap.size ≤ gb124)); clear HB; have HB := n0_; have BK124 := n1_; have GW124 := n2_; have GE124 := n3_; clear n0_ n1_ n2_ n3_; clear hb hbox hg; have hcz10_0 : w9.cell? ⟨gb124, 0, none⟩ = some (.int .i64 0) := (blk_cell BK124.out 0).trans rfl; have hcz10_1 : w9.cell? ⟨gb124, 1, none⟩ = some (.int .i64 0) := (blk_cell BK124.out 1).trans rfl; have hcz10_2 : w9.cell? ⟨gb124, 2, none⟩ = some (.int .i64 0) := (blk_cell BK124.out 2).trans rfl; have hfz10_0 := blk_frozen BK124.out 0; have hfz10_1 := blk_frozen BK124.out 1; have hfz10_2 := blk_frozen BK124.out 2) | ((with_reducible refine gate_callee (f := 26) rfl ?_); refine goesL_ (some 4) rfl rfl Try.func26 (by kernel_rfl) rfl #[.agg #[.int .i64 5, .int .i64 1, .int .i64 0]] rfl (by (try simp only [List.map_toArray, List.map_cons, List.map_nil]); first | done | rfl | (simp only [List.length_drop, List.length_take]; rfl)) ?_; (with_reducible refine (state_State_Formed.calls 5 1 0 false _ A1.out).mono ?_); rintro e w11 ⟨rfl, hb⟩; refine ⟨_, rfl, ?_⟩; have n0_ := Aside0.mk (blk_below (g := gb124) (o := .cells #[.int .i64 5, .int .i64 1, .int .i64 0] 44 (0, 0)) (by (with_reducible repeat (first | refine blk_drewN ?_ _ | refine blk_drew ?_ | refine blk_alloc ?_ _)); refine blk_put (cs := #[.int .i64 5, .int .i64 1, .int .i64 0]) ?_ 2 _ rfl; (with_reducible repeat (first | refine blk_drewN ?_ _ | refine blk_drew ?_ | refine blk_alloc ?_ _)); refine blk_put (cs := #[.int .i64 5, .int .i64 0, .int .i64 0]) ?_ 1 _ rfl; (with_reducible repeat (first | refine blk_drewN ?_ _ | refine blk_drew ?_ | refine blk_alloc ?_ _)); refine blk_put (cs := #[.int .i64 0, .int .i64 0, .int .i64 0]) ?_ 0 _ rfl; (with_reducible repeat (first | refine blk_drewN ?_ _ | refine blk_drew ?_ | refine blk_alloc ?_ _)); exact BK124.out) hb); have n1_ := Aside0.mk (below_step (by repeat (first | (with_reducible first | exact HB.out | apply below_alloc | apply pw_below_drewN | apply below_drew1 | refine below_set ?_ GE124.out) | exact HB.out)) hb); clear BK124; clear HB; have BK124 := n0_; have HB := n1_; clear n0_ n1_; (try clear hb); (try clear hb2); (try clear hk); (try clear hi)))
    go_ret
    exact ⟨by first | rfl | (simp [errW_none, errW_some] <;> rfl) | (simp [*, errW_none, errW_some] <;> rfl), by repeat (first | (with_reducible first | exact HB.out | apply below_alloc | apply pw_below_drewN | apply below_drew1 | refine below_set ?_ GE124.out) | exact HB.out)⟩

end Go.Proofs.Ytdmiingneodcbaa.PStateBack
