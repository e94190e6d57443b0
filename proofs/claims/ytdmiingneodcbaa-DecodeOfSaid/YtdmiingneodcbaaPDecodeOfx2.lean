-- Laid by a program of this session, which builds on the kit's print: it takes some functions' texts as they are given to it.
import Derived.Test.YtdmiingneodcbaaPDecodeOfx0
namespace Go.Proofs.Ytdmiingneodcbaa.PDecodeOf
open Go.RowKit Go.Proofs.YtdmiingneodcbaaW.PrintWords Go.Proofs.YtdmiingneodcbaaW.PrintLast Go.Proofs.YtdmiingneodcbaaW.PrintMore
attribute [local go_sem] max2_int min2_int max_two min_two max_three min_three max_four min_four   -- for this text's walks alone
set_option linter.unusedVariables false
set_option linter.unusedSimpArgs false

/-! ### decode_known: function 37 -/
def decode_known.f (a0 : Int) : Option (Bool) := if a0 ≥ 1 then (some (decide (a0 ≤ 12))) else (some false)
set_option maxHeartbeats 8000000 in
set_option maxRecDepth 100000 in
theorem decode_known.calls (a0 : Int) (r : Bool) (w : World) (h : decode_known.f a0 = some r) :
    Calls Try.prog 37 #[.int .i64 a0] w fun e w' => e = .returned (.bool r) ∧ Drawn0 w w' := by
  have H : (if a0 ≥ 1 then (some (decide (a0 ≤ 12))) else (some false)) = some r := h
  clear h
  by_cases c2 : a0 ≥ 1
  · rw [if_pos c2] at H
    have c2b0 : decide (1 ≤ a0) = true := decide_eq_true c2
    clear c2
    obtain rfl := Option.some.inj H
    go_enter Try.func37, Try.ntmps37
    go_wp2
    go_ret
    exact ⟨by first | rfl | (simp; done) | (simp [*]; done), by repeat (first | exact Drawn0.refl _ | apply Drawn0.step)⟩
  · rw [if_neg c2] at H
    have c2b0 : decide (1 ≤ a0) = false := decide_eq_false c2
    clear c2
    obtain rfl := Option.some.inj H
    go_enter Try.func37, Try.ntmps37
    go_wp2
    go_ret
    exact ⟨by first | rfl | (simp; done) | (simp [*]; done), by repeat (first | exact Drawn0.refl _ | apply Drawn0.step)⟩

-- NOT PRINTED: function 38 (decode_table)

/-! ### decode_Formed: function 35 -/
-- needs decode_known.f
namespace Giv
 theorem bcell {W w1 : World} (hb : Below W.heap.size W w1) : (∀ b o, b < W.heap.size → w1.cell? ⟨b, o, none⟩ = W.cell? ⟨b, o, none⟩) ∧ (∀ b o, b < W.heap.size → w1.frozen? ⟨b, o, none⟩ = W.frozen? ⟨b, o, none⟩) :=
  ⟨fun b o h => hb.cell (p := ⟨b, o, none⟩) h, fun b o h => hb.frozen (p := ⟨b, o, none⟩) h⟩
 theorem below_trans2 {w w1 w2 : World} {B : Nat} (h : Below B w w1) (h2 : Below w1.heap.size w1 w2) (hB : B ≤ w1.heap.size) : Below B w w2 := h.trans (h2.mono hB)
 def askh (c : Int) : Bool := decide (2 ≤ c ∧ c ≤ 5)
 def askd (c : Int) : Bool := decide (c = 7 ∨ c = 8 ∨ 10 ≤ c)
 def askf (c : Int) : Bool := decide (3 ≤ c ∧ c ≤ 5)
 def aska (c : Int) : Bool := decide (c = 4 ∨ c = 5 ∨ c = 7 ∨ 10 ≤ c)
 def askb (c : Int) : Bool := decide (c = 5 ∨ c = 10)
 def tab : Array Value := #[.bool false, .bool false, .bool false, .bool false, .bool false,
  .bool false, .bool false, .bool false, .bool false, .bool false,
  .bool true, .bool false, .bool false, .bool false, .bool false,
  .bool true, .bool false, .bool true, .bool false, .bool false,
  .bool true, .bool false, .bool true, .bool true, .bool false,
  .bool true, .bool false, .bool true, .bool true, .bool true,
  .bool false, .bool false, .bool false, .bool false, .bool false,
  .bool false, .bool true, .bool false, .bool true, .bool false,
  .bool false, .bool true, .bool false, .bool false, .bool false,
  .bool false, .bool false, .bool false, .bool false, .bool false,
  .bool false, .bool true, .bool false, .bool true, .bool true,
  .bool false, .bool true, .bool false, .bool true, .bool false,
  .bool false, .bool true, .bool false, .bool true, .bool false]
 def zer : Array Value := #[.bool false, .bool false, .bool false, .bool false, .bool false, .bool false, .bool false, .bool false, .bool false, .bool false, .bool false, .bool false, .bool false, .bool false, .bool false, .bool false, .bool false, .bool false, .bool false, .bool false, .bool false, .bool false, .bool false, .bool false, .bool false, .bool false, .bool false, .bool false, .bool false, .bool false, .bool false, .bool false, .bool false, .bool false, .bool false, .bool false, .bool false, .bool false, .bool false, .bool false, .bool false, .bool false, .bool false, .bool false, .bool false, .bool false, .bool false, .bool false, .bool false, .bool false, .bool false, .bool false, .bool false, .bool false, .bool false, .bool false, .bool false, .bool false, .bool false, .bool false, .bool false, .bool false, .bool false, .bool false, .bool false]
 theorem wpList_val {P : Program} {ops : Array Oper} {Q : Exit → Act → World → Prop} {a : Act} {w w' : World} {rest : List Oper} {o : Oper} {v : Value} (hg : o.guard = none) (hr : (execOp a.eval o).run P w = .ok (.value v) w')
    (h : wpList P ops Q rest (a.put o.dst v) w') : wpList P ops Q (o :: rest) a w := wpList_plain hg fun K hK => by unfold Oper.wp; rw [hr]; exact hK _ _ h
 theorem wpList_pure {P : Program} {ops : Array Oper} {Q : Exit → Act → World → Prop} {a : Act} {w : World} {rest : List Oper} {o : Oper} {v : Value} (hg : o.guard = none) (hr : (execOp a.eval o).run P w = .ok (.value v) w)
    (h : wpList P ops Q rest (a.put o.dst v) w) : wpList P ops Q (o :: rest) a w := wpList_plain hg fun K hK => by unfold Oper.wp; rw [hr]; exact hK _ _ h
 theorem wpList_unit {P : Program} {ops : Array Oper} {Q : Exit → Act → World → Prop} {a : Act} {w w' : World} {rest : List Oper} {o : Oper} (hg : o.guard = none) (hr : (execOp a.eval o).run P w = .ok .skip w')
    (h : wpList P ops Q rest (a.put o.dst undef) w') : wpList P ops Q (o :: rest) a w := wpList_plain hg fun K hK => by unfold Oper.wp; rw [hr]; exact hK _ _ h
 theorem store_tab {o : Oper} (w : World) (a : Act) (ho : o.op = .store 64 (.tmp 0) (.tmp 13)) (ha : (a.eval (.tmp 0), a.eval (.tmp 13)) = (.pointer (some ⟨w.heap.size, 0, none⟩), .agg tab)) :
    (execOp a.eval o).run Try.prog (w.alloc (.cells zer 64)) = .ok .skip (w.alloc (.cells tab 64)) := by
  simp only [Prod.mk.injEq] at ha
  have h := run_storeAt_new (P := Try.prog) w 64 zer tab (by kernel_rfl) rfl (by kernel_rfl)
  unfold execOp
  rw [ho]
  simp only [ha.1, ha.2]
  simp only [Sem.run_bind, h, Result.andThen, Sem.run_pure]
 theorem results_cell1 {P : Program} {fn : Func} {tmps : Array Value} {w : World} {a : Tmp} {t : TypeId} {A : Addr} {v : Value} (hr : fn.results = #[.cell a t]) (ha : tmps.getD a undef = .pointer (some A)) (hl : (loadVar t A).run P w = .ok v w) :
    (results fn tmps).run P w = .ok v w := by
  unfold results
  rw [hr]
  simp only [List.mapM_toArray, List.mapM_cons, List.mapM_nil, ha, asAddr]
  simp [hl, Sem.run_bind, Result.andThen, Sem.run_pure]
set_option maxRecDepth 10000 in
set_option maxHeartbeats 2000000 in
 theorem table_any (w : World) : Calls Try.prog 38 #[] w fun e w' => e = .returned (.agg tab) ∧ Below w.heap.size w w' := by
  go_enter Try.func38, Try.ntmps38
  go_wp2_with (first | ((with_reducible refine wpList_val (o := ⟨some 0, _, _, _, _, _⟩) (v := .pointer (some ⟨w.heap.size, 0, none⟩)) (w' := w.alloc (.cells zer 64)) rfl ?_ ?_); (focus kernel_rfl)) | ((with_reducible refine wpList_pure (o := ⟨some 13, _, _, _, _, _⟩) (v := .agg tab) rfl ?_ ?_); (focus kernel_rfl)) | ((with_reducible refine wpList_unit (o := ⟨none, _, _, _, _, _⟩) (w' := w.alloc (.cells tab 64)) rfl ?_ ?_); (focus (exact store_tab w _ rfl rfl))))
  exact bodyPost_ret (v := .agg tab) (results_cell1 Try.results38 rfl (run_loadVar_new (P := Try.prog) w 64 tab 13 63 Try.underlying64 (by kernel_rfl))) rfl ⟨rfl, (Below.refl _ _).alloc (Nat.le_refl _) _⟩
 /-- What is an operation. -/
 def OpF (c d f h a b : Int) : Prop := (1 ≤ c ∧ c ≤ 12 ∧ 0 ≤ d ∧ d ≤ 255 ∧ 0 ≤ f ∧ f ≤ 2) ∧ (askh c = true ∨ h = 0) ∧ (askd c = true ∨ d = 0) ∧ (askf c = true ∨ f = 0) ∧ (aska c = true ∨ a = 0) ∧ (askb c = true ∨ b = 0)
 instance (c d f h a b : Int) : Decidable (OpF c d f h a b) := by unfold OpF; infer_instance
 theorem drawn_below {B : Nat} {w w1 w2 : World} (h : Below B w w1) (h2 : Drawn0 w1 w2) : Below B w w2 := by
  obtain ⟨n, rfl⟩ := h2.out
  exact pw_below_drewN h n
set_option maxHeartbeats 1000000 in
 theorem formed_bad0 (c d f h a b : Int) (w : World) (hk0 : decode_known.f c = some false) :
    Calls Try.prog 35 #[.agg #[.int .i64 c, .int .i64 d, .int .i64 f, .int .u64 h, .int .u64 a, .int .u64 b]] w fun e w' => e = .returned (.bool false) ∧ Below w.heap.size w w' := by
  have hk := Lib.hid hk0
  clear hk0
  go_enter Try.func35, Try.ntmps35
  go_wp2_with fail
  refine (decode_known.calls c false _ hk.out).mono ?_
  rintro e w1 ⟨rfl, hd⟩
  have hB := drawn_below ((Below.refl w.heap.size w).alloc (Nat.le_refl _) _) hd
  clear hd
  go_wp2_with fail
  go_ret
  exact ⟨rfl, hB⟩
set_option maxHeartbeats 1000000 in
 theorem formed_bad1 (c d f h a b : Int) (w : World) (hk0 : decode_known.f c = some true) (hbad : d < 0 ∨ 255 < d ∨ f < 0 ∨ 2 < f) :
    Calls Try.prog 35 #[.agg #[.int .i64 c, .int .i64 d, .int .i64 f, .int .u64 h, .int .u64 a, .int .u64 b]] w fun e w' => e = .returned (.bool false) ∧ Below w.heap.size w w' := by
  have hk := Lib.hid hk0
  clear hk0
  go_enter Try.func35, Try.ntmps35
  go_wp2_with fail
  refine (decode_known.calls c true _ hk.out).mono ?_
  rintro e w1 ⟨rfl, hd⟩
  have hB := drawn_below ((Below.refl w.heap.size w).alloc (Nat.le_refl _) _) hd
  obtain ⟨n, rfl⟩ := hd.out
  clear hd
  go_wp2_with fail
  all_goals first | (exfalso; omega) | skip
  all_goals
    go_ret
    exact ⟨rfl, hB⟩
 theorem index_tab (c : Int) (h1 : 1 ≤ c) (h2 : c ≤ 12) (W : World) : (Instr.index 64 (.agg tab) (.int .i64 c)).run Try.prog W = .ok (.agg #[.bool (askh c), .bool (askd c), .bool (askf c), .bool (aska c), .bool (askb c)]) W := by
  have : c = 1 ∨ c = 2 ∨ c = 3 ∨ c = 4 ∨ c = 5 ∨ c = 6 ∨ c = 7 ∨ c = 8 ∨ c = 9 ∨ c = 10 ∨ c = 11 ∨ c = 12 := by omega
  rcases this with rfl | rfl | rfl | rfl | rfl | rfl | rfl | rfl | rfl | rfl | rfl | rfl <;> rfl
 theorem set5_old {w5 : World} {g : Nat} {A : Addr} {v a0 a1 a2 a3 a4 : Value} (hne : g ≠ A.block) (h : w5.cell? A = some v) : (((((w5.setCell ⟨g, 0, none⟩ a0).setCell ⟨g, 1, none⟩ a1).setCell ⟨g, 2, none⟩ a2).setCell ⟨g, 3, none⟩ a3).setCell ⟨g, 4, none⟩ a4).cell? A = some v := by
  rw [World.cell?_setCell_far _ _ _ _ hne, World.cell?_setCell_far _ _ _ _ hne, World.cell?_setCell_far _ _ _ _ hne, World.cell?_setCell_far _ _ _ _ hne, World.cell?_setCell_far _ _ _ _ hne]
  exact h
 theorem set5_new {w5 : World} {g : Nat} {a0 a1 a2 a3 a4 : Value} (h : ∀ i, i < 5 → ∃ v, w5.cell? ⟨g, i, none⟩ = some v) :
    (((((w5.setCell ⟨g, 0, none⟩ a0).setCell ⟨g, 1, none⟩ a1).setCell ⟨g, 2, none⟩ a2).setCell ⟨g, 3, none⟩ a3).setCell ⟨g, 4, none⟩ a4).cell? ⟨g, 0, none⟩ = some a0 ∧ (((((w5.setCell ⟨g, 0, none⟩ a0).setCell ⟨g, 1, none⟩ a1).setCell ⟨g, 2, none⟩ a2).setCell ⟨g, 3, none⟩ a3).setCell ⟨g, 4, none⟩ a4).cell? ⟨g, 1, none⟩ = some a1 ∧ (((((w5.setCell ⟨g, 0, none⟩ a0).setCell ⟨g, 1, none⟩ a1).setCell ⟨g, 2, none⟩ a2).setCell ⟨g, 3, none⟩ a3).setCell ⟨g, 4, none⟩ a4).cell? ⟨g, 2, none⟩ = some a2 ∧ (((((w5.setCell ⟨g, 0, none⟩ a0).setCell ⟨g, 1, none⟩ a1).setCell ⟨g, 2, none⟩ a2).setCell ⟨g, 3, none⟩ a3).setCell ⟨g, 4, none⟩ a4).cell? ⟨g, 3, none⟩ = some a3 ∧ (((((w5.setCell ⟨g, 0, none⟩ a0).setCell ⟨g, 1, none⟩ a1).setCell ⟨g, 2, none⟩ a2).setCell ⟨g, 3, none⟩ a3).setCell ⟨g, 4, none⟩ a4).cell? ⟨g, 4, none⟩ = some a4 := by
  obtain ⟨v0, h0⟩ := h 0 (by omega)
  obtain ⟨v1, h1⟩ := h 1 (by omega)
  obtain ⟨v2, h2⟩ := h 2 (by omega)
  obtain ⟨v3, h3⟩ := h 3 (by omega)
  obtain ⟨v4, h4⟩ := h 4 (by omega)
  refine ⟨?_, ?_, ?_, ?_, ?_⟩ <;> go_simp
set_option maxHeartbeats 4000000 in
 theorem formed_good (c d f h a b : Int) (xh xd xf xa xb : Bool) (w : World) (hk0 : decode_known.f c = some true) (hc1 : 1 ≤ c) (hc2 : c ≤ 12) (hd0 : 0 ≤ d) (hd1 : d ≤ 255) (hf0 : 0 ≤ f) (hf1 : f ≤ 2)
    (hidx : ∀ W, (Instr.index 64 (.agg tab) (.int .i64 c)).run Try.prog W = .ok (.agg #[.bool xh, .bool xd, .bool xf, .bool xa, .bool xb]) W) :
    Calls Try.prog 35 #[.agg #[.int .i64 c, .int .i64 d, .int .i64 f, .int .u64 h, .int .u64 a, .int .u64 b]] w fun e w' => e = .returned (.bool (decide (xh = true ∨ h = 0) && decide (xd = true ∨ d = 0) && decide (xf = true ∨ f = 0) && decide (xa = true ∨ a = 0) && decide (xb = true ∨ b = 0))) ∧ Below w.heap.size w w' := by
  have hk := Lib.hid hk0
  clear hk0
  go_enter Try.func35, Try.ntmps35
  go_wp2_with fail
  refine (decode_known.calls c true _ hk.out).mono ?_
  rintro e w1 ⟨rfl, hd⟩
  have hB := drawn_below ((Below.refl w.heap.size w).alloc (Nat.le_refl _) _) hd
  obtain ⟨n, rfl⟩ := hd.out
  clear hd
  go_upto_region 3 with (fail)
  go_cut [3] (fun s3 wx => ∃ g : Nat, s3 = .pointer (some ⟨g, 0, none⟩) ∧ Below w.heap.size w wx ∧ (wx.cell? ⟨w.heap.size, 0, none⟩ = some (.int .i64 c) ∧ wx.cell? ⟨w.heap.size, 1, none⟩ = some (.int .i64 d) ∧ wx.cell? ⟨w.heap.size, 2, none⟩ = some (.int .i64 f) ∧ wx.cell? ⟨w.heap.size, 3, none⟩ = some (.int .u64 h) ∧ wx.cell? ⟨w.heap.size, 4, none⟩ = some (.int .u64 a) ∧ wx.cell? ⟨w.heap.size, 5, none⟩ = some (.int .u64 b)) ∧
      (wx.cell? ⟨g, 0, none⟩ = some (.bool xh) ∧ wx.cell? ⟨g, 1, none⟩ = some (.bool xd) ∧ wx.cell? ⟨g, 2, none⟩ = some (.bool xf) ∧ wx.cell? ⟨g, 3, none⟩ = some (.bool xa) ∧ wx.cell? ⟨g, 4, none⟩ = some (.bool xb)))
  case first =>
    go_region_held3 (fun w' => w'.cell? ⟨w.heap.size, 0, none⟩ = some (.int .i64 c))
      (first | go_keep | exact E0) (first | (go_at_call 38; refine (table_any _).mono ?_; rintro e w5 ⟨rfl, hb5⟩; have hs5 : w.heap.size < w5.heap.size := (by have := hb5.size; simp at this; omega); have hB5 : Below w.heap.size w w5 := below_trans2 (by first | exact hB.drew | exact (hB.alloc (by simp; try omega) _).drew) hb5 (by simp; try omega); have E0 : w5.cell? ⟨w.heap.size, 0, none⟩ = some (.int .i64 c) := (by rw [hb5.cell (by simp; try omega)]; go_keep); have E1 : w5.cell? ⟨w.heap.size, 1, none⟩ = some (.int .i64 d) := (by rw [hb5.cell (by simp; try omega)]; go_keep); have E2 : w5.cell? ⟨w.heap.size, 2, none⟩ = some (.int .i64 f) := (by rw [hb5.cell (by simp; try omega)]; go_keep); have E3 : w5.cell? ⟨w.heap.size, 3, none⟩ = some (.int .u64 h) := (by rw [hb5.cell (by simp; try omega)]; go_keep); have E4 : w5.cell? ⟨w.heap.size, 4, none⟩ = some (.int .u64 a) := (by rw [hb5.cell (by simp; try omega)]; go_keep); have E5 : w5.cell? ⟨w.heap.size, 5, none⟩ = some (.int .u64 b) := (by rw [hb5.cell (by simp; try omega)]; go_keep); obtain ⟨hc5, hz5⟩ := bcell hb5; have ne1 : ¬ w5.heap.size = w.heap.size := (by omega); have ne2 : ¬ w.heap.size = w5.heap.size := (by omega)))
    all_goals (go_wp2_with fail; go_meet)
    all_goals first
      | exact ⟨w5.heap.size, rfl, hB5.alloc (by omega) _, ⟨(World.cell?_alloc_lt _ _ _ hs5).trans E0, (World.cell?_alloc_lt _ _ _ hs5).trans E1, (World.cell?_alloc_lt _ _ _ hs5).trans E2, (World.cell?_alloc_lt _ _ _ hs5).trans E3, (World.cell?_alloc_lt _ _ _ hs5).trans E4, (World.cell?_alloc_lt _ _ _ hs5).trans E5⟩, by simp [World.cell?_alloc_new], by simp [World.cell?_alloc_new], by simp [World.cell?_alloc_new], by simp [World.cell?_alloc_new], by simp [World.cell?_alloc_new]⟩
      | (have Y : ∀ i, i < 5 → ∃ v, w5.cell? ⟨w.heap.size + 1, i, none⟩ = some v := fun i hi => by
          rw [hc5 _ _ (by simp)]
          match i, hi with
          | 0, _ | 1, _ | 2, _ | 3, _ | 4, _ => exact ⟨.bool false, by go_simp⟩
         exact ⟨w.heap.size + 1, rfl, ((((hB5.setCell (by simp) _).setCell (by simp) _).setCell (by simp) _).setCell (by simp) _).setCell (by simp) _, ⟨set5_old (by simp) E0, set5_old (by simp) E1, set5_old (by simp) E2, set5_old (by simp) E3, set5_old (by simp) E4, set5_old (by simp) E5⟩, set5_new Y⟩)
  case rest =>
    obtain ⟨g, rfl, hBx, ⟨o0, o1, o2, o3, o4, o5⟩, x0, x1, x2, x3, x4⟩ := hcut
    clear hidx hk hB hd0 hd1 hf0 hf1 hc1 hc2
    go_wp2
    all_goals
      go_ret
      refine ⟨?_, hBx⟩
      clear hBx o0 o1 o2 o3 o4 o5 x0 x1 x2 x3 x4
      simp_all
      try rfl
end Giv
def decode_Formed.f (a0_0 : Int) (a0_1 : Int) (a0_2 : Int) (a0_3 : Int) (a0_4 : Int) (a0_5 : Int) : Option (Bool) := some (decide (Giv.OpF a0_0 a0_1 a0_2 a0_3 a0_4 a0_5))
theorem decode_Formed.calls (a0_0 : Int) (a0_1 : Int) (a0_2 : Int) (a0_3 : Int) (a0_4 : Int) (a0_5 : Int) (r : Bool) (w : World) (h : decode_Formed.f a0_0 a0_1 a0_2 a0_3 a0_4 a0_5 = some r) :
    Calls Try.prog 35 #[.agg #[.int .i64 a0_0, .int .i64 a0_1, .int .i64 a0_2, .int .u64 a0_3, .int .u64 a0_4, .int .u64 a0_5]] w fun e w' => e = .returned (.bool r) ∧ Below w.heap.size w w' := by
  obtain rfl := Option.some.inj h
  by_cases hc : 1 ≤ a0_0 ∧ a0_0 ≤ 12
  · have hk : decode_known.f a0_0 = some true := by
      unfold decode_known.f
      rw [if_pos hc.1, decide_eq_true hc.2]
    by_cases hr : 0 ≤ a0_1 ∧ a0_1 ≤ 255 ∧ 0 ≤ a0_2 ∧ a0_2 ≤ 2
    · refine (Giv.formed_good a0_0 a0_1 a0_2 a0_3 a0_4 a0_5 _ _ _ _ _ w hk hc.1 hc.2 hr.1 hr.2.1 hr.2.2.1 hr.2.2.2 (Giv.index_tab a0_0 hc.1 hc.2)).mono ?_
      rintro e w' ⟨rfl, hb⟩
      refine ⟨?_, hb⟩
      congr 2
      rw [Bool.eq_iff_iff]
      simp only [Bool.and_eq_true, decide_eq_true_eq]
      unfold Giv.OpF
      constructor
      · rintro ⟨⟨⟨⟨h1, h2⟩, h3⟩, h4⟩, h5⟩
        exact ⟨⟨hc.1, hc.2, hr⟩, h1, h2, h3, h4, h5⟩
      · rintro ⟨_, h1, h2, h3, h4, h5⟩
        exact ⟨⟨⟨⟨h1, h2⟩, h3⟩, h4⟩, h5⟩
    · have e : decide (Giv.OpF a0_0 a0_1 a0_2 a0_3 a0_4 a0_5) = false := decide_eq_false (fun x => hr ⟨x.1.2.2.1, x.1.2.2.2.1, x.1.2.2.2.2.1, x.1.2.2.2.2.2⟩)
      rw [e]
      exact Giv.formed_bad1 a0_0 a0_1 a0_2 a0_3 a0_4 a0_5 w hk (by omega)
  · have hk : decode_known.f a0_0 = some false := by
      unfold decode_known.f
      by_cases h1 : a0_0 ≥ 1
      · rw [if_pos h1, decide_eq_false (by omega)]
      · rw [if_neg h1]
    have e : decide (Giv.OpF a0_0 a0_1 a0_2 a0_3 a0_4 a0_5) = false := decide_eq_false (fun x => hc ⟨x.1.1, x.1.2.1⟩)
    rw [e]
    exact Giv.formed_bad0 a0_0 a0_1 a0_2 a0_3 a0_4 a0_5 w hk

/-! ### decode_word: function 43 -/
def decode_word.l0 : Nat → List Int → Int → Bool → Int → Option (List Int)
  | 0, _, _, _, _ => none
  | k + 1, x0, x1, x2, x7 => if x7 < 8 then (if x2 = true then (if 0 ≤ (wrap64 (8 * x7)) then (if x0.length < 140737488355328 then (decode_word.l0 k (x0 ++ [(shr .u64 x1 (wrap64 (8 * x7))) % 256]) x1 x2 (wrap64 (x7 + 1))) else (none)) else (none)) else (some x0)) else (some x0)
def decode_word.f (k : Nat) (l0 : List Int) (a1 : Int) (a2 : Bool) : Option (List Int) := decode_word.l0 k l0 a1 a2 0
theorem decode_word.mono_l : ∀ k, (∀ y0 y1 y2 y3, LeO (decode_word.l0 k y0 y1 y2 y3) (decode_word.l0 (k + 1) y0 y1 y2 y3))
  | 0 => fun _ _ _ _ r h => by simp [decode_word.l0] at h
  | k + 1 => by
    have ih0 := decode_word.mono_l k
    · intro y0 y1 y2 y3
      unfold decode_word.l0
      repeat' first
      | (with_reducible exact ih0 _ _ _ _)
      | (with_reducible exact LeO.refl _)
      | (with_reducible exact LeO.none _)
      | (with_reducible refine LeO.ite ?_ ?_)
      | (with_reducible refine LeO.bind ?_ (fun _ => ?_))
      | exact ih0 _ _ _ _
      | exact LeO.none _
      | refine LeO.ite ?_ ?_
      | refine LeO.bind ?_ (fun _ => ?_)
theorem decode_word.mono : ∀ a0 a1 a2 k, LeO (decode_word.f k a0 a1 a2) (decode_word.f (k + 1) a0 a1 a2) := by
  intro a0 a1 a2 k
  have ih0 := decode_word.mono_l k
  unfold decode_word.f
  repeat' first
      | (with_reducible exact ih0 _ _ _ _)
      | (with_reducible exact LeO.refl _)
      | (with_reducible exact LeO.none _)
      | (with_reducible refine LeO.ite ?_ ?_)
      | (with_reducible refine LeO.bind ?_ (fun _ => ?_))
      | exact ih0 _ _ _ _
      | exact LeO.none _
      | refine LeO.ite ?_ ?_
      | refine LeO.bind ?_ (fun _ => ?_)
set_option maxHeartbeats 8000000 in
set_option maxRecDepth 100000 in
theorem decode_word.calls (k : Nat) (P0_ : Nat → Prop) (u9000_ : Value) (l0 : List Int) (a1 : Int) (a2 : Bool) (r : List Int) (w0 w : World) (hB : Below w0.heap.size w0 w) (ho0 : Kd.R (Kd.int .u8) 5 w w0.heap.size P0_ u9000_ l0) (h : decode_word.f k l0 a1 a2 = some r) :
    Calls Try.prog 43 #[u9000_, .int .u64 a1, .bool a2] w fun e w' => ∃ v0_ : Value, e = .returned (v0_) ∧ Kd.R (Kd.int .u8) 5 w' w0.heap.size (fun k_ => (P0_ k_ ∨ w.heap.size ≤ k_)) v0_ r ∧ Below w0.heap.size w0 w' ∧ Kept w w' (fun k_ => P0_ k_) := by
  have HO0 := Aside0.mk (show Kd.R (Kd.int .u8) 5 w w0.heap.size (fun k_ => (P0_ k_ ∨ w.heap.size ≤ k_)) u9000_ l0 from Kd.R_mono ho0 (fun k_ hk => (.inl hk)))
  have HK := Aside0.mk (Kept.refl w (fun k_ => P0_ k_))
  have HW0 := Aside0.mk hB.size
  have HB := Aside0.mk hB
  clear hB
  have H : (decode_word.l0 k l0 a1 a2 0) = some r := h
  clear h
  have H' := Aside0.mk H
  clear H
  go_enter Try.func43, Try.ntmps43
  go_wp2
  go_loopg [0, 7] k (fun kq v0 v7 w' => ∃ (x0_1 : List Int) (x7_1 : Int), v7 = .int .i64 x7_1 ∧ Aside0 (decode_word.l0 kq x0_1 a1 a2 x7_1 = some r) ∧ Aside0 (kq ≤ k) ∧ Aside0 (Kd.R (Kd.int .u8) 5 w' w0.heap.size (fun k_ => (P0_ k_ ∨ w.heap.size ≤ k_)) v0 x0_1) ∧ Aside0 (Kept w w' (fun k_ => P0_ k_)) ∧ Aside0 (Below w0.heap.size w0 w'))
  case atStart => exact ⟨(l0), (0), (by first | rfl | (simp; done) | (simp [*]; done)), H', ⟨Nat.le_refl _⟩, ⟨by (with_reducible repeat (first | apply Kd.R_alloc | apply Kd.R_drewN | apply Kd.R_drew)); exact HO0.out⟩, ⟨by repeat (first | (with_reducible first | exact HK.out | apply Kept.alloc | apply Kept.drewN | apply Kept.drew) | exact HK.out)⟩, ⟨by repeat (first | (with_reducible first | exact HB.out | apply below_alloc | apply pw_below_drewN | apply below_drew1) | exact HB.out)⟩⟩
  case round =>
    clear H'
    try clear p2
    obtain ⟨x0_1, x7_1, rfl, HA, HK1, HO_0, HK, HB⟩ := hrel
    cases gk with
    | zero => exact absurd HA.out (by simp [decode_word.l0])
    | succ k1 =>
      have H := HA.out
      clear HA
      simp only [decode_word.l0] at H
      by_cases c4 : x7_1 < 8
      · rw [if_pos c4] at H
        have c4b0 : decide (x7_1 < 8) = true := decide_eq_true c4
        clear c4
        by_cases c5 : a2 = true
        · subst c5
          have H1 : (if 0 ≤ (wrap64 (8 * x7_1)) then (if x0_1.length < 140737488355328 then (decode_word.l0 k1 (x0_1 ++ [(shr .u64 a1 (wrap64 (8 * x7_1))) % 256]) a1 true (wrap64 (x7_1 + 1))) else (none)) else (none)) = some r := by rw [if_pos rfl] at H; exact H
          clear H
          have H := H1
          clear H1
          obtain ⟨ji6, hji6⟩ : ∃ j_ : Int, (wrap64 (8 * x7_1)) = j_ := ⟨_, rfl⟩
          replace H : (if 0 ≤ (ji6) then (if x0_1.length < 140737488355328 then (decode_word.l0 k1 (x0_1 ++ [(shr .u64 a1 (ji6)) % 256]) a1 true (wrap64 (x7_1 + 1))) else (none)) else (none)) = some r := by first | (rw [hji6] at H; exact H) | (simp only [hji6] at H ⊢; exact H)
          have hji6w : (IntKind.i64.wrap (8 * x7_1)) = ji6 := (i64_w _).trans hji6
          by_cases c7 : 0 ≤ (ji6)
          · rw [if_pos c7] at H
            have c7b0 := eq_true c7
            have c7b1 : decide (0 ≤ (ji6)) = true := decide_eq_true c7
            clear c7
            obtain ⟨ji8, hji8⟩ : ∃ j_ : Int, (shr .u64 a1 (ji6)) = j_ := ⟨_, rfl⟩
            replace H : (if x0_1.length < 140737488355328 then (decode_word.l0 k1 (x0_1 ++ [(ji8) % 256]) a1 true (wrap64 (x7_1 + 1))) else (none)) = some r := by first | (rw [hji8] at H; exact H) | (simp only [hji8] at H ⊢; exact H)
            have hji8_ : (a1 / 2 ^ min (ji6).toNat 64) = ji8 := hji8
            have hji8z : (ji6) ≤ 64 → (a1 / 2 ^ (ji6).toNat) = ji8 := shr_small hji8
            by_cases c9 : x0_1.length < 140737488355328
            · rw [if_pos c9] at H
              have LMc9 := Aside0.mk c9
              clear c9
              obtain ⟨y101, hy101⟩ : ∃ y_ : List Int, y_ = (x0_1 ++ [(ji8) % 256]) := ⟨_, rfl⟩
              replace H : (decode_word.l0 k1 y101 a1 true (wrap64 (x7_1 + 1))) = some r := by first | (rw [hy101]; with_reducible exact H) | (have H2_ := (Option.bind_some _ _).symm.trans H; rw [hy101]; with_reducible exact H2_) | (have H2_ := (Option.bind_some _ _).symm.trans H; with_reducible exact H2_) | with_reducible exact H | (rw [hy101]; exact H) | exact H
              have Ny101 := Aside0.mk hy101
              clear hy101
              have H' := Aside0.mk H
              clear H
              go_wp2_with (first | ((with_reducible refine gate_builtin (b := .append) (xs := #[.tmp 15, .tmp 21]) rfl ?_); at_builtin; refine Kd.R_append (Kd.int .u8) (w0 := w0) w0.heap.size rfl (.tmp 15) (.tmp 21) 32 5 (.int .u8 0) 1 rfl Try.underlying32 info5 rfl (by decide) (by omega) u0 x0_1 ((ji8) % 256) [.int .u8 ((ji8) % 256)] (fun k_ => (P0_ k_ ∨ w.heap.size ≤ k_)) (fun _ => False) rfl rfl ?aP (fun _ hk => hk.elim) ?aF ?aO ?aB ?aS ?aL ?_; (case aP => exact rfl); (case aB => exact (by repeat (first | (with_reducible first | exact HB.out | apply below_alloc | apply pw_below_drewN | apply below_drew1) | exact HB.out))); (case aF => exact (fun k_ hk => (.inr (Nat.le_trans (by first | exact HK.out.1 | exact (show Kept w _ (fun k_ => P0_ k_) from by repeat (first | (with_reducible first | exact HK.out | apply Kept.alloc | apply Kept.drewN | apply Kept.drew) | exact HK.out)).1) hk)))); (case aO => exact (by (with_reducible repeat (first | apply Kd.R_alloc | apply Kd.R_drewN | apply Kd.R_drew)); exact HO_0.out)); (case aS => exact (below_size (by repeat (first | (with_reducible first | exact HB.out | apply below_alloc | apply pw_below_drewN | apply below_drew1) | exact HB.out)))); (case aL => have := LMc9.out; omega); intro v102 w10 ho hb hg hat; rw [← Ny101.out] at ho; have n0_ := Aside0.mk (hb); have n1_ := Aside0.mk (Kept.of_grown (S := (fun k_ => P0_ k_)) hg (by repeat (first | (with_reducible first | exact HK.out | apply Kept.alloc | apply Kept.drewN | apply Kept.drew) | exact HK.out)) (fun k_ e_ => (HO_0.out.1 k_ e_))); have n2_ := Aside0.mk (ho); clear HB; clear HK; clear HO_0; have HB := n0_; have HK := n1_; have HO103 := n2_; clear n0_ n1_ n2_; clear ho hb hg hat))
              go_roundg k1
              case measure => have := HK1.out; omega
              case rel => exact ⟨(y101), (wrap64 (x7_1 + 1)), (by first | rfl | (simp; done) | (simp [*]; done)), H', ⟨by have := HK1.out; omega⟩, ⟨by (with_reducible repeat (first | apply Kd.R_alloc | apply Kd.R_drewN | apply Kd.R_drew)); exact HO103.out⟩, ⟨by repeat (first | (with_reducible first | exact HK.out | apply Kept.alloc | apply Kept.drewN | apply Kept.drew) | exact HK.out)⟩, ⟨by repeat (first | (with_reducible first | exact HB.out | apply below_alloc | apply pw_below_drewN | apply below_drew1) | exact HB.out)⟩⟩
            · rw [if_neg c9] at H
              exact absurd H (by simp)
          · rw [if_neg c7] at H
            exact absurd H (by simp)
        · replace c5 := Bool.eq_false_iff.mpr c5
          subst c5
          have H1 : (some x0_1) = some r := by rw [if_neg (show ¬ (false = true) by decide)] at H; exact H
          clear H
          have H := H1
          clear H1
          obtain rfl := Option.some.inj H
          go_wp2
          go_ret
          exact ⟨_, by first | rfl | (simp [errW_none, errW_some] <;> rfl) | (simp [*, errW_none, errW_some] <;> rfl), by (with_reducible repeat (first | apply Kd.R_alloc | apply Kd.R_drewN | apply Kd.R_drew)); exact HO_0.out, by repeat (first | (with_reducible first | exact HB.out | apply below_alloc | apply pw_below_drewN | apply below_drew1) | exact HB.out), by repeat (first | (with_reducible first | exact HK.out | apply Kept.alloc | apply Kept.drewN | apply Kept.drew) | exact HK.out)⟩
      · rw [if_neg c4] at H
        have c4b0 : decide (x7_1 < 8) = false := decide_eq_false c4
        clear c4
        obtain rfl := Option.some.inj H
        go_wp2
        go_ret
        exact ⟨_, by first | rfl | (simp [errW_none, errW_some] <;> rfl) | (simp [*, errW_none, errW_some] <;> rfl), by (with_reducible repeat (first | apply Kd.R_alloc | apply Kd.R_drewN | apply Kd.R_drew)); exact HO_0.out, by repeat (first | (with_reducible first | exact HB.out | apply below_alloc | apply pw_below_drewN | apply below_drew1) | exact HB.out), by repeat (first | (with_reducible first | exact HK.out | apply Kept.alloc | apply Kept.drewN | apply Kept.drew) | exact HK.out)⟩

/-! ### decode_Bytes: function 15 -/
-- needs decode_Formed.f decode_word.f
namespace Giv3
 def eightB (x : Int) : List Int := [x % 256, x / 256 % 256, x / 65536 % 256, x / 16777216 % 256, x / 4294967296 % 256, x / 1099511627776 % 256, x / 281474976710656 % 256, x / 72057594037927936 % 256]
 theorem word_no (l : List Int) (x : Int) : Ev (fun k => decode_word.f k l x false) l := by
  unfold decode_word.f
  refine Ev.step (f := fun _ => some l) (fun k => ?_) (Ev.now _)
  simp only [decode_word.l0]
  rw [if_pos (by decide), if_neg (by decide)]
 theorem word_step (l : List Int) (x r : Int) (i : Int) (hi : 0 ≤ i ∧ i < 8) (hl : l.length < 100000) (e : (shr .u64 x (wrap64 (8 * i))) % 256 = r) (R : List Int) (h : Ev (fun k => decode_word.l0 k (l ++ [r]) x true (i + 1)) R) : Ev (fun k => decode_word.l0 k l x true i) R := by
  have e8 : wrap64 (8 * i) = 8 * i := by unfold wrap64; omega
  have e1 : wrap64 (i + 1) = i + 1 := by unfold wrap64; omega
  refine Ev.step (fun k => ?_) h
  simp only [decode_word.l0]
  rw [if_pos (by omega), if_pos True.intro, if_pos (by omega), if_pos (by omega), e, e1]
 theorem word_yes (l : List Int) (x : Int) (hl : l.length < 1000) : Ev (fun k => decode_word.f k l x true) (l ++ eightB x) := by
  unfold decode_word.f
  have fin : Ev (fun k => decode_word.l0 k (l ++ eightB x) x true 8) (l ++ eightB x) := by
    refine Ev.step (f := fun _ => some (l ++ eightB x)) (fun k => ?_) (Ev.now _)
    simp only [decode_word.l0]
    rw [if_neg (by decide)]
  have sh : ∀ (n : Int) (m : Nat), (wrap64 (8 * n)).toNat = m → m ≤ 64 → shr .u64 x (wrap64 (8 * n)) % 256 = x / ((2 ^ m : Nat) : Int) % 256 := fun n m hm h64 => by
    unfold shr
    rw [hm, Nat.min_eq_left (by simpa [IntKind.bits] using h64)]
    simp
  refine word_step l x _ 0 (by omega) (by omega) (sh 0 0 (by unfold wrap64; omega) (by omega)) _ ?_
  refine word_step _ x _ 1 (by omega) (by simp; omega) (sh 1 8 (by unfold wrap64; omega) (by omega)) _ ?_
  refine word_step _ x _ 2 (by omega) (by simp; omega) (sh 2 16 (by unfold wrap64; omega) (by omega)) _ ?_
  refine word_step _ x _ 3 (by omega) (by simp; omega) (sh 3 24 (by unfold wrap64; omega) (by omega)) _ ?_
  refine word_step _ x _ 4 (by omega) (by simp; omega) (sh 4 32 (by unfold wrap64; omega) (by omega)) _ ?_
  refine word_step _ x _ 5 (by omega) (by simp; omega) (sh 5 40 (by unfold wrap64; omega) (by omega)) _ ?_
  refine word_step _ x _ 6 (by omega) (by simp; omega) (sh 6 48 (by unfold wrap64; omega) (by omega)) _ ?_
  refine word_step _ x _ 7 (by omega) (by simp; omega) (sh 7 56 (by unfold wrap64; omega) (by omega)) _ ?_
  have e : l ++ [x / ((2 ^ 0 : Nat) : Int) % 256] ++ [x / ((2 ^ 8 : Nat) : Int) % 256] ++ [x / ((2 ^ 16 : Nat) : Int) % 256] ++ [x / ((2 ^ 24 : Nat) : Int) % 256] ++ [x / ((2 ^ 32 : Nat) : Int) % 256] ++ [x / ((2 ^ 40 : Nat) : Int) % 256] ++ [x / ((2 ^ 48 : Nat) : Int) % 256] ++ [x / ((2 ^ 56 : Nat) : Int) % 256] = l ++ eightB x := by
    unfold eightB
    simp
  rw [e]
  exact fin
 def put8 (l : List Int) (x : Int) (is : Bool) : List Int := if is = true then l ++ eightB x else l
 theorem word_eq (l : List Int) (x : Int) (is : Bool) (hl : l.length < 1000) : ∃ k, decode_word.f k l x is = some (put8 l x is) := by
  cases is
  · exact (word_no l x).rounds
  · exact (word_yes l x hl).rounds
 /-- A row of bytes of the call's own, in blocks from one on. -/
 def Own (w0 : World) (lo : Nat) (w : World) (v : Value) (l : List Int) : Prop := Kd.R (Kd.int .u8) 5 w w0.heap.size (fun k => lo ≤ k) v l ∧ Below w0.heap.size w0 w
 def Same (lo : Nat) (w w' : World) : Prop := ∀ b, b < lo → w'.heap[b]? = w.heap[b]?
 theorem word_any (w0 w : World) (lo : Nat) (v : Value) (l : List Int) (x : Int) (is : Bool) (hl : l.length < 1000) (hlo : lo ≤ w.heap.size) (h : Own w0 lo w v l) :
    Calls Try.prog 43 #[v, .int .u64 x, .bool is] w fun e w' => ∃ v', e = .returned v' ∧ Own w0 lo w' v' (put8 l x is) ∧ Same lo w w' ∧ lo ≤ w'.heap.size := by
  obtain ⟨k, hk⟩ := word_eq l x is hl
  refine (decode_word.calls k (fun k => lo ≤ k) v l x is _ w0 w h.2 h.1 hk).mono ?_
  rintro e w' ⟨v', rfl, hR, hB, hK⟩
  exact ⟨v', rfl, ⟨Kd.R_mono hR (fun k hk => hk.elim id (fun h => Nat.le_trans hlo h)), hB⟩, fun b hb => hK.2 b (by omega) (by omega), Nat.le_trans hlo hK.1⟩
 theorem lit_own {P : Program} {ops : Array Oper} {Q : Exit → Act → World → Prop} {a : Act} {W : World} {rest : List Oper} {o : Oper} (w0 : World) (lo : Nat) (x : Int) (hgd : o.guard = none)
    (hrun : (execOp a.eval o).run P W = .ok (.value (.slice (some ⟨W.heap.size, 0, none⟩) 1 1)) (W.alloc (.cells #[.int .u8 x] 5)))
    (HB : Below w0.heap.size w0 W) (hlo : lo ≤ W.heap.size) (hbase : w0.heap.size ≤ W.heap.size)
    (h : ∀ v1 w1, Own w0 lo w1 v1 [x] → Same lo W w1 → lo ≤ w1.heap.size → wpList P ops Q rest (a.put o.dst v1) w1) : wpList P ops Q (o :: rest) a W := by
  refine wpList_plain hgd fun K hK => ?_
  unfold Oper.wp
  rw [hrun]
  refine hK _ _ (h _ _ ⟨⟨fun k hk => ?_, [.int .u8 x], ?_, ?_⟩, HB.alloc hbase _⟩ (fun b hb => Below.heap_alloc _ _ _ (by omega)) (by simp; omega))
  · have : W.heap.size = k := by simpa [Value.ownBlock] using hk
    omega
  · have h2 := World.ownsRow_lit (base := w0.heap.size) (e := 5) (size := 1) W #[.int .u8 x] 1 hbase (by simp [maxLen]) rfl
    have h3 : World.ownsRow (W.alloc (Obj.cells #[Value.int IntKind.u8 x] 5)) w0.heap.size 5 1 (.slice (some ⟨W.heap.size, 0, none⟩) 1 1) 1 [.int .u8 x] := by simpa using h2
    exact h3
  · exact Reps.one (show Kd.M (Kd.int .u8) _ _ _ x [.int .u8 x] from rfl) (Reps.none _ _)
 theorem own_drew {w0 w : World} {lo : Nat} {v : Value} {l : List Int} (h : Own w0 lo w v l) : Own w0 lo w.drew v l := ⟨Kd.R_drew h.1, h.2.drew⟩
 theorem own_str {w0 w : World} {lo : Nat} {v : Value} {l : List Int} (h : Own w0 lo w v l) : (convert 32 9 v).run Try.prog w = .ok (.string (strOfNums l)) w := by
  have ho := Kd.own_of_R (enc := Value.int .u8) h.1
  exact own_string Try.underlying32 Try.underlying5 Try.underlying9 ho
 theorem put8_len (l : List Int) (x : Int) (is : Bool) : (put8 l x is).length ≤ l.length + 8 := by
  unfold put8
  split
  · simp [eightB]
  · omega
 theorem info8 : (Try.prog.info? 5).map (fun i => (i.zero, i.size, i.bytes)) = some (some (.int .u8 0), 1, 1) := by kernel_rfl
 theorem app_own {ops : Array Oper} {Q : Exit → Act → World → Prop} {a : Act} {W : World} {rest : List Oper} {o : Oper} (w0 : World) (lo : Nat) (s x : Tmp) (v : Value) (l : List Int) (y : Int) (hgd : o.guard = none)
    (ho : o.op = .call { callee := .builtin .append, args := #[.tmp s, .tmp x], argTypes := #[32, 32] }) (hs : a.eval (.tmp s) = v) (hx : a.eval (.tmp x) = .slice (some ⟨W.heap.size, 0, none⟩) 1 1)
    (hO : Own w0 lo W v l) (hlo : lo ≤ W.heap.size) (hb : w0.heap.size ≤ W.heap.size) (hl : l.length < 1000)
    (h : ∀ v1 w1, Own w0 lo w1 v1 (l ++ [y]) → Same lo W w1 → lo ≤ w1.heap.size → wpList Try.prog ops Q rest (a.put o.dst v1) w1) : wpList Try.prog ops Q (o :: rest) a (W.alloc (.cells #[.int .u8 y] 5)) := by
  refine Kd.R_append (Kd.int .u8) (w0 := w0) w0.heap.size hgd (.tmp s) (.tmp x) 32 5 (.int .u8 0) 1 ho Try.underlying32 info8 rfl (by decide) (by omega) v l y [.int .u8 y] (fun k => lo ≤ k) (fun _ => False) hs hx rfl (fun _ hk => hk.elim) (fun k hk => Nat.le_trans hlo hk) hO.1 hO.2 hb (by omega) ?_
  intro v1 w1 hR hB hg hat
  refine h v1 w1 ⟨hR, hB⟩ (fun b hb => hg.block b (by omega) (fun e => ?_)) (Nat.le_trans hlo hg.size)
  have := hO.1.1 b e.symm
  omega
 /-- An operation's bytes. -/
 def mid (c d f h : Int) (xh xd xf : Bool) : List Int := (put8 [c % 256] h xh ++ if xd = true then [d % 256] else []) ++ if xf = true then [f % 256] else []
 def byt (c d f h a b : Int) (xh xd xf xa xb : Bool) : List Int := put8 (put8 (mid c d f h xh xd xf) a xa) b xb
 theorem same_cell {lo : Nat} {w w' : World} (h : Same lo w w') {b i : Nat} (hb : b < lo) : w'.cell? ⟨b, i, none⟩ = w.cell? ⟨b, i, none⟩ := World.cell?_of_block (w := w) (h b hb)
set_option maxHeartbeats 1000000 in
 theorem bytes_no (c d f h a b : Int) (w : World) (hf0 : decode_Formed.f c d f h a b = some false) :
    Calls Try.prog 15 #[.agg #[.int .i64 c, .int .i64 d, .int .i64 f, .int .u64 h, .int .u64 a, .int .u64 b]] w fun e w' => e = .returned (.string ⟨#[]⟩) ∧ Below w.heap.size w w' := by
  have hf := Lib.hid hf0
  clear hf0
  go_enter Try.func15, Try.ntmps15
  go_wp2_with fail
  refine (decode_Formed.calls c d f h a b false _ hf.out).mono ?_
  rintro e w1 ⟨rfl, hb⟩
  go_wp2_with fail
  go_ret
  exact ⟨rfl, Giv.below_trans2 ((Below.refl _ _).alloc (Nat.le_refl _) _) hb (by simp)⟩
set_option maxHeartbeats 8000000 in
 theorem bytes_yes (c d f h a b : Int) (xh xd xf xa xb : Bool) (w : World) (hdf : ¬ (xd = true ∧ xf = true)) (hf0 : decode_Formed.f c d f h a b = some true)
    (hidx : ∀ W, (Instr.index 64 (.agg Giv.tab) (.int .i64 c)).run Try.prog W = .ok (.agg #[.bool xh, .bool xd, .bool xf, .bool xa, .bool xb]) W) :
    Calls Try.prog 15 #[.agg #[.int .i64 c, .int .i64 d, .int .i64 f, .int .u64 h, .int .u64 a, .int .u64 b]] w fun e w' => e = .returned (.string (strOfNums (byt c d f h a b xh xd xf xa xb))) ∧ Below w.heap.size w w' := by
  have hf := Lib.hid hf0
  clear hf0
  go_enter Try.func15, Try.ntmps15
  go_wp2_with fail
  refine (decode_Formed.calls c d f h a b true _ hf.out).mono ?_
  rintro e w1 ⟨rfl, hb⟩
  have hB1 := Giv.below_trans2 ((Below.refl w.heap.size w).alloc (Nat.le_refl _) (.cells #[.int .i64 c, .int .i64 d, .int .i64 f, .int .u64 h, .int .u64 a, .int .u64 b] 25)) hb (by simp)
  have k0 : w1.cell? ⟨w.heap.size, 0, none⟩ = some (.int .i64 c) := by rw [hb.cell (by simp)]; simp
  have k1 : w1.cell? ⟨w.heap.size, 1, none⟩ = some (.int .i64 d) := by rw [hb.cell (by simp)]; simp
  have k2 : w1.cell? ⟨w.heap.size, 2, none⟩ = some (.int .i64 f) := by rw [hb.cell (by simp)]; simp
  have k3 : w1.cell? ⟨w.heap.size, 3, none⟩ = some (.int .u64 h) := by rw [hb.cell (by simp)]; simp
  have k4 : w1.cell? ⟨w.heap.size, 4, none⟩ = some (.int .u64 a) := by rw [hb.cell (by simp)]; simp
  have k5 : w1.cell? ⟨w.heap.size, 5, none⟩ = some (.int .u64 b) := by rw [hb.cell (by simp)]; simp
  have hs1 : w.heap.size < w1.heap.size := by have := hb.size; simp at this; omega
  have hB := hB1
  clear hb hB1
  go_upto_region 3 with (fail)
  go_cut [3] (fun s3 wx => ∃ g : Nat, s3 = .pointer (some ⟨g, 0, none⟩) ∧ w.heap.size < g ∧ g < wx.heap.size ∧ Below w.heap.size w wx ∧ (wx.cell? ⟨w.heap.size, 0, none⟩ = some (.int .i64 c) ∧ wx.cell? ⟨w.heap.size, 1, none⟩ = some (.int .i64 d) ∧ wx.cell? ⟨w.heap.size, 2, none⟩ = some (.int .i64 f) ∧ wx.cell? ⟨w.heap.size, 3, none⟩ = some (.int .u64 h) ∧ wx.cell? ⟨w.heap.size, 4, none⟩ = some (.int .u64 a) ∧ wx.cell? ⟨w.heap.size, 5, none⟩ = some (.int .u64 b)) ∧ (wx.cell? ⟨g, 0, none⟩ = some (.bool xh) ∧ wx.cell? ⟨g, 1, none⟩ = some (.bool xd) ∧ wx.cell? ⟨g, 2, none⟩ = some (.bool xf) ∧ wx.cell? ⟨g, 3, none⟩ = some (.bool xa) ∧ wx.cell? ⟨g, 4, none⟩ = some (.bool xb)))
  case first =>
    go_region_held3 (fun w' => w'.cell? ⟨w.heap.size, 0, none⟩ = some (.int .i64 c))
      (first | go_keep | exact E0 | exact (World.cell?_alloc_lt _ _ _ hs1).trans k0) (first | (go_at_call 38; refine (Giv.table_any _).mono ?_; rintro e w5 ⟨rfl, hb5⟩; have hs5 : w.heap.size < w5.heap.size := (by have h6 := hb5.size; (try simp at h6); omega); have hs6 : w1.heap.size ≤ w5.heap.size := (by have h6 := hb5.size; (try simp at h6); first | exact h6 | omega); have hB5 : Below w.heap.size w w5 := Giv.below_trans2 (by first | exact hB.drew | exact (hB.alloc (by omega) _).drew) hb5 (by first | (simp; done) | omega | (simp; omega)); have E0 : w5.cell? ⟨w.heap.size, 0, none⟩ = some (.int .i64 c) := (by rw [hb5.cell (by simp; try omega)]; first | exact k0 | exact (World.cell?_alloc_lt _ _ _ hs1).trans k0); have E1 : w5.cell? ⟨w.heap.size, 1, none⟩ = some (.int .i64 d) := (by rw [hb5.cell (by simp; try omega)]; first | exact k1 | exact (World.cell?_alloc_lt _ _ _ hs1).trans k1); have E2 : w5.cell? ⟨w.heap.size, 2, none⟩ = some (.int .i64 f) := (by rw [hb5.cell (by simp; try omega)]; first | exact k2 | exact (World.cell?_alloc_lt _ _ _ hs1).trans k2); have E3 : w5.cell? ⟨w.heap.size, 3, none⟩ = some (.int .u64 h) := (by rw [hb5.cell (by simp; try omega)]; first | exact k3 | exact (World.cell?_alloc_lt _ _ _ hs1).trans k3); have E4 : w5.cell? ⟨w.heap.size, 4, none⟩ = some (.int .u64 a) := (by rw [hb5.cell (by simp; try omega)]; first | exact k4 | exact (World.cell?_alloc_lt _ _ _ hs1).trans k4); have E5 : w5.cell? ⟨w.heap.size, 5, none⟩ = some (.int .u64 b) := (by rw [hb5.cell (by simp; try omega)]; first | exact k5 | exact (World.cell?_alloc_lt _ _ _ hs1).trans k5); obtain ⟨hc5, hz5⟩ := Giv.bcell hb5; have ne1 : ¬ w5.heap.size = w.heap.size := (by omega); have ne2 : ¬ w.heap.size = w5.heap.size := (by omega); have ne3 : ¬ w.heap.size = w1.heap.size := (by omega); have ne4 : ¬ w1.heap.size = w.heap.size := (by omega)))
    all_goals (go_wp2_with fail; go_meet)
    all_goals first
      | exact ⟨w5.heap.size, rfl, hs5, by simp, hB5.alloc (by omega) _, ⟨(World.cell?_alloc_lt _ _ _ hs5).trans E0, (World.cell?_alloc_lt _ _ _ hs5).trans E1, (World.cell?_alloc_lt _ _ _ hs5).trans E2, (World.cell?_alloc_lt _ _ _ hs5).trans E3, (World.cell?_alloc_lt _ _ _ hs5).trans E4, (World.cell?_alloc_lt _ _ _ hs5).trans E5⟩, by simp [World.cell?_alloc_new], by simp [World.cell?_alloc_new], by simp [World.cell?_alloc_new], by simp [World.cell?_alloc_new], by simp [World.cell?_alloc_new]⟩
      | (have Y : ∀ i, i < 5 → ∃ v, w5.cell? ⟨w1.heap.size, i, none⟩ = some v := fun i hi => by
          rw [hc5 _ _ (by simp)]
          match i, hi with
          | 0, _ | 1, _ | 2, _ | 3, _ | 4, _ => exact ⟨.bool false, by go_simp⟩
         have hs7 : w1.heap.size < w5.heap.size := by have h6 := hb5.size; simp at h6; omega
         exact ⟨w1.heap.size, rfl, hs1, by simpa using hs7, ((((hB5.setCell (by show w.heap.size ≤ w1.heap.size; omega) _).setCell (by show w.heap.size ≤ w1.heap.size; omega) _).setCell (by show w.heap.size ≤ w1.heap.size; omega) _).setCell (by show w.heap.size ≤ w1.heap.size; omega) _).setCell (by show w.heap.size ≤ w1.heap.size; omega) _, ⟨Giv.set5_old (by show w1.heap.size ≠ w.heap.size; omega) E0, Giv.set5_old (by show w1.heap.size ≠ w.heap.size; omega) E1, Giv.set5_old (by show w1.heap.size ≠ w.heap.size; omega) E2, Giv.set5_old (by show w1.heap.size ≠ w.heap.size; omega) E3, Giv.set5_old (by show w1.heap.size ≠ w.heap.size; omega) E4, Giv.set5_old (by show w1.heap.size ≠ w.heap.size; omega) E5⟩, Giv.set5_new Y⟩)
  case rest =>
    obtain ⟨g, rfl, hg1, hg2, hBx, ⟨o0, o1, o2, o3, o4, o5⟩, x0, x1, x2, x3, x4⟩ := hcut
    clear hf hidx k0 k1 k2 k3 k4 k5 hs1 hB
    obtain ⟨lo, hlo⟩ : ∃ lo, lo = wc.heap.size := ⟨_, rfl⟩
    have hlw : w.heap.size < lo := by omega
    have hlg : g < lo := by omega
    have hl0 : lo ≤ wc.heap.size := by omega
    have hbase : w.heap.size ≤ wc.heap.size := by omega
    clear hlo hg2
    cases xd
    · cases xf
      · skip
        go_wp2_with (first | ((with_reducible refine gate_dst (N := 15) rfl ?_); refine lit_own w lo (c % 256) rfl (by first | (go_simp; done) | (go_simp; rfl)) hBx hl0 hbase ?_; intro v1 w2 hO2 hS2 hl2; replace o0 := (same_cell hS2 hlw (i := 0)).trans o0; replace o1 := (same_cell hS2 hlw (i := 1)).trans o1; replace o2 := (same_cell hS2 hlw (i := 2)).trans o2; replace o3 := (same_cell hS2 hlw (i := 3)).trans o3; replace o4 := (same_cell hS2 hlw (i := 4)).trans o4; replace o5 := (same_cell hS2 hlw (i := 5)).trans o5; replace x0 := (same_cell hS2 hlg (i := 0)).trans x0; replace x1 := (same_cell hS2 hlg (i := 1)).trans x1; replace x2 := (same_cell hS2 hlg (i := 2)).trans x2; replace x3 := (same_cell hS2 hlg (i := 3)).trans x3; replace x4 := (same_cell hS2 hlg (i := 4)).trans x4; clear hS2 hBx hl0) | (go_at_call 43; refine (word_any w _ lo _ [c % 256] h xh (by simp) hl2 hO2).mono ?_; rintro e w3 ⟨v2, rfl, hO3, hS3, hl3⟩; replace o0 := (same_cell hS3 hlw (i := 0)).trans o0; replace o1 := (same_cell hS3 hlw (i := 1)).trans o1; replace o2 := (same_cell hS3 hlw (i := 2)).trans o2; replace o3 := (same_cell hS3 hlw (i := 3)).trans o3; replace o4 := (same_cell hS3 hlw (i := 4)).trans o4; replace o5 := (same_cell hS3 hlw (i := 5)).trans o5; replace x0 := (same_cell hS3 hlg (i := 0)).trans x0; replace x1 := (same_cell hS3 hlg (i := 1)).trans x1; replace x2 := (same_cell hS3 hlg (i := 2)).trans x2; replace x3 := (same_cell hS3 hlg (i := 3)).trans x3; replace x4 := (same_cell hS3 hlg (i := 4)).trans x4; clear hS3 hl2 hO2))
        obtain ⟨v3, hv3⟩ : ∃ v3, v3 = v2 := ⟨_, rfl⟩
        subst hv3
        obtain ⟨L2, hL2e⟩ : ∃ L2, L2 = put8 [c % 256] h xh := ⟨_, rfl⟩
        rw [← hL2e] at hO3
        have hL2 : L2.length < 100 := by have := put8_len [c % 256] h xh; simp at this; rw [hL2e]; simp; omega
        have HL2 : Hid (L2 = mid c d f h xh false false) := Lib.hid (by rw [hL2e]; simp [mid])
        clear hL2e
        have hO4 := own_drew hO3
        have hl4 : lo ≤ w3.drew.heap.size := hl3
        clear hO3 hl3 o0 o1 o2 o3 x0 x1 x2
        refine wp_region_held_drew (S := (fun w' => w'.cell? ⟨w.heap.size, 4, none⟩ = some (.int .u64 a) ∧ w'.cell? ⟨w.heap.size, 5, none⟩ = some (.int .u64 b) ∧ w'.cell? ⟨g, 3, none⟩ = some (.bool xa) ∧ w'.cell? ⟨g, 4, none⟩ = some (.bool xb))) (by kernel_rfl) ?_ (fun hHeld => ?_)
        · (try dsimp only)
          exact ⟨o4, o5, x3, x4⟩
        refine wpAnyH_take (i := 0) (v := ?_) rfl (by kernel_rfl) (by kernel_rfl) (by kernel_rfl) (fun _ _ _ h => h) (Or.inl ⟨by rfl, ?_⟩) (by assumption) ?_
        rotate_left
        · intro w' hSw
          (try dsimp only at hSw)
          first | (go_simp; done) | (go_simp; with_reducible rfl)
        (try simp only [Act.put, List.setIfInBounds_toArray, List.set_cons_zero, List.set_cons_succ])
        refine wpAnyH_take (i := 1) (v := ?_) rfl (by kernel_rfl) (by kernel_rfl) (by kernel_rfl) (fun _ _ _ h => h) (Or.inl ⟨by rfl, ?_⟩) (by assumption) ?_
        rotate_left
        · intro w' hSw
          (try dsimp only at hSw)
          first | (go_simp; done) | (go_simp; with_reducible rfl)
        (try simp only [Act.put, List.setIfInBounds_toArray, List.set_cons_zero, List.set_cons_succ])
        refine wpAnyH_take (i := 2) (v := ?_) rfl (by kernel_rfl) (by kernel_rfl) (by kernel_rfl) (fun _ _ _ h => h) (Or.inl ⟨by rfl, ?_⟩) (by assumption) ?_
        rotate_left
        · intro w' hSw
          (try dsimp only at hSw)
          first | (go_simp; done) | (go_simp; with_reducible rfl)
        (try simp only [Act.put, List.setIfInBounds_toArray, List.set_cons_zero, List.set_cons_succ])
        refine wpAnyH_take (i := 3) (v := ?_) rfl (by kernel_rfl) (by kernel_rfl) (by kernel_rfl) (fun _ _ _ h => h) (Or.inl ⟨by rfl, ?_⟩) (by assumption) ?_
        rotate_left
        · intro w' hSw
          (try dsimp only at hSw)
          first | (go_simp; done) | (go_simp; with_reducible rfl)
        (try simp only [Act.put, List.setIfInBounds_toArray, List.set_cons_zero, List.set_cons_succ])
        refine wpAnyH_take (i := 4) (v := ?_) rfl (by kernel_rfl) (by kernel_rfl) (by kernel_rfl) (fun _ _ _ h => h) (Or.inl ⟨by rfl, ?_⟩) (by assumption) ?_
        rotate_left
        · intro w' hSw
          (try dsimp only at hSw)
          first | (go_simp; done) | (go_simp; with_reducible rfl)
        (try simp only [Act.put, List.setIfInBounds_toArray, List.set_cons_zero, List.set_cons_succ])
        refine wpAnyH_take (i := 6) (v := ?_) rfl (by kernel_rfl) (by kernel_rfl) (by kernel_rfl) (fun _ _ _ h => h) (Or.inl ⟨by rfl, ?_⟩) (by assumption) ?_
        rotate_left
        · intro w' hSw
          (try dsimp only at hSw)
          first | (go_simp; done) | (go_simp; with_reducible rfl)
        (try simp only [Act.put, List.setIfInBounds_toArray, List.set_cons_zero, List.set_cons_succ])
        refine wpAnyH_take (i := 7) (v := ?_) rfl (by kernel_rfl) (by kernel_rfl) (by kernel_rfl) (fun _ _ _ h => h) (Or.inl ⟨by rfl, ?_⟩) (by assumption) ?_
        rotate_left
        · intro w' hSw
          (try dsimp only at hSw)
          first | (go_simp; done) | (go_simp; with_reducible rfl)
        (try simp only [Act.put, List.setIfInBounds_toArray, List.set_cons_zero, List.set_cons_succ])
        refine wpAnyH_take (i := 8) (v := ?_) rfl (by kernel_rfl) (by kernel_rfl) (by kernel_rfl) (fun _ _ _ h => h) (Or.inl ⟨by rfl, ?_⟩) (by assumption) ?_
        rotate_left
        · intro w' hSw
          (try dsimp only at hSw)
          first | (go_simp; done) | (go_simp; with_reducible rfl)
        (try simp only [Act.put, List.setIfInBounds_toArray, List.set_cons_zero, List.set_cons_succ])
        refine wpAnyH_take (i := 9) (v := ?_) rfl (by kernel_rfl) (by kernel_rfl) (by kernel_rfl) (fun _ _ _ h => h) (Or.inl ⟨by rfl, ?_⟩) (by assumption) ?_
        rotate_left
        · intro w' hSw
          (try dsimp only at hSw)
          first | (go_simp; done) | (go_simp; with_reducible rfl)
        (try simp only [Act.put, List.setIfInBounds_toArray, List.set_cons_zero, List.set_cons_succ])
        refine wpAnyH_ready (rs := [5]) (by kernel_rfl) (by simp) ?_
        refine AllReadyH.cons (o := _) rfl (fun K hK => ?_) AllReadyH.nil
        go_simp
        refine (word_any w _ lo v3 L2 a xa (by omega) hl4 hO4).mono ?_
        rintro e w5 ⟨v4, rfl, hO5, hS5, hl5⟩
        (try dsimp only)
        refine hK.out _ _ ?_ (fun hHeld => ?_)
        · (try dsimp only)
          exact ⟨(same_cell hS5 hlw).trans o4, (same_cell hS5 hlw).trans o5, (same_cell hS5 hlg).trans x3, (same_cell hS5 hlg).trans x4⟩
        clear hK K
        (try simp only [Act.put, List.setIfInBounds_toArray, List.set_cons_zero, List.set_cons_succ])
        refine wpAnyH_ready (rs := [10]) (by kernel_rfl) (by simp) ?_
        refine AllReadyH.cons (o := _) rfl (fun K hK => ?_) AllReadyH.nil
        go_simp
        refine (word_any w _ lo v4 (put8 L2 a xa) b xb (by have := put8_len L2 a xa; omega) hl5 hO5).mono ?_
        rintro e w7 ⟨v6, rfl, hO7, hS7, hl7⟩
        (try dsimp only)
        have hcv := own_str hO7
        refine hK.out _ _ ?_ (fun hHeld => ?_)
        · (try dsimp only)
          exact ⟨(same_cell hS7 hlw).trans ((same_cell hS5 hlw).trans o4), (same_cell hS7 hlw).trans ((same_cell hS5 hlw).trans o5), (same_cell hS7 hlg).trans ((same_cell hS5 hlg).trans x3), (same_cell hS7 hlg).trans ((same_cell hS5 hlg).trans x4)⟩
        clear hK K
        (try simp only [Act.put, List.setIfInBounds_toArray, List.set_cons_zero, List.set_cons_succ])
        refine wpAnyH_ready (rs := [11]) (by kernel_rfl) (by simp) ?_
        refine AllReadyH.cons (o := _) rfl (fun K hK => ?_) AllReadyH.nil
        go_simp
        refine hK.out _ _ ?_ (fun hHeld => ?_)
        · (try dsimp only)
          assumption
        clear hK K
        (try simp only [Act.put, List.setIfInBounds_toArray, List.set_cons_zero, List.set_cons_succ])
        refine wpAnyH_take (i := 12) (oi := ⟨some 2, _, _, _, _, _⟩) (v := ?_) rfl (by kernel_rfl) (by kernel_rfl) (by kernel_rfl) (fun _ _ _ h => h) (Or.inl ⟨by rfl, ?_⟩) (by assumption) ?_
        rotate_left
        · intro w' hSw
          (try dsimp only at hSw)
          first | (go_simp; done) | (go_simp; with_reducible rfl)
        (try simp only [Act.put, List.setIfInBounds_toArray, List.set_cons_zero, List.set_cons_succ])
        refine wpAnyH_done (by kernel_rfl) ?_ _
        (try simp only [Act.put, List.setIfInBounds_toArray, List.set_cons_zero, List.set_cons_succ])
        clear hcv
        go_wp2_with fail
        go_ret
        exact ⟨by rw [HL2.out]; first | rfl | (simp [Act.put, byt]; done) | (simp [Act.put, byt, go_sem]; done), hO7.2⟩
      · skip
        go_wp2_with (first | ((with_reducible refine gate_dst (N := 15) rfl ?_); refine lit_own w lo (c % 256) rfl (by first | (go_simp; done) | (go_simp; rfl)) hBx hl0 hbase ?_; intro v1 w2 hO2 hS2 hl2; replace o0 := (same_cell hS2 hlw (i := 0)).trans o0; replace o1 := (same_cell hS2 hlw (i := 1)).trans o1; replace o2 := (same_cell hS2 hlw (i := 2)).trans o2; replace o3 := (same_cell hS2 hlw (i := 3)).trans o3; replace o4 := (same_cell hS2 hlw (i := 4)).trans o4; replace o5 := (same_cell hS2 hlw (i := 5)).trans o5; replace x0 := (same_cell hS2 hlg (i := 0)).trans x0; replace x1 := (same_cell hS2 hlg (i := 1)).trans x1; replace x2 := (same_cell hS2 hlg (i := 2)).trans x2; replace x3 := (same_cell hS2 hlg (i := 3)).trans x3; replace x4 := (same_cell hS2 hlg (i := 4)).trans x4; clear hS2 hBx hl0) | (go_at_call 43; refine (word_any w _ lo _ [c % 256] h xh (by simp) hl2 hO2).mono ?_; rintro e w3 ⟨v2, rfl, hO3, hS3, hl3⟩; replace o0 := (same_cell hS3 hlw (i := 0)).trans o0; replace o1 := (same_cell hS3 hlw (i := 1)).trans o1; replace o2 := (same_cell hS3 hlw (i := 2)).trans o2; replace o3 := (same_cell hS3 hlw (i := 3)).trans o3; replace o4 := (same_cell hS3 hlw (i := 4)).trans o4; replace o5 := (same_cell hS3 hlw (i := 5)).trans o5; replace x0 := (same_cell hS3 hlg (i := 0)).trans x0; replace x1 := (same_cell hS3 hlg (i := 1)).trans x1; replace x2 := (same_cell hS3 hlg (i := 2)).trans x2; replace x3 := (same_cell hS3 hlg (i := 3)).trans x3; replace x4 := (same_cell hS3 hlg (i := 4)).trans x4; clear hS3 hl2 hO2) | ((with_reducible refine gate_dst (N := 36) rfl ?_); refine app_own w lo 31 35 v2 (put8 [c % 256] h xh) (f % 256) rfl rfl rfl (by first | rfl | (go_simp; done)) hO3 hl3 (by omega) (by have := put8_len [c % 256] h xh; simp at this; omega) ?_; intro v3 w4 hO3' hS4 hl3'; replace o0 := (same_cell hS4 hlw (i := 0)).trans o0; replace o1 := (same_cell hS4 hlw (i := 1)).trans o1; replace o2 := (same_cell hS4 hlw (i := 2)).trans o2; replace o3 := (same_cell hS4 hlw (i := 3)).trans o3; replace o4 := (same_cell hS4 hlw (i := 4)).trans o4; replace o5 := (same_cell hS4 hlw (i := 5)).trans o5; replace x0 := (same_cell hS4 hlg (i := 0)).trans x0; replace x1 := (same_cell hS4 hlg (i := 1)).trans x1; replace x2 := (same_cell hS4 hlg (i := 2)).trans x2; replace x3 := (same_cell hS4 hlg (i := 3)).trans x3; replace x4 := (same_cell hS4 hlg (i := 4)).trans x4; clear hS4 hl3 hO3))
        have hO3 := hO3'
        have hl3 := hl3'
        clear hO3' hl3'
        obtain ⟨L2, hL2e⟩ : ∃ L2, L2 = put8 [c % 256] h xh ++ [f % 256] := ⟨_, rfl⟩
        rw [← hL2e] at hO3
        have hL2 : L2.length < 100 := by have := put8_len [c % 256] h xh; simp at this; rw [hL2e]; simp; omega
        have HL2 : Hid (L2 = mid c d f h xh false true) := Lib.hid (by rw [hL2e]; simp [mid])
        clear hL2e
        have hO4 := own_drew hO3
        have hl4 : lo ≤ w4.drew.heap.size := hl3
        clear hO3 hl3 o0 o1 o2 o3 x0 x1 x2
        refine wp_region_held_drew (S := (fun w' => w'.cell? ⟨w.heap.size, 4, none⟩ = some (.int .u64 a) ∧ w'.cell? ⟨w.heap.size, 5, none⟩ = some (.int .u64 b) ∧ w'.cell? ⟨g, 3, none⟩ = some (.bool xa) ∧ w'.cell? ⟨g, 4, none⟩ = some (.bool xb))) (by kernel_rfl) ?_ (fun hHeld => ?_)
        · (try dsimp only)
          exact ⟨o4, o5, x3, x4⟩
        refine wpAnyH_take (i := 0) (v := ?_) rfl (by kernel_rfl) (by kernel_rfl) (by kernel_rfl) (fun _ _ _ h => h) (Or.inl ⟨by rfl, ?_⟩) (by assumption) ?_
        rotate_left
        · intro w' hSw
          (try dsimp only at hSw)
          first | (go_simp; done) | (go_simp; with_reducible rfl)
        (try simp only [Act.put, List.setIfInBounds_toArray, List.set_cons_zero, List.set_cons_succ])
        refine wpAnyH_take (i := 1) (v := ?_) rfl (by kernel_rfl) (by kernel_rfl) (by kernel_rfl) (fun _ _ _ h => h) (Or.inl ⟨by rfl, ?_⟩) (by assumption) ?_
        rotate_left
        · intro w' hSw
          (try dsimp only at hSw)
          first | (go_simp; done) | (go_simp; with_reducible rfl)
        (try simp only [Act.put, List.setIfInBounds_toArray, List.set_cons_zero, List.set_cons_succ])
        refine wpAnyH_take (i := 2) (v := ?_) rfl (by kernel_rfl) (by kernel_rfl) (by kernel_rfl) (fun _ _ _ h => h) (Or.inl ⟨by rfl, ?_⟩) (by assumption) ?_
        rotate_left
        · intro w' hSw
          (try dsimp only at hSw)
          first | (go_simp; done) | (go_simp; with_reducible rfl)
        (try simp only [Act.put, List.setIfInBounds_toArray, List.set_cons_zero, List.set_cons_succ])
        refine wpAnyH_take (i := 3) (v := ?_) rfl (by kernel_rfl) (by kernel_rfl) (by kernel_rfl) (fun _ _ _ h => h) (Or.inl ⟨by rfl, ?_⟩) (by assumption) ?_
        rotate_left
        · intro w' hSw
          (try dsimp only at hSw)
          first | (go_simp; done) | (go_simp; with_reducible rfl)
        (try simp only [Act.put, List.setIfInBounds_toArray, List.set_cons_zero, List.set_cons_succ])
        refine wpAnyH_take (i := 4) (v := ?_) rfl (by kernel_rfl) (by kernel_rfl) (by kernel_rfl) (fun _ _ _ h => h) (Or.inl ⟨by rfl, ?_⟩) (by assumption) ?_
        rotate_left
        · intro w' hSw
          (try dsimp only at hSw)
          first | (go_simp; done) | (go_simp; with_reducible rfl)
        (try simp only [Act.put, List.setIfInBounds_toArray, List.set_cons_zero, List.set_cons_succ])
        refine wpAnyH_take (i := 6) (v := ?_) rfl (by kernel_rfl) (by kernel_rfl) (by kernel_rfl) (fun _ _ _ h => h) (Or.inl ⟨by rfl, ?_⟩) (by assumption) ?_
        rotate_left
        · intro w' hSw
          (try dsimp only at hSw)
          first | (go_simp; done) | (go_simp; with_reducible rfl)
        (try simp only [Act.put, List.setIfInBounds_toArray, List.set_cons_zero, List.set_cons_succ])
        refine wpAnyH_take (i := 7) (v := ?_) rfl (by kernel_rfl) (by kernel_rfl) (by kernel_rfl) (fun _ _ _ h => h) (Or.inl ⟨by rfl, ?_⟩) (by assumption) ?_
        rotate_left
        · intro w' hSw
          (try dsimp only at hSw)
          first | (go_simp; done) | (go_simp; with_reducible rfl)
        (try simp only [Act.put, List.setIfInBounds_toArray, List.set_cons_zero, List.set_cons_succ])
        refine wpAnyH_take (i := 8) (v := ?_) rfl (by kernel_rfl) (by kernel_rfl) (by kernel_rfl) (fun _ _ _ h => h) (Or.inl ⟨by rfl, ?_⟩) (by assumption) ?_
        rotate_left
        · intro w' hSw
          (try dsimp only at hSw)
          first | (go_simp; done) | (go_simp; with_reducible rfl)
        (try simp only [Act.put, List.setIfInBounds_toArray, List.set_cons_zero, List.set_cons_succ])
        refine wpAnyH_take (i := 9) (v := ?_) rfl (by kernel_rfl) (by kernel_rfl) (by kernel_rfl) (fun _ _ _ h => h) (Or.inl ⟨by rfl, ?_⟩) (by assumption) ?_
        rotate_left
        · intro w' hSw
          (try dsimp only at hSw)
          first | (go_simp; done) | (go_simp; with_reducible rfl)
        (try simp only [Act.put, List.setIfInBounds_toArray, List.set_cons_zero, List.set_cons_succ])
        refine wpAnyH_ready (rs := [5]) (by kernel_rfl) (by simp) ?_
        refine AllReadyH.cons (o := _) rfl (fun K hK => ?_) AllReadyH.nil
        go_simp
        refine (word_any w _ lo v3 L2 a xa (by omega) hl4 hO4).mono ?_
        rintro e w5 ⟨v4, rfl, hO5, hS5, hl5⟩
        (try dsimp only)
        refine hK.out _ _ ?_ (fun hHeld => ?_)
        · (try dsimp only)
          exact ⟨(same_cell hS5 hlw).trans o4, (same_cell hS5 hlw).trans o5, (same_cell hS5 hlg).trans x3, (same_cell hS5 hlg).trans x4⟩
        clear hK K
        (try simp only [Act.put, List.setIfInBounds_toArray, List.set_cons_zero, List.set_cons_succ])
        refine wpAnyH_ready (rs := [10]) (by kernel_rfl) (by simp) ?_
        refine AllReadyH.cons (o := _) rfl (fun K hK => ?_) AllReadyH.nil
        go_simp
        refine (word_any w _ lo v4 (put8 L2 a xa) b xb (by have := put8_len L2 a xa; omega) hl5 hO5).mono ?_
        rintro e w7 ⟨v6, rfl, hO7, hS7, hl7⟩
        (try dsimp only)
        have hcv := own_str hO7
        refine hK.out _ _ ?_ (fun hHeld => ?_)
        · (try dsimp only)
          exact ⟨(same_cell hS7 hlw).trans ((same_cell hS5 hlw).trans o4), (same_cell hS7 hlw).trans ((same_cell hS5 hlw).trans o5), (same_cell hS7 hlg).trans ((same_cell hS5 hlg).trans x3), (same_cell hS7 hlg).trans ((same_cell hS5 hlg).trans x4)⟩
        clear hK K
        (try simp only [Act.put, List.setIfInBounds_toArray, List.set_cons_zero, List.set_cons_succ])
        refine wpAnyH_ready (rs := [11]) (by kernel_rfl) (by simp) ?_
        refine AllReadyH.cons (o := _) rfl (fun K hK => ?_) AllReadyH.nil
        go_simp
        refine hK.out _ _ ?_ (fun hHeld => ?_)
        · (try dsimp only)
          assumption
        clear hK K
        (try simp only [Act.put, List.setIfInBounds_toArray, List.set_cons_zero, List.set_cons_succ])
        refine wpAnyH_take (i := 12) (oi := ⟨some 2, _, _, _, _, _⟩) (v := ?_) rfl (by kernel_rfl) (by kernel_rfl) (by kernel_rfl) (fun _ _ _ h => h) (Or.inl ⟨by rfl, ?_⟩) (by assumption) ?_
        rotate_left
        · intro w' hSw
          (try dsimp only at hSw)
          first | (go_simp; done) | (go_simp; with_reducible rfl)
        (try simp only [Act.put, List.setIfInBounds_toArray, List.set_cons_zero, List.set_cons_succ])
        refine wpAnyH_done (by kernel_rfl) ?_ _
        (try simp only [Act.put, List.setIfInBounds_toArray, List.set_cons_zero, List.set_cons_succ])
        clear hcv
        go_wp2_with fail
        go_ret
        exact ⟨by rw [HL2.out]; first | rfl | (simp [Act.put, byt]; done) | (simp [Act.put, byt, go_sem]; done), hO7.2⟩
    · have hxf : xf = false := by cases xf <;> simp_all
      subst hxf
      go_wp2_with (first | ((with_reducible refine gate_dst (N := 15) rfl ?_); refine lit_own w lo (c % 256) rfl (by first | (go_simp; done) | (go_simp; rfl)) hBx hl0 hbase ?_; intro v1 w2 hO2 hS2 hl2; replace o0 := (same_cell hS2 hlw (i := 0)).trans o0; replace o1 := (same_cell hS2 hlw (i := 1)).trans o1; replace o2 := (same_cell hS2 hlw (i := 2)).trans o2; replace o3 := (same_cell hS2 hlw (i := 3)).trans o3; replace o4 := (same_cell hS2 hlw (i := 4)).trans o4; replace o5 := (same_cell hS2 hlw (i := 5)).trans o5; replace x0 := (same_cell hS2 hlg (i := 0)).trans x0; replace x1 := (same_cell hS2 hlg (i := 1)).trans x1; replace x2 := (same_cell hS2 hlg (i := 2)).trans x2; replace x3 := (same_cell hS2 hlg (i := 3)).trans x3; replace x4 := (same_cell hS2 hlg (i := 4)).trans x4; clear hS2 hBx hl0) | (go_at_call 43; refine (word_any w _ lo _ [c % 256] h xh (by simp) hl2 hO2).mono ?_; rintro e w3 ⟨v2, rfl, hO3, hS3, hl3⟩; replace o0 := (same_cell hS3 hlw (i := 0)).trans o0; replace o1 := (same_cell hS3 hlw (i := 1)).trans o1; replace o2 := (same_cell hS3 hlw (i := 2)).trans o2; replace o3 := (same_cell hS3 hlw (i := 3)).trans o3; replace o4 := (same_cell hS3 hlw (i := 4)).trans o4; replace o5 := (same_cell hS3 hlw (i := 5)).trans o5; replace x0 := (same_cell hS3 hlg (i := 0)).trans x0; replace x1 := (same_cell hS3 hlg (i := 1)).trans x1; replace x2 := (same_cell hS3 hlg (i := 2)).trans x2; replace x3 := (same_cell hS3 hlg (i := 3)).trans x3; replace x4 := (same_cell hS3 hlg (i := 4)).trans x4; clear hS3 hl2 hO2) | ((with_reducible refine gate_dst (N := 28) rfl ?_); refine app_own w lo 23 27 v2 (put8 [c % 256] h xh) (d % 256) rfl rfl rfl (by first | rfl | (go_simp; done)) hO3 hl3 (by omega) (by have := put8_len [c % 256] h xh; simp at this; omega) ?_; intro v3 w4 hO3' hS4 hl3'; replace o0 := (same_cell hS4 hlw (i := 0)).trans o0; replace o1 := (same_cell hS4 hlw (i := 1)).trans o1; replace o2 := (same_cell hS4 hlw (i := 2)).trans o2; replace o3 := (same_cell hS4 hlw (i := 3)).trans o3; replace o4 := (same_cell hS4 hlw (i := 4)).trans o4; replace o5 := (same_cell hS4 hlw (i := 5)).trans o5; replace x0 := (same_cell hS4 hlg (i := 0)).trans x0; replace x1 := (same_cell hS4 hlg (i := 1)).trans x1; replace x2 := (same_cell hS4 hlg (i := 2)).trans x2; replace x3 := (same_cell hS4 hlg (i := 3)).trans x3; replace x4 := (same_cell hS4 hlg (i := 4)).trans x4; clear hS4 hl3 hO3))
      have hO3 := hO3'
      have hl3 := hl3'
      clear hO3' hl3'
      obtain ⟨L2, hL2e⟩ : ∃ L2, L2 = put8 [c % 256] h xh ++ [d % 256] := ⟨_, rfl⟩
      rw [← hL2e] at hO3
      have hL2 : L2.length < 100 := by have := put8_len [c % 256] h xh; simp at this; rw [hL2e]; simp; omega
      have HL2 : Hid (L2 = mid c d f h xh true false) := Lib.hid (by rw [hL2e]; simp [mid])
      clear hL2e
      have hO4 := own_drew hO3
      have hl4 : lo ≤ w4.drew.heap.size := hl3
      clear hO3 hl3 o0 o1 o2 o3 x0 x1 x2
      refine wp_region_held_drew (S := (fun w' => w'.cell? ⟨w.heap.size, 4, none⟩ = some (.int .u64 a) ∧ w'.cell? ⟨w.heap.size, 5, none⟩ = some (.int .u64 b) ∧ w'.cell? ⟨g, 3, none⟩ = some (.bool xa) ∧ w'.cell? ⟨g, 4, none⟩ = some (.bool xb))) (by kernel_rfl) ?_ (fun hHeld => ?_)
      · (try dsimp only)
        exact ⟨o4, o5, x3, x4⟩
      refine wpAnyH_take (i := 0) (v := ?_) rfl (by kernel_rfl) (by kernel_rfl) (by kernel_rfl) (fun _ _ _ h => h) (Or.inl ⟨by rfl, ?_⟩) (by assumption) ?_
      rotate_left
      · intro w' hSw
        (try dsimp only at hSw)
        first | (go_simp; done) | (go_simp; with_reducible rfl)
      (try simp only [Act.put, List.setIfInBounds_toArray, List.set_cons_zero, List.set_cons_succ])
      refine wpAnyH_take (i := 1) (v := ?_) rfl (by kernel_rfl) (by kernel_rfl) (by kernel_rfl) (fun _ _ _ h => h) (Or.inl ⟨by rfl, ?_⟩) (by assumption) ?_
      rotate_left
      · intro w' hSw
        (try dsimp only at hSw)
        first | (go_simp; done) | (go_simp; with_reducible rfl)
      (try simp only [Act.put, List.setIfInBounds_toArray, List.set_cons_zero, List.set_cons_succ])
      refine wpAnyH_take (i := 2) (v := ?_) rfl (by kernel_rfl) (by kernel_rfl) (by kernel_rfl) (fun _ _ _ h => h) (Or.inl ⟨by rfl, ?_⟩) (by assumption) ?_
      rotate_left
      · intro w' hSw
        (try dsimp only at hSw)
        first | (go_simp; done) | (go_simp; with_reducible rfl)
      (try simp only [Act.put, List.setIfInBounds_toArray, List.set_cons_zero, List.set_cons_succ])
      refine wpAnyH_take (i := 3) (v := ?_) rfl (by kernel_rfl) (by kernel_rfl) (by kernel_rfl) (fun _ _ _ h => h) (Or.inl ⟨by rfl, ?_⟩) (by assumption) ?_
      rotate_left
      · intro w' hSw
        (try dsimp only at hSw)
        first | (go_simp; done) | (go_simp; with_reducible rfl)
      (try simp only [Act.put, List.setIfInBounds_toArray, List.set_cons_zero, List.set_cons_succ])
      refine wpAnyH_take (i := 4) (v := ?_) rfl (by kernel_rfl) (by kernel_rfl) (by kernel_rfl) (fun _ _ _ h => h) (Or.inl ⟨by rfl, ?_⟩) (by assumption) ?_
      rotate_left
      · intro w' hSw
        (try dsimp only at hSw)
        first | (go_simp; done) | (go_simp; with_reducible rfl)
      (try simp only [Act.put, List.setIfInBounds_toArray, List.set_cons_zero, List.set_cons_succ])
      refine wpAnyH_take (i := 6) (v := ?_) rfl (by kernel_rfl) (by kernel_rfl) (by kernel_rfl) (fun _ _ _ h => h) (Or.inl ⟨by rfl, ?_⟩) (by assumption) ?_
      rotate_left
      · intro w' hSw
        (try dsimp only at hSw)
        first | (go_simp; done) | (go_simp; with_reducible rfl)
      (try simp only [Act.put, List.setIfInBounds_toArray, List.set_cons_zero, List.set_cons_succ])
      refine wpAnyH_take (i := 7) (v := ?_) rfl (by kernel_rfl) (by kernel_rfl) (by kernel_rfl) (fun _ _ _ h => h) (Or.inl ⟨by rfl, ?_⟩) (by assumption) ?_
      rotate_left
      · intro w' hSw
        (try dsimp only at hSw)
        first | (go_simp; done) | (go_simp; with_reducible rfl)
      (try simp only [Act.put, List.setIfInBounds_toArray, List.set_cons_zero, List.set_cons_succ])
      refine wpAnyH_take (i := 8) (v := ?_) rfl (by kernel_rfl) (by kernel_rfl) (by kernel_rfl) (fun _ _ _ h => h) (Or.inl ⟨by rfl, ?_⟩) (by assumption) ?_
      rotate_left
      · intro w' hSw
        (try dsimp only at hSw)
        first | (go_simp; done) | (go_simp; with_reducible rfl)
      (try simp only [Act.put, List.setIfInBounds_toArray, List.set_cons_zero, List.set_cons_succ])
      refine wpAnyH_take (i := 9) (v := ?_) rfl (by kernel_rfl) (by kernel_rfl) (by kernel_rfl) (fun _ _ _ h => h) (Or.inl ⟨by rfl, ?_⟩) (by assumption) ?_
      rotate_left
      · intro w' hSw
        (try dsimp only at hSw)
        first | (go_simp; done) | (go_simp; with_reducible rfl)
      (try simp only [Act.put, List.setIfInBounds_toArray, List.set_cons_zero, List.set_cons_succ])
      refine wpAnyH_ready (rs := [5]) (by kernel_rfl) (by simp) ?_
      refine AllReadyH.cons (o := _) rfl (fun K hK => ?_) AllReadyH.nil
      go_simp
      refine (word_any w _ lo v3 L2 a xa (by omega) hl4 hO4).mono ?_
      rintro e w5 ⟨v4, rfl, hO5, hS5, hl5⟩
      (try dsimp only)
      refine hK.out _ _ ?_ (fun hHeld => ?_)
      · (try dsimp only)
        exact ⟨(same_cell hS5 hlw).trans o4, (same_cell hS5 hlw).trans o5, (same_cell hS5 hlg).trans x3, (same_cell hS5 hlg).trans x4⟩
      clear hK K
      (try simp only [Act.put, List.setIfInBounds_toArray, List.set_cons_zero, List.set_cons_succ])
      refine wpAnyH_ready (rs := [10]) (by kernel_rfl) (by simp) ?_
      refine AllReadyH.cons (o := _) rfl (fun K hK => ?_) AllReadyH.nil
      go_simp
      refine (word_any w _ lo v4 (put8 L2 a xa) b xb (by have := put8_len L2 a xa; omega) hl5 hO5).mono ?_
      rintro e w7 ⟨v6, rfl, hO7, hS7, hl7⟩
      (try dsimp only)
      have hcv := own_str hO7
      refine hK.out _ _ ?_ (fun hHeld => ?_)
      · (try dsimp only)
        exact ⟨(same_cell hS7 hlw).trans ((same_cell hS5 hlw).trans o4), (same_cell hS7 hlw).trans ((same_cell hS5 hlw).trans o5), (same_cell hS7 hlg).trans ((same_cell hS5 hlg).trans x3), (same_cell hS7 hlg).trans ((same_cell hS5 hlg).trans x4)⟩
      clear hK K
      (try simp only [Act.put, List.setIfInBounds_toArray, List.set_cons_zero, List.set_cons_succ])
      refine wpAnyH_ready (rs := [11]) (by kernel_rfl) (by simp) ?_
      refine AllReadyH.cons (o := _) rfl (fun K hK => ?_) AllReadyH.nil
      go_simp
      refine hK.out _ _ ?_ (fun hHeld => ?_)
      · (try dsimp only)
        assumption
      clear hK K
      (try simp only [Act.put, List.setIfInBounds_toArray, List.set_cons_zero, List.set_cons_succ])
      refine wpAnyH_take (i := 12) (oi := ⟨some 2, _, _, _, _, _⟩) (v := ?_) rfl (by kernel_rfl) (by kernel_rfl) (by kernel_rfl) (fun _ _ _ h => h) (Or.inl ⟨by rfl, ?_⟩) (by assumption) ?_
      rotate_left
      · intro w' hSw
        (try dsimp only at hSw)
        first | (go_simp; done) | (go_simp; with_reducible rfl)
      (try simp only [Act.put, List.setIfInBounds_toArray, List.set_cons_zero, List.set_cons_succ])
      refine wpAnyH_done (by kernel_rfl) ?_ _
      (try simp only [Act.put, List.setIfInBounds_toArray, List.set_cons_zero, List.set_cons_succ])
      clear hcv
      go_wp2_with fail
      go_ret
      exact ⟨by rw [HL2.out]; first | rfl | (simp [Act.put, byt]; done) | (simp [Act.put, byt, go_sem]; done), hO7.2⟩
end Giv3
def decode_Bytes.f (a0_0 : Int) (a0_1 : Int) (a0_2 : Int) (a0_3 : Int) (a0_4 : Int) (a0_5 : Int) : Option (ByteArray) :=
  some (if Giv.OpF a0_0 a0_1 a0_2 a0_3 a0_4 a0_5 then strOfNums (Giv3.byt a0_0 a0_1 a0_2 a0_3 a0_4 a0_5 (Giv.askh a0_0) (Giv.askd a0_0) (Giv.askf a0_0) (Giv.aska a0_0) (Giv.askb a0_0)) else ⟨#[]⟩)
theorem decode_Bytes.calls (a0_0 : Int) (a0_1 : Int) (a0_2 : Int) (a0_3 : Int) (a0_4 : Int) (a0_5 : Int) (r : ByteArray) (w : World) (h : decode_Bytes.f a0_0 a0_1 a0_2 a0_3 a0_4 a0_5 = some r) :
    Calls Try.prog 15 #[.agg #[.int .i64 a0_0, .int .i64 a0_1, .int .i64 a0_2, .int .u64 a0_3, .int .u64 a0_4, .int .u64 a0_5]] w fun e w' => e = .returned (.string r) ∧ Below w.heap.size w w' := by
  obtain rfl := Option.some.inj h
  by_cases hF : Giv.OpF a0_0 a0_1 a0_2 a0_3 a0_4 a0_5
  · rw [if_pos hF]
    refine Giv3.bytes_yes a0_0 a0_1 a0_2 a0_3 a0_4 a0_5 _ _ _ _ _ w ?_ (by unfold decode_Formed.f; rw [decide_eq_true hF]) (Giv.index_tab a0_0 hF.1.1 hF.1.2.1)
    rintro ⟨h1, h2⟩
    unfold Giv.askd at h1
    unfold Giv.askf at h2
    simp only [decide_eq_true_eq] at h1 h2
    omega
  · rw [if_neg hF]
    exact Giv3.bytes_no a0_0 a0_1 a0_2 a0_3 a0_4 a0_5 w (by unfold decode_Formed.f; rw [decide_eq_false hF])

/-! ### cubiclelaw18_awake: function 11 -/
def cubiclelaw18_awake.f  : Option (Bool) := (decode_Bytes.f 8 3 0 0 0 0).bind fun t104 => (if t104.toList = ([8, 3] : List UInt8) then ((decode_Formed.f 1 0 0 0 0 0).bind fun t105 => (some t105)) else (some false))
set_option maxHeartbeats 8000000 in
set_option maxRecDepth 100000 in
theorem cubiclelaw18_awake.calls  (r : Bool) (w : World) (h : cubiclelaw18_awake.f  = some r) :
    Calls Try.prog 11 #[] w fun e w' => e = .returned (.bool r) ∧ Below w.heap.size w w' := by
  have hu25 := Try.underlying25
  have HB := Aside0.mk (Below.refl w.heap.size w)
  have H : ((decode_Bytes.f 8 3 0 0 0 0).bind fun t104 => (if t104.toList = ([8, 3] : List UInt8) then ((decode_Formed.f 1 0 0 0 0 0).bind fun t105 => (some t105)) else (some false))) = some r := h
  clear h
  replace H := Option.bind_eq_some_iff.mp H
  obtain ⟨t104, A10, H⟩ := H
  replace H : (if t104.toList = ([8, 3] : List UInt8) then ((decode_Formed.f 1 0 0 0 0 0).bind fun t105 => (some t105)) else (some false)) = some r := H
  have A1 := Aside0.mk A10
  clear A10
  by_cases c2 : t104.toList = ([8, 3] : List UInt8)
  · rw [if_pos c2] at H
    have c2b0 : (t104.toList == ([8, 3] : List UInt8)) = true := beq_iff_eq.mpr c2
    have c2b1 : (t104.toList != ([8, 3] : List UInt8)) = false := bne_eq_false_iff_eq.mpr c2
    clear c2
    replace H := Option.bind_eq_some_iff.mp H
    obtain ⟨t105, A30, H⟩ := H
    replace H : (some t105) = some r := H
    have A3 := Aside0.mk A30
    clear A30
    obtain rfl := Option.some.inj H
    go_enter Try.func11, Try.ntmps11
    go_wp2_with (first | ((with_reducible refine gate_callee (f := 15) rfl ?_); refine goesL_ (some 2) rfl rfl Try.func15 (by kernel_rfl) rfl #[.agg #[.int .i64 8, .int .i64 3, .int .i64 0, .int .u64 0, .int .u64 0, .int .u64 0]] rfl (by (try simp only [List.map_toArray, List.map_cons, List.map_nil]); first | done | rfl | (simp only [List.length_drop, List.length_take]; rfl)) ?_; (with_reducible refine (decode_Bytes.calls 8 3 0 0 0 0 t104 _ A1.out).mono ?_); rintro e w4 ⟨rfl, hb⟩; refine ⟨_, rfl, ?_⟩; have n0_ := Aside0.mk (below_step (by repeat (first | (with_reducible first | exact HB.out | apply below_alloc | apply pw_below_drewN | apply below_drew1) | exact HB.out)) hb); clear HB; have HB := n0_; clear n0_; (try clear hb); (try clear hb2); (try clear hk); (try clear hi)) | (go_at_call 35; (with_reducible refine (decode_Formed.calls 1 0 0 0 0 0 t105 _ A3.out).mono ?_); rintro e w5 ⟨rfl, hb⟩; have n0_ := Aside0.mk (below_step (by repeat (first | (with_reducible first | exact HB.out | apply below_alloc | apply pw_below_drewN | apply below_drew1) | exact HB.out)) hb); clear HB; have HB := n0_; clear n0_; (try clear hb); (try clear hb2); (try clear hk); (try clear hi)))
    go_ret
    exact ⟨by first | rfl | (simp [errW_none, errW_some] <;> rfl) | (simp [*, errW_none, errW_some] <;> rfl), by repeat (first | (with_reducible first | exact HB.out | apply below_alloc | apply pw_below_drewN | apply below_drew1) | exact HB.out)⟩
  · rw [if_neg c2] at H
    have c2b0 : (t104.toList == ([8, 3] : List UInt8)) = false := beq_eq_false_iff_ne.mpr c2
    have c2b1 : (t104.toList != ([8, 3] : List UInt8)) = true := bne_iff_ne.mpr c2
    obtain rfl := Option.some.inj H
    go_enter Try.func11, Try.ntmps11
    go_wp2_with (first | ((with_reducible refine gate_callee (f := 15) rfl ?_); refine goesL_ (some 2) rfl rfl Try.func15 (by kernel_rfl) rfl #[.agg #[.int .i64 8, .int .i64 3, .int .i64 0, .int .u64 0, .int .u64 0, .int .u64 0]] rfl (by (try simp only [List.map_toArray, List.map_cons, List.map_nil]); first | done | rfl | (simp only [List.length_drop, List.length_take]; rfl)) ?_; (with_reducible refine (decode_Bytes.calls 8 3 0 0 0 0 t104 _ A1.out).mono ?_); rintro e w6 ⟨rfl, hb⟩; refine ⟨_, rfl, ?_⟩; have n0_ := Aside0.mk (below_step (by repeat (first | (with_reducible first | exact HB.out | apply below_alloc | apply pw_below_drewN | apply below_drew1) | exact HB.out)) hb); clear HB; have HB := n0_; clear n0_; (try clear hb); (try clear hb2); (try clear hk); (try clear hi)))
    go_ret
    exact ⟨by first | rfl | (simp [errW_none, errW_some] <;> rfl) | (simp [*, errW_none, errW_some] <;> rfl), by repeat (first | (with_reducible first | exact HB.out | apply below_alloc | apply pw_below_drewN | apply below_drew1) | exact HB.out)⟩

end Go.Proofs.Ytdmiingneodcbaa.PDecodeOf
