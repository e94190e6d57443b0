-- Laid by a program of this session, which builds on the kit's print: it takes some functions' texts as they are given to it.
import Derived.Test.YtdmiingneodcbaaPDecodeOfx0
import Derived.Test.YtdmiingneodcbaaPDecodeOfx2
namespace Go.Proofs.Ytdmiingneodcbaa.PDecodeOf
open Go.RowKit Go.Proofs.YtdmiingneodcbaaW.PrintWords Go.Proofs.YtdmiingneodcbaaW.PrintLast Go.Proofs.YtdmiingneodcbaaW.PrintMore
attribute [local go_sem] max2_int min2_int max_two min_two max_three min_three max_four min_four   -- for this text's walks alone
set_option linter.unusedVariables false
set_option linter.unusedSimpArgs false

/-- A state of type 59 at block g of W; what its slices lead to came in by w0. -/
def IsS59 (w0 W : World) (g : Nat) (f0 : ByteArray) (f1 : Bool) : Prop := W.heap[g]? = some (.cells #[.string f0, .bool f1] 59 (0, 0)) ∧ w0.heap.size ≤ g
theorem IsS59.grown {w0 W : World} {g : Nat} {f0 : ByteArray} {f1 : Bool} {W1 : World} {row : Option Nat} (h : IsS59 w0 W g f0 f1) (hw : W.grownBy W1 row) (hne : some g ≠ row) : IsS59 w0 W1 g f0 f1 := by
  obtain ⟨hb, hg⟩ := h
  exact ⟨blk_grown hb hw hne, hg⟩
theorem IsS59.own_neN {w0 W : World} {g : Nat} {f0 : ByteArray} {f1 : Bool} {α : Type} {d : Kd α} {e : Nat} {base : Nat} {ok : Nat → Prop} {v : Value} {xs : List α} (h : IsS59 w0 W g f0 f1) (ho : Kd.N d e W base ok v xs) (ht : e ≠ 59) : some g ≠ v.ownBlock := by
  obtain ⟨hb, hg⟩ := h
  exact Kd.N_ne ho hb ht
theorem IsS59.fresh {w0 W : World} {g : Nat} {f0 : ByteArray} {f1 : Bool} (h : IsS59 w0 W g f0 f1) : ∀ k, W.heap.size ≤ k → k ≠ g := by
  obtain ⟨hb, hg⟩ := h
  exact Kd.freshB hb
theorem IsS59.kept {w0 W : World} {g : Nat} {f0 : ByteArray} {f1 : Bool} {W1 : World} {S : Nat → Prop} (h : IsS59 w0 W g f0 f1) (hk : Kept W W1 S) (hne : ¬ S g) : IsS59 w0 W1 g f0 f1 := by
  obtain ⟨hb, hg⟩ := h
  exact ⟨blk_kept hb hk hne, hg⟩
theorem IsS59.below {w0 W : World} {g : Nat} {f0 : ByteArray} {f1 : Bool} {W1 : World} (h : IsS59 w0 W g f0 f1) (hw : Below W.heap.size W W1) : IsS59 w0 W1 g f0 f1 := h.grown (grown_of_below hw none) (by simp)
theorem IsS59.alloc {w0 W : World} {g : Nat} {f0 : ByteArray} {f1 : Bool} (h : IsS59 w0 W g f0 f1) (o : Obj) : IsS59 w0 (W.alloc o) g f0 f1 := h.below (below_alloc (Below.refl _ _) o)
theorem IsS59.drewN {w0 W : World} {g : Nat} {f0 : ByteArray} {f1 : Bool} (h : IsS59 w0 W g f0 f1) (m : Nat) : IsS59 w0 (W.drewN m) g f0 f1 := h
theorem IsS59.drew {w0 W : World} {g : Nat} {f0 : ByteArray} {f1 : Bool} (h : IsS59 w0 W g f0 f1) : IsS59 w0 W.drew g f0 f1 := h
theorem IsS59.at_ {w0 W : World} {g : Nat} {f0 : ByteArray} {f1 : Bool} {w' : World} {m : Nat} (hq : W.drewN m = w') (h : IsS59 w0 W g f0 f1) : IsS59 w0 w' g f0 f1 := by subst hq; exact IsS59.drewN h m
theorem IsS59.apart {w0 W : World} {g : Nat} {f0 : ByteArray} {f1 : Bool} {α : Type} {d : Kd α} {e : Nat} {base : Nat} {ok : Nat → Prop} {v : Value} {xs : List α} (h : IsS59 w0 W g f0 f1) (ho : d.R e W base ok v xs) (ht : ∀ q, q ∈ e :: d.E → q ≠ 59) : d.R e W base (fun k => ok k ∧ k ≠ g) v xs := by
  obtain ⟨hb, hg⟩ := h
  exact Kd.R_types ho hb ht
theorem IsS59.own_ne {w0 W : World} {g : Nat} {f0 : ByteArray} {f1 : Bool} {α : Type} {d : Kd α} {e : Nat} {base : Nat} {ok : Nat → Prop} {v : Value} {xs : List α} (h : IsS59 w0 W g f0 f1) (ho : d.R e W base ok v xs) (ht : e ≠ 59) : some g ≠ v.ownBlock := by
  obtain ⟨hb, hg⟩ := h
  exact Kd.R_ne ho hb ht
theorem IsS59.apartQ {w0 W : World} {g : Nat} {f0 : ByteArray} {f1 : Bool} {α : Type} {d : Kd α} {e : Nat} {base : Nat} {ok : Nat → Prop} {v : Value} {xs : List α} (h : IsS59 w0 W g f0 f1) (ho : d.Q e W base ok v xs) (ht : ∀ q, q ∈ e :: d.E → q ≠ 59) : d.Q e W base (fun k => ok k ∧ k ≠ g) v xs := by
  obtain ⟨hb, hg⟩ := h
  exact Kd.Q_types ho hb ht
theorem IsS59.own_neQ {w0 W : World} {g : Nat} {f0 : ByteArray} {f1 : Bool} {α : Type} {d : Kd α} {e : Nat} {base : Nat} {ok : Nat → Prop} {v : Value} {xs : List α} (h : IsS59 w0 W g f0 f1) (ho : d.Q e W base ok v xs) (ht : e ≠ 59) : some g ≠ v.ownBlock := by
  obtain ⟨hb, hg⟩ := h
  exact Kd.Q_ne ho hb ht
theorem IsS59.apartS {w0 W : World} {g : Nat} {f0 : ByteArray} {f1 : Bool} {α : Type} {d : Kd α} {e : Nat} {base : Nat} {ok : Nat → Prop} {v : Value} {xs : List α} (h : IsS59 w0 W g f0 f1) (ho : d.S e W base ok v xs) (ht : ∀ q, q ∈ e :: d.E → q ≠ 59) : d.S e W base (fun k => ok k ∧ k ≠ g) v xs := by
  obtain ⟨hb, hg⟩ := h
  exact Kd.S_types ho hb ht
theorem IsS59.own_neS {w0 W : World} {g : Nat} {f0 : ByteArray} {f1 : Bool} {α : Type} {d : Kd α} {e : Nat} {base : Nat} {ok : Nat → Prop} {v : Value} {xs : List α} (h : IsS59 w0 W g f0 f1) (ho : d.S e W base ok v xs) (ht : e ≠ 59) : some g ≠ v.ownBlock := by
  obtain ⟨hb, hg⟩ := h
  exact Kd.S_ne ho hb ht
theorem IsS59.lt {w0 W : World} {g : Nat} {f0 : ByteArray} {f1 : Bool} (h : IsS59 w0 W g f0 f1) : g < W.heap.size := by
  obtain ⟨hb, hg⟩ := h
  exact blk_lt hb
theorem IsS59.ge {w0 W : World} {g : Nat} {f0 : ByteArray} {f1 : Bool} (h : IsS59 w0 W g f0 f1) : w0.heap.size ≤ g := by
  obtain ⟨hb, hg⟩ := h
  exact hg
theorem IsS59.ne_blk {w0 W : World} {g : Nat} {f0 : ByteArray} {f1 : Bool} {a : Nat} {cs : Array Value} {t : TypeId} {fr : Nat × Nat} (h : IsS59 w0 W g f0 f1) (hb2 : W.heap[a]? = some (.cells cs t fr)) (ht : t ≠ 59) : g ≠ a := by
  obtain ⟨hb, hg⟩ := h
  rintro rfl
  rw [hb] at hb2
  injection hb2 with hb2
  injection hb2 with _ ht2
  exact ht ht2.symm
theorem IsS59.far {w0 W : World} {g : Nat} {f0 : ByteArray} {f1 : Bool} {p : Addr} (h : IsS59 w0 W g f0 f1) (hne : g ≠ p.block) (u : Value) : IsS59 w0 (W.setCell p u) g f0 f1 := by
  obtain ⟨hb, hg⟩ := h
  exact ⟨blk_far hb hne u, hg⟩
theorem cellS59_0 {W : World} {g : Nat} {f0 : ByteArray} {f1 : Bool} (h : W.heap[g]? = some (.cells #[.string f0, .bool f1] 59 (0, 0))) : W.cell? ⟨g, 0, none⟩ = some (.string f0) := (blk_cell h 0).trans rfl
theorem IsS59.set_0 {w0 W : World} {g : Nat} {f0 : ByteArray} {f1 : Bool} (h : IsS59 w0 W g f0 f1) (x : ByteArray) : IsS59 w0 (W.setCell ⟨g, 0, none⟩ (.string x)) g x f1 := by
  obtain ⟨hb, hg⟩ := h
  exact ⟨by simpa using blk_set hb 0 (.string x), hg⟩
theorem cellS59_1 {W : World} {g : Nat} {f0 : ByteArray} {f1 : Bool} (h : W.heap[g]? = some (.cells #[.string f0, .bool f1] 59 (0, 0))) : W.cell? ⟨g, 1, none⟩ = some (.bool f1) := (blk_cell h 1).trans rfl
theorem IsS59.set_1 {w0 W : World} {g : Nat} {f0 : ByteArray} {f1 : Bool} (h : IsS59 w0 W g f0 f1) (x : Bool) : IsS59 w0 (W.setCell ⟨g, 1, none⟩ (.bool x)) g f0 x := by
  obtain ⟨hb, hg⟩ := h
  exact ⟨by simpa using blk_set hb 1 (.bool x), hg⟩
theorem IsS59.new (w0 W : World) (f0 : ByteArray) (f1 : Bool) (hB : Below w0.heap.size w0 W) : IsS59 w0 (W.alloc (.cells #[.string f0, .bool f1] 59)) W.heap.size f0 f1 := ⟨by simpa using heap_alloc_new W _, hB.size⟩

/-! ### decode_reader_take: function 36 -/
def decode_reader_take.l0 : Nat → Int → Int → Int → Int → ByteArray → Bool → Option (Int × ByteArray × Bool)
  | 0, _, _, _, _, _, _ => none
  | k + 1, x1, x7, x21, x22, x1000, x1001 => if x22 < x21 then (if 0 ≤ x22 then (if x22 < (x1000.size : Int) then (if 0 ≤ (wrap64 (8 * x22)) then (decode_reader_take.l0 k x1 (Go.bits .or .u64 x7 (shl .u64 (IntKind.u64.wrap (bt x1000 x22)) (wrap64 (8 * x22)))) x21 (wrap64 (x22 + 1)) x1000 x1001) else (none)) else (none)) else (none)) else (if 0 ≤ x1 then (if x1 ≤ (x1000.size : Int) then (some (x7, x1000.extract (x1 : Int).toNat x1000.size, x1001)) else (none)) else (none))
def decode_reader_take.f (k : Nat) (s0_0 : ByteArray) (s0_1 : Bool) (a1 : Int) (a2 : Bool) : Option (Int × ByteArray × Bool) := if a2 = true then (if (s0_0.size : Int) < a1 then (some (0, s0_0, true)) else (decode_reader_take.l0 k a1 0 a1 0 s0_0 s0_1)) else (some (0, s0_0, s0_1))
theorem decode_reader_take.mono_l : ∀ k, (∀ y0 y1 y2 y3 y4 y5, LeO (decode_reader_take.l0 k y0 y1 y2 y3 y4 y5) (decode_reader_take.l0 (k + 1) y0 y1 y2 y3 y4 y5))
  | 0 => fun _ _ _ _ _ _ r h => by simp [decode_reader_take.l0] at h
  | k + 1 => by
    have ih0 := decode_reader_take.mono_l k
    · intro y0 y1 y2 y3 y4 y5
      unfold decode_reader_take.l0
      repeat' first
      | (with_reducible exact ih0 _ _ _ _ _ _)
      | (with_reducible exact LeO.refl _)
      | (with_reducible exact LeO.none _)
      | (with_reducible refine LeO.ite ?_ ?_)
      | (with_reducible refine LeO.bind ?_ (fun _ => ?_))
      | exact ih0 _ _ _ _ _ _
      | exact LeO.none _
      | refine LeO.ite ?_ ?_
      | refine LeO.bind ?_ (fun _ => ?_)
theorem decode_reader_take.mono : ∀ a0 a1 a2 a3 k, LeO (decode_reader_take.f k a0 a1 a2 a3) (decode_reader_take.f (k + 1) a0 a1 a2 a3) := by
  intro a0 a1 a2 a3 k
  have ih0 := decode_reader_take.mono_l k
  unfold decode_reader_take.f
  repeat' first
      | (with_reducible exact ih0 _ _ _ _ _ _)
      | (with_reducible exact LeO.refl _)
      | (with_reducible exact LeO.none _)
      | (with_reducible refine LeO.ite ?_ ?_)
      | (with_reducible refine LeO.bind ?_ (fun _ => ?_))
      | exact ih0 _ _ _ _ _ _
      | exact LeO.none _
      | refine LeO.ite ?_ ?_
      | refine LeO.bind ?_ (fun _ => ?_)
set_option maxHeartbeats 8000000 in
set_option maxRecDepth 100000 in
theorem decode_reader_take.calls (k : Nat) (g : Nat) (s0_0 : ByteArray) (s0_1 : Bool) (a1 : Int) (a2 : Bool) (r1 : Int) (r2 : ByteArray) (r3 : Bool) (w0 w : World) (hI : IsS59 w0 w g s0_0 s0_1) (hB : Below w0.heap.size w0 w) (h : decode_reader_take.f k s0_0 s0_1 a1 a2 = some (r1, r2, r3)) :
    Calls Try.prog 36 #[.pointer (some ⟨g, 0, none⟩), .int .i64 a1, .bool a2] w fun e w' => e = .returned (.int .u64 r1) ∧ IsS59 w0 w' g r2 r3 ∧ Below w0.heap.size w0 w' ∧ KeepBut w w' g none := by
  have HI0 := Aside0.mk hI
  have HK := Aside0.mk (KeepBut.refl w g none)
  have HL := Aside0.mk hB.size
  clear hI
  have HW0 := Aside0.mk hB.size
  have HB := Aside0.mk hB
  clear hB
  have H : (if a2 = true then (if (s0_0.size : Int) < a1 then (some (0, s0_0, true)) else (decode_reader_take.l0 k a1 0 a1 0 s0_0 s0_1)) else (some (0, s0_0, s0_1))) = some (r1, r2, r3) := h
  clear h
  by_cases c4 : a2 = true
  · subst c4
    have H1 : (if (s0_0.size : Int) < a1 then (some (0, s0_0, true)) else (decode_reader_take.l0 k a1 0 a1 0 s0_0 s0_1)) = some (r1, r2, r3) := by rw [if_pos rfl] at H; exact H
    clear H
    have H := H1
    clear H1
    by_cases c5 : (s0_0.size : Int) < a1
    · rw [if_pos c5] at H
      have c5b0 : decide ((s0_0.size : Int) < a1) = true := decide_eq_true c5
      clear c5
      simp only [Option.some.injEq, Prod.mk.injEq] at H
      obtain ⟨rfl, rfl, rfl⟩ := H
      obtain ⟨HGz6, hgz6⟩ := HI0.out
      have hcz6_0 := cellS59_0 HGz6
      have hcz6_1 := cellS59_1 HGz6
      have hfz6_0 := blk_frozen HGz6 0
      have hfz6_1 := blk_frozen HGz6 1
      clear HGz6 hgz6
      go_enter Try.func36, Try.ntmps36
      go_wp2
      go_ret
      exact ⟨by first | rfl | (simp [errW_none, errW_some] <;> rfl) | (simp [*, errW_none, errW_some] <;> rfl), by repeat (first | (with_reducible first | exact HI0.out | apply IsS59.alloc | apply IsS59.drewN | apply IsS59.drew | apply IsS59.set_0 | apply IsS59.set_1) | exact HI0.out), by repeat (first | (with_reducible first | exact HB.out | apply below_alloc | apply pw_below_drewN | apply below_drew1 | refine below_set ?_ (IsS59.ge HI0.out)) | exact HB.out), by repeat (first | (with_reducible first | exact HK.out | apply KeepBut.set_ | apply keep_drewN | apply keep_drew | apply keep_alloc) | exact HK.out)⟩
    · rw [if_neg c5] at H
      have c5b0 : decide ((s0_0.size : Int) < a1) = false := decide_eq_false c5
      clear c5
      have H' := Aside0.mk H
      clear H
      obtain ⟨HGz7, hgz7⟩ := HI0.out
      have hcz7_0 := cellS59_0 HGz7
      have hcz7_1 := cellS59_1 HGz7
      have hfz7_0 := blk_frozen HGz7 0
      have hfz7_1 := blk_frozen HGz7 1
      clear HGz7 hgz7
      go_enter Try.func36, Try.ntmps36
      go_wp2
      go_loopg [7, 22] k (fun kq v7 v22 w' => ∃ (x7_1 : Int) (x22_1 : Int), v7 = .int .u64 x7_1 ∧ v22 = .int .i64 x22_1 ∧ Aside0 (decode_reader_take.l0 kq a1 x7_1 a1 x22_1 s0_0 s0_1 = some (r1, r2, r3)) ∧ Aside0 (kq ≤ k) ∧ Aside0 (IsS59 w0 w' g s0_0 s0_1) ∧ Aside0 (KeepBut w w' g none) ∧ Aside0 (Below w0.heap.size w0 w'))
      case atStart => exact ⟨(0), (0), (by first | rfl | (simp; done) | (simp [*]; done)), (by first | rfl | (simp; done) | (simp [*]; done)), H', ⟨Nat.le_refl _⟩, ⟨by repeat (first | (with_reducible first | exact HI0.out | apply IsS59.alloc | apply IsS59.drewN | apply IsS59.drew | apply IsS59.set_0 | apply IsS59.set_1) | exact HI0.out)⟩, ⟨by repeat (first | (with_reducible first | exact HK.out | apply KeepBut.set_ | apply keep_drewN | apply keep_drew | apply keep_alloc) | exact HK.out)⟩, ⟨by repeat (first | (with_reducible first | exact HB.out | apply below_alloc | apply pw_below_drewN | apply below_drew1 | refine below_set ?_ (IsS59.ge HI0.out)) | exact HB.out)⟩⟩
      case round =>
        clear H'
        try clear p2
        try clear c3
        try clear c4
        try clear c5
        try clear c5b0
        try clear hcz6_0
        try clear hcz6_1
        try clear hcz7_0
        try clear hcz7_1
        try clear hfz6_0
        try clear hfz6_1
        try clear hfz7_0
        try clear hfz7_1
        obtain ⟨x7_1, x22_1, rfl, rfl, HA, HK1, HI0, HK, HB⟩ := hrel
        cases gk with
        | zero => exact absurd HA.out (by simp [decode_reader_take.l0])
        | succ k1 =>
          have H := HA.out
          clear HA
          simp only [decode_reader_take.l0] at H
          by_cases c8 : x22_1 < a1
          · rw [if_pos c8] at H
            have c8b0 : decide (x22_1 < a1) = true := decide_eq_true c8
            clear c8
            by_cases c9 : 0 ≤ x22_1
            · rw [if_pos c9] at H
              have c9b0 : decide (0 ≤ x22_1) = true := decide_eq_true c9
              clear c9
              by_cases c10 : x22_1 < (s0_0.size : Int)
              · rw [if_pos c10] at H
                have c10b0 : decide (x22_1 < (s0_0.size : Int)) = true := decide_eq_true c10
                clear c10
                obtain ⟨ji12, hji12⟩ : ∃ j_ : Int, (wrap64 (8 * x22_1)) = j_ := ⟨_, rfl⟩
                replace H : (if 0 ≤ (ji12) then (decode_reader_take.l0 k1 a1 (Go.bits .or .u64 x7_1 (shl .u64 (IntKind.u64.wrap (bt s0_0 x22_1)) (ji12))) a1 (wrap64 (x22_1 + 1)) s0_0 s0_1) else (none)) = some (r1, r2, r3) := by first | (rw [hji12] at H; exact H) | (simp only [hji12] at H ⊢; exact H)
                have hji12w : (IntKind.i64.wrap (8 * x22_1)) = ji12 := (i64_w _).trans hji12
                by_cases c13 : 0 ≤ (ji12)
                · rw [if_pos c13] at H
                  have c13b0 := eq_true c13
                  have c13b1 : decide (0 ≤ (ji12)) = true := decide_eq_true c13
                  clear c13
                  obtain ⟨ji14, hji14⟩ : ∃ j_ : Int, (shl .u64 (IntKind.u64.wrap (bt s0_0 x22_1)) (ji12)) = j_ := ⟨_, rfl⟩
                  replace H : (decode_reader_take.l0 k1 a1 (Go.bits .or .u64 x7_1 (ji14)) a1 (wrap64 (x22_1 + 1)) s0_0 s0_1) = some (r1, r2, r3) := by first | (rw [hji14] at H; exact H) | (simp only [hji14] at H ⊢; exact H)
                  have hji14_ : (IntKind.u64.wrap ((IntKind.u64.wrap (bt s0_0 x22_1)) * 2 ^ min (ji12).toNat 64)) = ji14 := hji14
                  have hji14z : (ji12) ≤ 64 → (IntKind.u64.wrap ((IntKind.u64.wrap (bt s0_0 x22_1)) * 2 ^ (ji12).toNat)) = ji14 := shl_small hji14
                  have H' := Aside0.mk H
                  clear H
                  obtain ⟨HGz15, hgz15⟩ := HI0.out
                  have hcz15_0 := cellS59_0 HGz15
                  have hcz15_1 := cellS59_1 HGz15
                  have hfz15_0 := blk_frozen HGz15 0
                  have hfz15_1 := blk_frozen HGz15 1
                  clear HGz15 hgz15
                  have p11 : 0 ≤ (x22_1 : Int) := of_decide_eq_true (by first | (with_reducible assumption) | assumption)
                  have q11 : x22_1 < (s0_0.size : Int) := of_decide_eq_true (by first | (with_reducible assumption) | assumption)
                  have hx11 := bt_at s0_0 x22_1
                  replace p11 := eq_true p11
                  replace q11 := eq_true q11
                  go_wp2
                  go_roundg k1
                  case measure => have := HK1.out; omega
                  case rel => exact ⟨(Go.bits .or .u64 x7_1 (ji14)), (wrap64 (x22_1 + 1)), (by first | rfl | (simp; done) | (simp only [← hji14] <;> (first | rfl | simp)) | (simp [*]; done)), (by first | rfl | (simp; done) | (simp [*]; done)), H', ⟨by have := HK1.out; omega⟩, ⟨by repeat (first | (with_reducible first | exact HI0.out | apply IsS59.alloc | apply IsS59.drewN | apply IsS59.drew | apply IsS59.set_0 | apply IsS59.set_1) | exact HI0.out)⟩, ⟨by repeat (first | (with_reducible first | exact HK.out | apply KeepBut.set_ | apply keep_drewN | apply keep_drew | apply keep_alloc) | exact HK.out)⟩, ⟨by repeat (first | (with_reducible first | exact HB.out | apply below_alloc | apply pw_below_drewN | apply below_drew1 | refine below_set ?_ (IsS59.ge HI0.out)) | exact HB.out)⟩⟩
                · rw [if_neg c13] at H
                  exact absurd H (by simp)
              · rw [if_neg c10] at H
                exact absurd H (by simp)
            · rw [if_neg c9] at H
              exact absurd H (by simp)
          · rw [if_neg c8] at H
            have c8b0 : decide (x22_1 < a1) = false := decide_eq_false c8
            clear c8
            by_cases c16 : 0 ≤ a1
            · rw [if_pos c16] at H
              have c16b0 := eq_true c16
              have c16b1 : decide (0 ≤ a1) = true := decide_eq_true c16
              clear c16
              by_cases c17 : a1 ≤ (s0_0.size : Int)
              · rw [if_pos c17] at H
                have c17b0 := eq_true c17
                have c17b1 : decide (a1 ≤ (s0_0.size : Int)) = true := decide_eq_true c17
                clear c17
                simp only [Option.some.injEq, Prod.mk.injEq] at H
                obtain ⟨rfl, rfl, rfl⟩ := H
                obtain ⟨HGz18, hgz18⟩ := HI0.out
                have hcz18_0 := cellS59_0 HGz18
                have hcz18_1 := cellS59_1 HGz18
                have hfz18_0 := blk_frozen HGz18 0
                have hfz18_1 := blk_frozen HGz18 1
                clear HGz18 hgz18
                go_wp2
                go_ret
                exact ⟨by first | rfl | (simp [errW_none, errW_some] <;> rfl) | (simp [*, errW_none, errW_some] <;> rfl), by repeat (first | (with_reducible first | exact HI0.out | apply IsS59.alloc | apply IsS59.drewN | apply IsS59.drew | apply IsS59.set_0 | apply IsS59.set_1) | exact HI0.out), by repeat (first | (with_reducible first | exact HB.out | apply below_alloc | apply pw_below_drewN | apply below_drew1 | refine below_set ?_ (IsS59.ge HI0.out)) | exact HB.out), by repeat (first | (with_reducible first | exact HK.out | apply KeepBut.set_ | apply keep_drewN | apply keep_drew | apply keep_alloc) | exact HK.out)⟩
              · rw [if_neg c17] at H
                exact absurd H (by simp)
            · rw [if_neg c16] at H
              exact absurd H (by simp)
  · replace c4 := Bool.eq_false_iff.mpr c4
    subst c4
    have H1 : (some (0, s0_0, s0_1)) = some (r1, r2, r3) := by rw [if_neg (show ¬ (false = true) by decide)] at H; exact H
    clear H
    have H := H1
    clear H1
    simp only [Option.some.injEq, Prod.mk.injEq] at H
    obtain ⟨rfl, rfl, rfl⟩ := H
    go_enter Try.func36, Try.ntmps36
    go_wp2
    go_ret
    exact ⟨by first | rfl | (simp [errW_none, errW_some] <;> rfl) | (simp [*, errW_none, errW_some] <;> rfl), by repeat (first | (with_reducible first | exact HI0.out | apply IsS59.alloc | apply IsS59.drewN | apply IsS59.drew | apply IsS59.set_0 | apply IsS59.set_1) | exact HI0.out), by repeat (first | (with_reducible first | exact HB.out | apply below_alloc | apply pw_below_drewN | apply below_drew1 | refine below_set ?_ (IsS59.ge HI0.out)) | exact HB.out), by repeat (first | (with_reducible first | exact HK.out | apply KeepBut.set_ | apply keep_drewN | apply keep_drew | apply keep_alloc) | exact HK.out)⟩

/-! ### decode_Of: function 12 -/
-- needs decode_reader_take.f decode_known.f decode_Formed.f
namespace Giv4
open Go.Proofs.Ytdmiingneodcbaa
 /-- What lies in the world while decode.Of reads: the reader, the operation under way, the result, the row of the table. -/
 structure St (w0 w : World) (gr gq go gx : Nat) (s : ByteArray) (bad : Bool) (op x : Array Value) : Prop where
  r : IsS59 w0 w gr s bad
  b : Below w0.heap.size w0 w
  o : w.heap[go]? = some (.cells op 25 (0, 0))
  ol : w0.heap.size ≤ go
  q : w.heap[gq]? = some (.cells #[.int .i64 0, .int .i64 0, .int .i64 0, .int .u64 0, .int .u64 0, .int .u64 0] 25 (0, 0))
  qo : gq ≠ go
  x : w.heap[gx]? = some (.cells x 63 (0, 0))
 theorem St.take {w0 w : World} {gr gq go gx : Nat} {s s' : ByteArray} {bad bad' : Bool} {op x : Array Value} (h : St w0 w gr gq go gx s bad op x) {k : Nat} {n r : Int} {is : Bool} (hk : decode_reader_take.f k s bad n is = some (r, s', bad')) :
    Calls Try.prog 36 #[.pointer (some ⟨gr, 0, none⟩), .int .i64 n, .bool is] w fun e w' => e = .returned (.int .u64 r) ∧ St w0 w' gr gq go gx s' bad' op x := by
  refine (decode_reader_take.calls k gr s bad n is r s' bad' w0 w h.r h.b hk).mono ?_
  rintro e w' ⟨rfl, hI, hB, hK⟩
  refine ⟨rfl, hI, hB, (hK.2 go (blk_lt h.o) ?_ (by simp)).trans h.o, h.ol, (hK.2 gq (blk_lt h.q) ?_ (by simp)).trans h.q, h.qo, (hK.2 gx (blk_lt h.x) ?_ (by simp)).trans h.x⟩
  · exact (h.r.ne_blk h.o (by decide)).symm
  · exact (h.r.ne_blk h.q (by decide)).symm
  · exact (h.r.ne_blk h.x (by decide)).symm
 theorem St.put {w0 w : World} {gr gq go gx : Nat} {s : ByteArray} {bad : Bool} {op x : Array Value} (h : St w0 w gr gq go gx s bad op x) (i : Nat) (u : Value) (op' : Array Value) (e : op.setIfInBounds i u = op') : St w0 (w.setCell ⟨go, i, none⟩ u) gr gq go gx s bad op' x :=
  ⟨h.r.far (h.r.ne_blk h.o (by decide)) u, h.b.setCell h.ol u, blk_put h.o i u e, h.ol, blk_far h.q h.qo u, h.qo, blk_far h.x (fun q => blk_ne h.x h.o (by decide) q) u⟩
 theorem St.putx {w0 w : World} {gr gq go gx : Nat} {s : ByteArray} {bad : Bool} {op x : Array Value} (h : St w0 w gr gq go gx s bad op x) (hl : w0.heap.size ≤ gx) (i : Nat) (u : Value) (x' : Array Value) (e : x.setIfInBounds i u = x') : St w0 (w.setCell ⟨gx, i, none⟩ u) gr gq go gx s bad op x' :=
  ⟨h.r.far (h.r.ne_blk h.x (by decide)) u, h.b.setCell hl u, blk_far h.o (fun q => blk_ne h.o h.x (by decide) q) u, h.ol, blk_far h.q (fun q => blk_ne h.q h.x (by decide) q) u, h.qo, blk_put h.x i u e⟩
 theorem St.five {w0 w : World} {gr gq go gx : Nat} {s : ByteArray} {bad : Bool} {op : Array Value} {y0 y1 y2 y3 y4 : Value} (h : St w0 w gr gq go gx s bad op #[y0, y1, y2, y3, y4]) (hl : w0.heap.size ≤ gx) (v0 v1 v2 v3 v4 : Value) :
    St w0 (((((w.setCell ⟨gx, 0, none⟩ v0).setCell ⟨gx, 1, none⟩ v1).setCell ⟨gx, 2, none⟩ v2).setCell ⟨gx, 3, none⟩ v3).setCell ⟨gx, 4, none⟩ v4) gr gq go gx s bad op #[v0, v1, v2, v3, v4] :=
  ((((h.putx hl 0 v0 _ rfl).putx hl 1 v1 _ rfl).putx hl 2 v2 _ rfl).putx hl 3 v3 _ rfl).putx hl 4 v4 _ rfl
 theorem St.inA {w0 w : World} {gr gq go : Nat} {s : ByteArray} {bad : Bool} {op : Array Value} (x : Array Value) (r : IsS59 w0 w gr s bad) (b : Below w0.heap.size w0 w) (o : w.heap[go]? = some (.cells op 25 (0, 0))) (ol : w0.heap.size ≤ go)
    (q : w.heap[gq]? = some (.cells #[.int .i64 0, .int .i64 0, .int .i64 0, .int .u64 0, .int .u64 0, .int .u64 0] 25 (0, 0))) (qo : gq ≠ go) : St w0 (w.alloc (.cells x 63)) gr gq go w.heap.size s bad op x :=
  ⟨r.alloc _, b.alloc b.size _, blk_alloc o _, ol, blk_alloc q _, qo, blk_new _ _⟩
 theorem St.inB {w0 w1 w : World} {gr gq go : Nat} {s : ByteArray} {bad : Bool} {op : Array Value} (v0 v1 v2 v3 v4 : Value) (r : IsS59 w0 w gr s bad) (b : Below w0.heap.size w0 w) (o : w.heap[go]? = some (.cells op 25 (0, 0))) (ol : w0.heap.size ≤ go)
    (q : w.heap[gq]? = some (.cells #[.int .i64 0, .int .i64 0, .int .i64 0, .int .u64 0, .int .u64 0, .int .u64 0] 25 (0, 0))) (qo : gq ≠ go) (hl : w0.heap.size ≤ w1.heap.size)
    (hb : Below (w1.alloc (.cells #[.bool false, .bool false, .bool false, .bool false, .bool false] 63)).drew.heap.size (w1.alloc (.cells #[.bool false, .bool false, .bool false, .bool false, .bool false] 63)).drew w) :
    St w0 (((((w.setCell ⟨w1.heap.size, 0, none⟩ v0).setCell ⟨w1.heap.size, 1, none⟩ v1).setCell ⟨w1.heap.size, 2, none⟩ v2).setCell ⟨w1.heap.size, 3, none⟩ v3).setCell ⟨w1.heap.size, 4, none⟩ v4) gr gq go w1.heap.size s bad op #[v0, v1, v2, v3, v4] :=
  St.five ⟨r, b, o, ol, q, qo, blk_below (blk_drew (blk_new w1 _)) hb⟩ hl v0 v1 v2 v3 v4
 theorem six {w : World} {g : Nat} {y0 y1 y2 y3 y4 y5 : Value} (h : w.heap[g]? = some (.cells #[y0, y1, y2, y3, y4, y5] 25 (0, 0))) (v0 v1 v2 v3 v4 v5 : Value) :
    ((((((w.setCell ⟨g, 0, none⟩ v0).setCell ⟨g, 1, none⟩ v1).setCell ⟨g, 2, none⟩ v2).setCell ⟨g, 3, none⟩ v3).setCell ⟨g, 4, none⟩ v4).setCell ⟨g, 5, none⟩ v5).heap[g]? = some (.cells #[v0, v1, v2, v3, v4, v5] 25 (0, 0)) :=
  blk_put (blk_put (blk_put (blk_put (blk_put (blk_put h 0 v0 rfl) 1 v1 rfl) 2 v2 rfl) 3 v3 rfl) 4 v4 rfl) 5 v5 rfl
 theorem six_below {n : Nat} {w0 w : World} {g : Nat} (h : Below n w0 w) (hg : n ≤ g) (v0 v1 v2 v3 v4 v5 : Value) :
    Below n w0 ((((((w.setCell ⟨g, 0, none⟩ v0).setCell ⟨g, 1, none⟩ v1).setCell ⟨g, 2, none⟩ v2).setCell ⟨g, 3, none⟩ v3).setCell ⟨g, 4, none⟩ v4).setCell ⟨g, 5, none⟩ v5) :=
  (((((h.setCell hg v0).setCell hg v1).setCell hg v2).setCell hg v3).setCell hg v4).setCell hg v5
 theorem toList_nil {s : ByteArray} (h : s.toList = []) : s = ⟨#[]⟩ := by
  rw [ByteArray.toList_eq] at h
  exact ByteArray.ext (Array.toList_inj.1 (by rw [h]))
 theorem nil_toList {s : ByteArray} (h : s.size = 0) : s.toList = [] := by
  rw [ByteArray.toList_eq]
  apply List.eq_nil_of_length_eq_zero
  exact h
 /-- Bytes as a number, the lowest first. -/
 def val : List Int → Int
  | [] => 0
  | x :: l => x + 256 * val l
 def nums (s : ByteArray) : List Int := s.data.toList.map fun b => (b.toNat : Int)
 def tk (n : Nat) (is : Bool) (l : List Int) (bad : Bool) : Int × List Int × Bool := if is = true then (if l.length < n then (0, l, true) else (val (l.take n), l.drop n, bad)) else (0, l, bad)
 theorem nums_len (s : ByteArray) : (nums s).length = s.size := by simp only [nums, List.length_map]; rfl
 theorem nums_range (s : ByteArray) : ∀ x ∈ nums s, 0 ≤ x ∧ x < 256 := by
  intro x hx
  simp only [nums, List.mem_map] at hx
  obtain ⟨b, _, rfl⟩ := hx
  have := b.toNat_lt
  omega
 theorem val_range : ∀ (l : List Int), (∀ x ∈ l, 0 ≤ x ∧ x < 256) → 0 ≤ val l ∧ val l < 256 ^ l.length
  | [], _ => by simp [val]
  | x :: l, h => by
    have h1 := val_range l (fun y hy => h y (by simp [hy]))
    have h2 := h x (by simp)
    simp only [val, List.length_cons, Int.pow_succ]
    omega
 theorem val_snoc : ∀ (l : List Int) (x : Int), val (l ++ [x]) = val l + x * 256 ^ l.length
  | [], x => by simp [val]
  | y :: l, x => by
    have := val_snoc l x
    simp only [List.cons_append, val, this, List.length_cons, Int.pow_succ]
    rw [Int.mul_add]
    rw [show (256 : Int) * (x * 256 ^ l.length) = x * (256 ^ l.length * 256) from by rw [Int.mul_comm, Int.mul_assoc]]
    omega
 theorem or_val (A b i : Nat) (hi : i < 8) (hA : A < 2 ^ (8 * i)) (hb : b < 256) : Go.bits .or .u64 (A : Int) (shl .u64 (IntKind.u64.wrap (b : Int)) ((8 * i : Nat) : Int)) = ((A + b * 2 ^ (8 * i) : Nat) : Int) := by
  have hp : 2 ^ (8 * i) ≤ 2 ^ 56 := Nat.pow_le_pow_right (by decide) (by omega)
  have hA64 : A < 2 ^ 64 := by omega
  have e1 : (A : Int) = FB.u (BitVec.ofNat 64 A) := by simp [FB.u, Nat.mod_eq_of_lt hA64]
  have e2 : IntKind.u64.wrap (b : Int) = FB.u (BitVec.ofNat 64 b) := by
    rw [FB.wrapu]
    simp [FB.u]
  rw [e1, e2, FB.shl_u _ _ (by omega), FB.or_u]
  simp only [FB.u, BitVec.toNat_or, BitVec.toNat_shiftLeft, BitVec.toNat_ofNat, Nat.shiftLeft_eq]
  have hb2 : b * 2 ^ (8 * i) < 2 ^ 64 := by
    have : b * 2 ^ (8 * i) ≤ 255 * 2 ^ 56 := Nat.mul_le_mul (by omega) hp
    omega
  rw [Nat.mod_eq_of_lt hA64, Nat.mod_eq_of_lt (show b < 2 ^ 64 by omega), Nat.mod_eq_of_lt hb2]
  have := Nat.two_pow_add_eq_or_of_lt hA b
  rw [Nat.or_comm, Nat.mul_comm b, ← this, Nat.add_comm]
 theorem bt_nums (s : ByteArray) (i : Nat) (h : i < s.size) : (nums s)[i]? = some (bt s (i : Int)) := by
  unfold bt nums
  rw [dif_pos (by simpa using h), List.getElem?_map, List.getElem?_eq_getElem (by exact h)]
  rfl
 theorem take_snoc (s : ByteArray) (i : Nat) (h : i < s.size) : (nums s).take (i + 1) = (nums s).take i ++ [bt s (i : Int)] := by
  rw [List.take_add_one, bt_nums s i h]
  rfl
 theorem nums_extract (s : ByteArray) (n : Nat) : nums (s.extract n s.size) = (nums s).drop n := by
  unfold nums
  rw [← List.map_drop]
  congr 1
  have e : (s.extract n s.size).data = s.data.extract n s.data.size := ByteArray.data_extract
  rw [e, Array.toList_extract, List.extract_eq_take_drop]
  rw [List.take_of_length_le]
  simp
 theorem take_loop (s : ByteArray) (bad : Bool) (n : Nat) (hn : n ≤ 8) (hs : n ≤ s.size) : ∀ j i : Nat, i + j = n →
    Ev (fun k => decode_reader_take.l0 k (n : Int) (val ((nums s).take i)) (n : Int) (i : Int) s bad) (val ((nums s).take n), s.extract n s.size, bad)
  | 0, i, h => by
    have hi : i = n := by omega
    subst hi
    refine Ev.step (f := fun _ => some (val ((nums s).take i), s.extract i s.size, bad)) (fun k => ?_) (Ev.now _)
    simp only [decode_reader_take.l0]
    rw [if_neg (by omega), if_pos (by omega), if_pos (by omega)]
    rfl
  | j + 1, i, h => by
    have e8 : wrap64 (8 * (i : Int)) = ((8 * i : Nat) : Int) := by unfold wrap64; omega
    have e1 : wrap64 ((i : Int) + 1) = ((i + 1 : Nat) : Int) := by unfold wrap64; omega
    refine Ev.step (fun k => ?_) (take_loop s bad n hn hs j (i + 1) (by omega))
    simp only [decode_reader_take.l0]
    rw [if_pos (by omega), if_pos (by omega), if_pos (by omega), if_pos (by rw [e8]; omega), e8, e1]
    have hr := val_range ((nums s).take i) (fun x hx => nums_range s x (List.mem_of_mem_take hx))
    have hl : ((nums s).take i).length = i := by rw [List.length_take, nums_len]; omega
    rw [hl] at hr
    have hb := bt_range s (i : Int)
    obtain ⟨A, hA⟩ : ∃ A : Nat, val ((nums s).take i) = (A : Int) := ⟨_, (Int.toNat_of_nonneg hr.1).symm⟩
    obtain ⟨b, hb'⟩ : ∃ b : Nat, bt s (i : Int) = (b : Int) := ⟨_, (Int.toNat_of_nonneg hb.1).symm⟩
    have hp : ((256 : Int) ^ i) = ((2 ^ (8 * i) : Nat) : Int) := by rw [Nat.pow_mul]; simp
    have hv : val ((nums s).take (i + 1)) = ((A + b * 2 ^ (8 * i) : Nat) : Int) := by
      rw [take_snoc s i (by omega), val_snoc, hl, hA, hb', hp]
      simp
    rw [hv, hA, hb', or_val A b i (by omega) (by rw [hA, hp] at hr; exact_mod_cast hr.2) (by omega)]
 theorem take_ex (s : ByteArray) (bad : Bool) (n : Nat) (hn : n ≤ 8) (is : Bool) :
    ∃ k s', decode_reader_take.f k s bad (n : Int) is = some ((tk n is (nums s) bad).1, s', (tk n is (nums s) bad).2.2) ∧ nums s' = (tk n is (nums s) bad).2.1 := by
  cases is
  · exact ⟨0, s, rfl, rfl⟩
  · by_cases hs : s.size < n
    · refine ⟨0, s, ?_, ?_⟩
      · unfold decode_reader_take.f tk
        rw [if_pos rfl, if_pos (by omega), if_pos rfl, if_pos (by rw [nums_len]; exact hs)]
      · unfold tk
        rw [if_pos rfl, if_pos (by rw [nums_len]; exact hs)]
    · obtain ⟨k, hk⟩ := (take_loop s bad n hn (by omega) n 0 (by omega)).rounds
      refine ⟨k, s.extract n s.size, ?_, ?_⟩
      · unfold decode_reader_take.f tk
        rw [if_pos rfl, if_neg (by omega), if_pos rfl, if_neg (by rw [nums_len]; exact hs)]
        exact hk
      · unfold tk
        rw [if_pos rfl, if_neg (by rw [nums_len]; exact hs)]
        exact nums_extract s n
set_option maxHeartbeats 8000000 in
 theorem of_yes (s s1 s2 s3 s4 s5 s6 : ByteArray) (c h d f a b : Int) (b1 b2 b3 b4 b5 b6 xh xd xf xa xb : Bool) (k1 k2 k3 k4 k5 k6 : Nat) (w : World)
    (h1 : decode_reader_take.f k1 s false 1 true = some (c, s1, b1)) (hc : 1 ≤ c ∧ c ≤ 12) (hkn0 : decode_known.f c = some true)
    (hidx : ∀ W, (Instr.index 64 (.agg Giv.tab) (.int .i64 c)).run Try.prog W = .ok (.agg #[.bool xh, .bool xd, .bool xf, .bool xa, .bool xb]) W)
    (h2 : decode_reader_take.f k2 s1 b1 8 xh = some (h, s2, b2)) (h3 : decode_reader_take.f k3 s2 b2 1 xd = some (d, s3, b3)) (h4 : decode_reader_take.f k4 s3 b3 1 xf = some (f, s4, b4))
    (h5 : decode_reader_take.f k5 s4 b4 8 xa = some (a, s5, b5)) (h6 : decode_reader_take.f k6 s5 b5 8 xb = some (b, s6, b6)) (hd : 0 ≤ d ∧ d < 256) (hf : 0 ≤ f ∧ f < 256) (p : Bool) (hF0 : decode_Formed.f c d f h a b = some p) (R : Value)
    (hR0 : R = if b6 = false ∧ s6.size = 0 ∧ p = true then .tuple #[.agg #[.int .i64 c, .int .i64 d, .int .i64 f, .int .u64 h, .int .u64 a, .int .u64 b], .int .i64 0] else .tuple #[.agg #[.int .i64 0, .int .i64 0, .int .i64 0, .int .u64 0, .int .u64 0, .int .u64 0], .int .i64 2]) :
    Calls Try.prog 12 #[.string s] w fun e w' => e = .returned R ∧ Below w.heap.size w w' := by
  have hF := Lib.hid hF0
  have hR := Lib.hid hR0
  clear hR0
  have hkn := Lib.hid hkn0
  clear hF0 hkn0
  have hwc : IntKind.i64.wrap c = c := by simp [IntKind.wrap, IntKind.bits, IntKind.signed]; omega
  go_enter Try.func12, Try.ntmps12
  go_wp2_with fail
  have hS0 : IsS59 w ((w.alloc (Obj.cells #[.int .i64 0, .int .i64 0, .int .i64 0, .int .u64 0, .int .u64 0, .int .u64 0] 25)).alloc (Obj.cells #[.string s, .bool false] 59)) (w.heap.size + 1) s false := by
    have := IsS59.new w (w.alloc (Obj.cells #[.int .i64 0, .int .i64 0, .int .i64 0, .int .u64 0, .int .u64 0, .int .u64 0] 25)) s false ((Below.refl _ _).alloc (Nat.le_refl _) _)
    simpa using this
  refine (decode_reader_take.calls k1 (w.heap.size + 1) s false 1 true c s1 b1 w _ hS0 (((Below.refl _ _).alloc (Nat.le_refl _) _).alloc (by simp) _) h1).mono ?_
  rintro e w1 ⟨rfl, hI1, hB1, hK1⟩
  have hq1 : w1.heap[w.heap.size]? = some (.cells #[.int .i64 0, .int .i64 0, .int .i64 0, .int .u64 0, .int .u64 0, .int .u64 0] 25 (0, 0)) := by
    rw [hK1.2 w.heap.size (by simp; omega) (by omega) (by simp)]
    exact blk_alloc (blk_new _ _) _
  have hs1 : w.heap.size + 1 < w1.heap.size := by have := hK1.1; simp at this; omega
  clear hS0 hK1
  go_wp2_with fail
  refine (decode_known.calls c true _ hkn.out).mono ?_
  rintro e w2 ⟨rfl, hD⟩
  have hI2 : IsS59 w w2 (w.heap.size + 1) s1 b1 := (hI1.alloc _).below hD.below
  have hB2 : Below w.heap.size w w2 := Giv.below_trans2 (hB1.alloc (by omega) _) hD.below (by simp; omega)
  have hq2 := blk_below (blk_alloc hq1 (.cells #[.int .i64 c, .int .i64 0, .int .i64 0, .int .u64 0, .int .u64 0, .int .u64 0] 25)) hD.below
  have ho2 := blk_below (blk_new w1 (.cells #[.int .i64 c, .int .i64 0, .int .i64 0, .int .u64 0, .int .u64 0, .int .u64 0] 25)) hD.below
  have hs2 : w1.heap.size < w2.heap.size := blk_lt ho2
  have k0 : w2.cell? ⟨w1.heap.size, 0, none⟩ = some (.int .i64 c) := blk_cell ho2 0
  have hg1 : w.heap.size ≤ w1.heap.size := by omega
  have hg2 : w.heap.size ≠ w1.heap.size := by omega
  clear hI1 hB1 hq1 hD
  go_upto_region 5 with (fail)
  go_cut [6] (fun s6 wx => ∃ gx : Nat, s6 = .pointer (some ⟨gx, 0, none⟩) ∧ St w wx (w.heap.size + 1) w.heap.size w1.heap.size gx s1 b1 #[.int .i64 c, .int .i64 0, .int .i64 0, .int .u64 0, .int .u64 0, .int .u64 0] #[.bool xh, .bool xd, .bool xf, .bool xa, .bool xb])
  case first =>
    go_region_held3 (fun w' => w'.cell? ⟨w1.heap.size, 0, none⟩ = some (.int .i64 c))
      (first | go_keep | exact E0 | exact (World.cell?_alloc_lt _ _ _ hs2).trans k0) (first | (go_at_call 38; refine (Giv.table_any _).mono ?_; rintro e w5 ⟨rfl, hb5⟩; have hs6 : w2.heap.size ≤ w5.heap.size := (by have h6 := hb5.size; (try simp at h6); first | exact h6 | omega); have hB5 : Below w.heap.size w w5 := Giv.below_trans2 (by first | exact hB2.drew | exact (hB2.alloc (by omega) _).drew) hb5 (by first | (simp; done) | omega | (simp; omega)); have E0 : w5.cell? ⟨w1.heap.size, 0, none⟩ = some (.int .i64 c) := (by rw [hb5.cell (by simp; try omega)]; first | exact k0 | exact (World.cell?_alloc_lt _ _ _ hs2).trans k0); have I5 : IsS59 w w5 (w.heap.size + 1) s1 b1 := (by first | exact hI2.drew.below hb5 | exact (hI2.alloc _).drew.below hb5); have O5 := blk_below (by first | exact ho2 | exact blk_alloc ho2 _) hb5; have Q5 := blk_below (by first | exact hq2 | exact blk_alloc hq2 _) hb5; obtain ⟨hc5, hz5⟩ := Giv.bcell hb5; have ne1 : ¬ w5.heap.size = w1.heap.size := (by omega); have ne2 : ¬ w1.heap.size = w5.heap.size := (by omega); have ne3 : ¬ w1.heap.size = w2.heap.size := (by omega); have ne4 : ¬ w2.heap.size = w1.heap.size := (by omega)))
    all_goals (go_wp2_with fail; go_meet)
    · exact ⟨_, rfl, St.inA _ I5 hB5 O5 hg1 Q5 hg2⟩
    · exact ⟨_, rfl, St.inA _ I5 hB5 O5 hg1 Q5 hg2⟩
    · exact ⟨_, rfl, St.inB _ _ _ _ _ I5 hB5 O5 hg1 Q5 hg2 hB2.size hb5⟩
  case rest =>
    obtain ⟨gx, rfl, hS⟩ := hcut
    clear hI2 hB2 hq2 ho2 k0 hs2
    have n1 : ¬ gx = w1.heap.size := fun q => blk_ne hS.x hS.o (by decide) q
    have n2 : ¬ w1.heap.size = gx := fun q => n1 q.symm
    have n3 : ¬ w.heap.size = w1.heap.size := by omega
    have n4 : ¬ w1.heap.size = w.heap.size := by omega
    have n5 : ¬ w.heap.size + 1 = w1.heap.size := by omega
    have n6 : ¬ w1.heap.size = w.heap.size + 1 := by omega
    have x0 : wc.cell? ⟨gx, 0, none⟩ = some (.bool xh) := blk_cell hS.x 0
    go_wp2_with fail
    refine (hS.take h2).mono ?_
    rintro e w3 ⟨rfl, hS3⟩
    clear hS x0
    have o3 : w3.cell? ⟨w1.heap.size, 3, none⟩ = some (.int .u64 0) := blk_cell hS3.o 3
    have f3 := blk_frozen hS3.o 3
    have x1 : w3.cell? ⟨gx, 1, none⟩ = some (.bool xd) := blk_cell hS3.x 1
    go_wp2_with fail
    have hS3' := hS3.put 3 (.int .u64 h) _ rfl
    refine (hS3'.take h3).mono ?_
    rintro e w4 ⟨rfl, hS4⟩
    clear hS3 hS3' o3 f3 x1
    have hwd : IntKind.i64.wrap d = d := by simp [IntKind.wrap, IntKind.bits, IntKind.signed]; omega
    have o1 : w4.cell? ⟨w1.heap.size, 1, none⟩ = some (.int .i64 0) := blk_cell hS4.o 1
    have f1 := blk_frozen hS4.o 1
    have x2 : w4.cell? ⟨gx, 2, none⟩ = some (.bool xf) := blk_cell hS4.x 2
    go_wp2_with fail
    have hS4' := hS4.put 1 (.int .i64 d) _ rfl
    refine (hS4'.take h4).mono ?_
    rintro e w5 ⟨rfl, hS5⟩
    clear hS4 hS4' o1 f1 x2
    have hwf : IntKind.i64.wrap f = f := by simp [IntKind.wrap, IntKind.bits, IntKind.signed]; omega
    have o2 : w5.cell? ⟨w1.heap.size, 2, none⟩ = some (.int .i64 0) := blk_cell hS5.o 2
    have f2 := blk_frozen hS5.o 2
    have x3 : w5.cell? ⟨gx, 3, none⟩ = some (.bool xa) := blk_cell hS5.x 3
    go_wp2_with fail
    have hS5' := hS5.put 2 (.int .i64 f) _ rfl
    refine (hS5'.take h5).mono ?_
    rintro e w6 ⟨rfl, hS6⟩
    clear hS5 hS5' o2 f2 x3
    have o4 : w6.cell? ⟨w1.heap.size, 4, none⟩ = some (.int .u64 0) := blk_cell hS6.o 4
    have f4 := blk_frozen hS6.o 4
    have x4 : w6.cell? ⟨gx, 4, none⟩ = some (.bool xb) := blk_cell hS6.x 4
    go_wp2_with fail
    have hS6' := hS6.put 4 (.int .u64 a) _ rfl
    refine (hS6'.take h6).mono ?_
    rintro e w7 ⟨rfl, hS7⟩
    clear hS6 hS6' o4 f4 x4
    have o5 : w7.cell? ⟨w1.heap.size, 5, none⟩ = some (.int .u64 0) := blk_cell hS7.o 5
    have f5 := blk_frozen hS7.o 5
    have hS8 := hS7.put 5 (.int .u64 b) _ rfl
    go_upto_region 11 with (fail)
    generalize w7.setCell ⟨w1.heap.size, 5, none⟩ (.int .u64 b) = w8 at hS8 ⊢
    clear hS7 o5 f5
    have r0 : w8.cell? ⟨w.heap.size + 1, 0, none⟩ = some (.string s6) := blk_cell hS8.r.1 0
    have r1 : w8.cell? ⟨w.heap.size + 1, 1, none⟩ = some (.bool b6) := blk_cell hS8.r.1 1
    have o0 : w8.cell? ⟨w1.heap.size, 0, none⟩ = some (.int .i64 c) := blk_cell hS8.o 0
    have o1 : w8.cell? ⟨w1.heap.size, 1, none⟩ = some (.int .i64 d) := blk_cell hS8.o 1
    have o2 : w8.cell? ⟨w1.heap.size, 2, none⟩ = some (.int .i64 f) := blk_cell hS8.o 2
    have o3 : w8.cell? ⟨w1.heap.size, 3, none⟩ = some (.int .u64 h) := blk_cell hS8.o 3
    have o4 : w8.cell? ⟨w1.heap.size, 4, none⟩ = some (.int .u64 a) := blk_cell hS8.o 4
    have o5 : w8.cell? ⟨w1.heap.size, 5, none⟩ = some (.int .u64 b) := blk_cell hS8.o 5
    have q0 : w8.cell? ⟨w.heap.size, 0, none⟩ = some (.int .i64 0) := blk_cell hS8.q 0
    have q1 : w8.cell? ⟨w.heap.size, 1, none⟩ = some (.int .i64 0) := blk_cell hS8.q 1
    have q2 : w8.cell? ⟨w.heap.size, 2, none⟩ = some (.int .i64 0) := blk_cell hS8.q 2
    have q3 : w8.cell? ⟨w.heap.size, 3, none⟩ = some (.int .u64 0) := blk_cell hS8.q 3
    have q4 : w8.cell? ⟨w.heap.size, 4, none⟩ = some (.int .u64 0) := blk_cell hS8.q 4
    have q5 : w8.cell? ⟨w.heap.size, 5, none⟩ = some (.int .u64 0) := blk_cell hS8.q 5
    have fq0 := blk_frozen hS8.q 0
    have fq1 := blk_frozen hS8.q 1
    have fq2 := blk_frozen hS8.q 2
    have fq3 := blk_frozen hS8.q 3
    have fq4 := blk_frozen hS8.q 4
    have fq5 := blk_frozen hS8.q 5
    have hqw : w.heap.size ≤ w.heap.size := Nat.le_refl _
    have hB8 := hS8.b
    cases b6
    · by_cases hz : s6.toList = []
      · go_wp2_with fail
        refine (decode_Formed.calls c d f h a b p _ hF.out).mono ?_
        rintro e w9 ⟨rfl, hb9⟩
        have o0 : w9.cell? ⟨w1.heap.size, 0, none⟩ = some (.int .i64 c) := blk_cell (blk_below hS8.o hb9) 0
        have o1 : w9.cell? ⟨w1.heap.size, 1, none⟩ = some (.int .i64 d) := blk_cell (blk_below hS8.o hb9) 1
        have o2 : w9.cell? ⟨w1.heap.size, 2, none⟩ = some (.int .i64 f) := blk_cell (blk_below hS8.o hb9) 2
        have o3 : w9.cell? ⟨w1.heap.size, 3, none⟩ = some (.int .u64 h) := blk_cell (blk_below hS8.o hb9) 3
        have o4 : w9.cell? ⟨w1.heap.size, 4, none⟩ = some (.int .u64 a) := blk_cell (blk_below hS8.o hb9) 4
        have o5 : w9.cell? ⟨w1.heap.size, 5, none⟩ = some (.int .u64 b) := blk_cell (blk_below hS8.o hb9) 5
        have q0 : w9.cell? ⟨w.heap.size, 0, none⟩ = some (.int .i64 0) := blk_cell (blk_below hS8.q hb9) 0
        have q1 : w9.cell? ⟨w.heap.size, 1, none⟩ = some (.int .i64 0) := blk_cell (blk_below hS8.q hb9) 1
        have q2 : w9.cell? ⟨w.heap.size, 2, none⟩ = some (.int .i64 0) := blk_cell (blk_below hS8.q hb9) 2
        have q3 : w9.cell? ⟨w.heap.size, 3, none⟩ = some (.int .u64 0) := blk_cell (blk_below hS8.q hb9) 3
        have q4 : w9.cell? ⟨w.heap.size, 4, none⟩ = some (.int .u64 0) := blk_cell (blk_below hS8.q hb9) 4
        have q5 : w9.cell? ⟨w.heap.size, 5, none⟩ = some (.int .u64 0) := blk_cell (blk_below hS8.q hb9) 5
        have fq0 := blk_frozen (blk_below hS8.q hb9) 0
        have fq1 := blk_frozen (blk_below hS8.q hb9) 1
        have fq2 := blk_frozen (blk_below hS8.q hb9) 2
        have fq3 := blk_frozen (blk_below hS8.q hb9) 3
        have fq4 := blk_frozen (blk_below hS8.q hb9) 4
        have fq5 := blk_frozen (blk_below hS8.q hb9) 5
        have hB9 := Giv.below_trans2 hS8.b hb9 hS8.b.size
        have hQ9 := blk_below hS8.q hb9
        clear hS8 hb9
        cases p
        · go_wp2_with fail
          refine bodyPost_ret (results_ct rfl _ _ w.heap.size 25 #[.int .i64 0, .int .i64 0, .int .i64 0, .int .u64 0, .int .u64 0, .int .u64 0] (0, 0) _ rfl (six hQ9 _ _ _ _ _ _) Try.underlying25 rfl (by kernel_rfl)) rfl ⟨?_, six_below hB9 (Nat.le_refl _) _ _ _ _ _ _⟩
          have hR1 := hR.out
          rw [if_neg (fun x => Bool.false_ne_true x.2.2)] at hR1
          rw [hR1]
          rfl
        · go_wp2_with fail
          refine bodyPost_ret (results_ct rfl _ _ w.heap.size 25 #[.int .i64 c, .int .i64 d, .int .i64 f, .int .u64 h, .int .u64 a, .int .u64 b] (0, 0) _ rfl (six hQ9 _ _ _ _ _ _) Try.underlying25 rfl (by kernel_rfl)) rfl ⟨?_, six_below hB9 (Nat.le_refl _) _ _ _ _ _ _⟩
          have hR1 := hR.out
          rw [if_pos (by rw [Giv4.toList_nil hz]; exact ⟨trivial, rfl, trivial⟩)] at hR1
          rw [hR1]
          rfl
      · go_wp2_with fail
        refine bodyPost_ret (results_ct rfl _ _ w.heap.size 25 #[.int .i64 0, .int .i64 0, .int .i64 0, .int .u64 0, .int .u64 0, .int .u64 0] (0, 0) _ rfl (six hS8.q _ _ _ _ _ _) Try.underlying25 rfl (by kernel_rfl)) rfl ⟨?_, six_below hB8 (Nat.le_refl _) _ _ _ _ _ _⟩
        have hR1 := hR.out
        rw [if_neg (fun x => hz (Giv4.nil_toList x.2.1))] at hR1
        rw [hR1]
        rfl
    · go_wp2_with fail
      refine bodyPost_ret (results_ct rfl _ _ w.heap.size 25 #[.int .i64 0, .int .i64 0, .int .i64 0, .int .u64 0, .int .u64 0, .int .u64 0] (0, 0) _ rfl (six hS8.q _ _ _ _ _ _) Try.underlying25 rfl (by kernel_rfl)) rfl ⟨?_, six_below hB8 (Nat.le_refl _) _ _ _ _ _ _⟩
      have hR1 := hR.out
      rw [if_neg (fun x => Bool.false_ne_true x.1.symm)] at hR1
      rw [hR1]
      rfl
set_option maxHeartbeats 8000000 in
 theorem of_no (s s1 : ByteArray) (c : Int) (b1 : Bool) (k1 : Nat) (w : World)
    (h1 : decode_reader_take.f k1 s false 1 true = some (c, s1, b1)) (hc : 0 ≤ c ∧ c < 256) (hkn0 : decode_known.f c = some false) :
    Calls Try.prog 12 #[.string s] w fun e w' => e = .returned (.tuple #[.agg #[.int .i64 0, .int .i64 0, .int .i64 0, .int .u64 0, .int .u64 0, .int .u64 0], .int .i64 2]) ∧ Below w.heap.size w w' := by
  have hkn := Lib.hid hkn0
  clear hkn0
  have hwc : IntKind.i64.wrap c = c := by simp [IntKind.wrap, IntKind.bits, IntKind.signed]; omega
  go_enter Try.func12, Try.ntmps12
  go_wp2_with fail
  have hS0 : IsS59 w ((w.alloc (Obj.cells #[.int .i64 0, .int .i64 0, .int .i64 0, .int .u64 0, .int .u64 0, .int .u64 0] 25)).alloc (Obj.cells #[.string s, .bool false] 59)) (w.heap.size + 1) s false := by
    have := IsS59.new w (w.alloc (Obj.cells #[.int .i64 0, .int .i64 0, .int .i64 0, .int .u64 0, .int .u64 0, .int .u64 0] 25)) s false ((Below.refl _ _).alloc (Nat.le_refl _) _)
    simpa using this
  refine (decode_reader_take.calls k1 (w.heap.size + 1) s false 1 true c s1 b1 w _ hS0 (((Below.refl _ _).alloc (Nat.le_refl _) _).alloc (by simp) _) h1).mono ?_
  rintro e w1 ⟨rfl, hI1, hB1, hK1⟩
  have hq1 : w1.heap[w.heap.size]? = some (.cells #[.int .i64 0, .int .i64 0, .int .i64 0, .int .u64 0, .int .u64 0, .int .u64 0] 25 (0, 0)) := by
    rw [hK1.2 w.heap.size (by simp; omega) (by omega) (by simp)]
    exact blk_alloc (blk_new _ _) _
  have hs1 : w.heap.size + 1 < w1.heap.size := by have := hK1.1; simp at this; omega
  clear hS0 hK1
  go_wp2_with fail
  refine (decode_known.calls c false _ hkn.out).mono ?_
  rintro e w2 ⟨rfl, hD⟩
  have hB2 : Below w.heap.size w w2 := Giv.below_trans2 (hB1.alloc (by omega) _) hD.below (by simp; omega)
  have hQ2 := blk_below (blk_alloc hq1 (.cells #[.int .i64 c, .int .i64 0, .int .i64 0, .int .u64 0, .int .u64 0, .int .u64 0] 25)) hD.below
  have q0 : w2.cell? ⟨w.heap.size, 0, none⟩ = some (.int .i64 0) := blk_cell hQ2 0
  have q1 : w2.cell? ⟨w.heap.size, 1, none⟩ = some (.int .i64 0) := blk_cell hQ2 1
  have q2 : w2.cell? ⟨w.heap.size, 2, none⟩ = some (.int .i64 0) := blk_cell hQ2 2
  have q3 : w2.cell? ⟨w.heap.size, 3, none⟩ = some (.int .u64 0) := blk_cell hQ2 3
  have q4 : w2.cell? ⟨w.heap.size, 4, none⟩ = some (.int .u64 0) := blk_cell hQ2 4
  have q5 : w2.cell? ⟨w.heap.size, 5, none⟩ = some (.int .u64 0) := blk_cell hQ2 5
  have fq0 := blk_frozen hQ2 0
  have fq1 := blk_frozen hQ2 1
  have fq2 := blk_frozen hQ2 2
  have fq3 := blk_frozen hQ2 3
  have fq4 := blk_frozen hQ2 4
  have fq5 := blk_frozen hQ2 5
  clear hI1 hB1 hq1 hD
  go_wp2_with fail
  refine bodyPost_ret (results_ct rfl _ _ w.heap.size 25 #[.int .i64 0, .int .i64 0, .int .i64 0, .int .u64 0, .int .u64 0, .int .u64 0] (0, 0) _ rfl (six hQ2 _ _ _ _ _ _) Try.underlying25 rfl (by kernel_rfl)) rfl ⟨?_, six_below hB2 (Nat.le_refl _) _ _ _ _ _ _⟩
  rfl
 def ofL (l : List Int) : Int × Int × Int × Int × Int × Int × Int :=
  let t1 := tk 1 true l false
  let t2 := tk 8 (Giv.askh t1.1) t1.2.1 t1.2.2
  let t3 := tk 1 (Giv.askd t1.1) t2.2.1 t2.2.2
  let t4 := tk 1 (Giv.askf t1.1) t3.2.1 t3.2.2
  let t5 := tk 8 (Giv.aska t1.1) t4.2.1 t4.2.2
  let t6 := tk 8 (Giv.askb t1.1) t5.2.1 t5.2.2
  if 1 ≤ t1.1 ∧ t1.1 ≤ 12 then (if t6.2.2 = false ∧ t6.2.1 = [] ∧ Giv.OpF t1.1 t3.1 t4.1 t2.1 t5.1 t6.1 then (t1.1, t3.1, t4.1, t2.1, t5.1, t6.1, 0) else (0, 0, 0, 0, 0, 0, 2)) else (0, 0, 0, 0, 0, 0, 2)
 def res (x : Int × Int × Int × Int × Int × Int × Int) : Value := .tuple #[.agg #[.int .i64 x.1, .int .i64 x.2.1, .int .i64 x.2.2.1, .int .u64 x.2.2.2.1, .int .u64 x.2.2.2.2.1, .int .u64 x.2.2.2.2.2.1], .int .i64 x.2.2.2.2.2.2]
 theorem tk1_range (is : Bool) (l : List Int) (bad : Bool) (hl : ∀ x ∈ l, 0 ≤ x ∧ x < 256) : 0 ≤ (tk 1 is l bad).1 ∧ (tk 1 is l bad).1 < 256 := by
  unfold tk
  split
  · split
    · exact ⟨Int.le_refl 0, show (0 : Int) < 256 by decide⟩
    · have h1 := val_range (l.take 1) (fun x hx => hl x (List.mem_of_mem_take hx))
      have h2 : (l.take 1).length = 1 := by rw [List.length_take]; omega
      rw [h2] at h1
      exact h1
  · exact ⟨Int.le_refl 0, show (0 : Int) < 256 by decide⟩
 theorem of_any (s : ByteArray) (w : World) : Calls Try.prog 12 #[.string s] w fun e w' => e = .returned (res (ofL (nums s))) ∧ Below w.heap.size w w' := by
  obtain ⟨k1, s1, h1, e1⟩ := take_ex s false 1 (by omega) true
  have r1 := tk1_range true (nums s) false (nums_range s)
  by_cases hc : 1 ≤ (tk 1 true (nums s) false).1 ∧ (tk 1 true (nums s) false).1 ≤ 12
  · generalize ht1 : tk 1 true (nums s) false = t1 at *
    obtain ⟨k2, s2, h2, e2⟩ := take_ex s1 t1.2.2 8 (by omega) (Giv.askh t1.1)
    rw [e1] at h2 e2
    generalize ht2 : tk 8 (Giv.askh t1.1) t1.2.1 t1.2.2 = t2 at *
    obtain ⟨k3, s3, h3, e3⟩ := take_ex s2 t2.2.2 1 (by omega) (Giv.askd t1.1)
    have r3 := tk1_range (Giv.askd t1.1) (nums s2) t2.2.2 (nums_range s2)
    rw [e2] at h3 e3 r3
    generalize ht3 : tk 1 (Giv.askd t1.1) t2.2.1 t2.2.2 = t3 at *
    obtain ⟨k4, s4, h4, e4⟩ := take_ex s3 t3.2.2 1 (by omega) (Giv.askf t1.1)
    have r4 := tk1_range (Giv.askf t1.1) (nums s3) t3.2.2 (nums_range s3)
    rw [e3] at h4 e4 r4
    generalize ht4 : tk 1 (Giv.askf t1.1) t3.2.1 t3.2.2 = t4 at *
    obtain ⟨k5, s5, h5, e5⟩ := take_ex s4 t4.2.2 8 (by omega) (Giv.aska t1.1)
    rw [e4] at h5 e5
    generalize ht5 : tk 8 (Giv.aska t1.1) t4.2.1 t4.2.2 = t5 at *
    obtain ⟨k6, s6, h6, e6⟩ := take_ex s5 t5.2.2 8 (by omega) (Giv.askb t1.1)
    rw [e5] at h6 e6
    generalize ht6 : tk 8 (Giv.askb t1.1) t5.2.1 t5.2.2 = t6 at *
    refine of_yes s s1 s2 s3 s4 s5 s6 _ _ _ _ _ _ _ _ _ _ _ _ _ _ _ _ _ k1 k2 k3 k4 k5 k6 w h1 hc (by unfold decode_known.f; rw [if_pos (by omega), decide_eq_true hc.2]) (Giv.index_tab t1.1 hc.1 hc.2) h2 h3 h4 h5 h6 r3 r4 (decide (Giv.OpF t1.1 t3.1 t4.1 t2.1 t5.1 t6.1)) rfl (res (ofL (nums s))) ?_
    unfold ofL
    simp only [ht1, ht2, ht3, ht4, ht5, ht6]
    rw [if_pos hc]
    have e0 : s6.size = 0 ↔ t6.2.1 = [] := by
      rw [← e6, ← nums_len]
      exact List.length_eq_zero_iff
    by_cases hz : t6.2.2 = false ∧ t6.2.1 = [] ∧ Giv.OpF t1.1 t3.1 t4.1 t2.1 t5.1 t6.1
    · rw [if_pos hz, if_pos ⟨hz.1, e0.2 hz.2.1, decide_eq_true hz.2.2⟩]
      rfl
    · rw [if_neg hz, if_neg (fun x => hz ⟨x.1, e0.1 x.2.1, of_decide_eq_true x.2.2⟩)]
      rfl
  · have := of_no s s1 _ _ k1 w h1 r1 (by unfold decode_known.f; split <;> simp <;> omega)
    have e : ofL (nums s) = (0, 0, 0, 0, 0, 0, 2) := by
      unfold ofL
      simp only
      rw [if_neg hc]
    rw [e]
    exact this
end Giv4
def decode_Of.f (a0 : ByteArray) : Option (Int × Int × Int × Int × Int × Int × Int) := some (Giv4.ofL (Giv4.nums a0))
theorem decode_Of.calls (a0 : ByteArray) (r1 : Int) (r2 : Int) (r3 : Int) (r4 : Int) (r5 : Int) (r6 : Int) (r7 : Int) (w : World) (h : decode_Of.f a0 = some (r1, r2, r3, r4, r5, r6, r7)) :
    Calls Try.prog 12 #[.string a0] w fun e w' => e = .returned (.tuple #[.agg #[.int .i64 r1, .int .i64 r2, .int .i64 r3, .int .u64 r4, .int .u64 r5, .int .u64 r6], .int .i64 r7]) ∧ Below w.heap.size w w' := by
  have e := Option.some.inj h
  have := Giv4.of_any a0 w
  rw [e] at this
  exact this

/-! ### cubicleref18_asks: function 39 -/
def cubicleref18_asks.f (a0 : Int) : Option (ByteArray) := (some (([(⟨#[]⟩ : ByteArray), (⟨#[]⟩ : ByteArray), (⟨#[104]⟩ : ByteArray), (⟨#[104, 102]⟩ : ByteArray), (⟨#[104, 102, 97]⟩ : ByteArray), (⟨#[104, 102, 97, 98]⟩ : ByteArray), (⟨#[]⟩ : ByteArray), (⟨#[100, 97]⟩ : ByteArray), (⟨#[100]⟩ : ByteArray), (⟨#[]⟩ : ByteArray), (⟨#[100, 97, 98]⟩ : ByteArray), (⟨#[100, 97]⟩ : ByteArray), (⟨#[100, 97]⟩ : ByteArray)] : List ByteArray) : List ByteArray)).bind fun y106 => (if a0 < 1 then (some (⟨#[]⟩ : ByteArray)) else (if a0 > 12 then (some (⟨#[]⟩ : ByteArray)) else (if 0 ≤ a0 then (if a0 < (y106.length : Int) then (some (rdOf ByteArray.empty y106 a0)) else (none)) else (none))))
set_option maxHeartbeats 8000000 in
set_option maxRecDepth 100000 in
theorem cubicleref18_asks.calls (a0 : Int) (r : ByteArray) (w : World) (h : cubicleref18_asks.f a0 = some r) :
    Calls Try.prog 39 #[.int .i64 a0] w fun e w' => e = .returned (.string r) ∧ Below w.heap.size w w' := by
  have HB := Aside0.mk (Below.refl w.heap.size w)
  have H : ((some (([(⟨#[]⟩ : ByteArray), (⟨#[]⟩ : ByteArray), (⟨#[104]⟩ : ByteArray), (⟨#[104, 102]⟩ : ByteArray), (⟨#[104, 102, 97]⟩ : ByteArray), (⟨#[104, 102, 97, 98]⟩ : ByteArray), (⟨#[]⟩ : ByteArray), (⟨#[100, 97]⟩ : ByteArray), (⟨#[100]⟩ : ByteArray), (⟨#[]⟩ : ByteArray), (⟨#[100, 97, 98]⟩ : ByteArray), (⟨#[100, 97]⟩ : ByteArray), (⟨#[100, 97]⟩ : ByteArray)] : List ByteArray) : List ByteArray)).bind fun y106 => (if a0 < 1 then (some (⟨#[]⟩ : ByteArray)) else (if a0 > 12 then (some (⟨#[]⟩ : ByteArray)) else (if 0 ≤ a0 then (if a0 < (y106.length : Int) then (some (rdOf ByteArray.empty y106 a0)) else (none)) else (none))))) = some r := h
  clear h
  obtain ⟨y106, hy106⟩ : ∃ y_ : List ByteArray, y_ = (([(⟨#[]⟩ : ByteArray), (⟨#[]⟩ : ByteArray), (⟨#[104]⟩ : ByteArray), (⟨#[104, 102]⟩ : ByteArray), (⟨#[104, 102, 97]⟩ : ByteArray), (⟨#[104, 102, 97, 98]⟩ : ByteArray), (⟨#[]⟩ : ByteArray), (⟨#[100, 97]⟩ : ByteArray), (⟨#[100]⟩ : ByteArray), (⟨#[]⟩ : ByteArray), (⟨#[100, 97, 98]⟩ : ByteArray), (⟨#[100, 97]⟩ : ByteArray), (⟨#[100, 97]⟩ : ByteArray)] : List ByteArray)) := ⟨_, rfl⟩
  replace H : (if a0 < 1 then (some (⟨#[]⟩ : ByteArray)) else (if a0 > 12 then (some (⟨#[]⟩ : ByteArray)) else (if 0 ≤ a0 then (if a0 < (y106.length : Int) then (some (rdOf ByteArray.empty y106 a0)) else (none)) else (none)))) = some r := by first | (rw [hy106]; with_reducible exact H) | (have H2_ := (Option.bind_some _ _).symm.trans H; rw [hy106]; with_reducible exact H2_) | (have H2_ := (Option.bind_some _ _).symm.trans H; with_reducible exact H2_) | with_reducible exact H | (rw [hy106]; exact H) | exact H
  have Ny106 := Aside0.mk hy106
  clear hy106
  by_cases c2 : a0 < 1
  · rw [if_pos c2] at H
    have c2b0 : decide (a0 < 1) = true := decide_eq_true c2
    clear c2
    obtain rfl := Option.some.inj H
    go_enter Try.func39, Try.ntmps39
    go_wp2_with (first | ((with_reducible refine gate_dst (N := 4) rfl ?_); refine Kd.R_lit Kd.string _ 9 ?hg (N := 4) ?hd (xs := ([(⟨#[]⟩ : ByteArray), (⟨#[]⟩ : ByteArray), (⟨#[104]⟩ : ByteArray), (⟨#[104, 102]⟩ : ByteArray), (⟨#[104, 102, 97]⟩ : ByteArray), (⟨#[104, 102, 97, 98]⟩ : ByteArray), (⟨#[]⟩ : ByteArray), (⟨#[100, 97]⟩ : ByteArray), (⟨#[100]⟩ : ByteArray), (⟨#[]⟩ : ByteArray), (⟨#[100, 97, 98]⟩ : ByteArray), (⟨#[100, 97]⟩ : ByteArray), (⟨#[100, 97]⟩ : ByteArray)] : List ByteArray)) (inner := [.string (⟨#[]⟩ : ByteArray), .string (⟨#[]⟩ : ByteArray), .string (⟨#[104]⟩ : ByteArray), .string (⟨#[104, 102]⟩ : ByteArray), .string (⟨#[104, 102, 97]⟩ : ByteArray), .string (⟨#[104, 102, 97, 98]⟩ : ByteArray), .string (⟨#[]⟩ : ByteArray), .string (⟨#[100, 97]⟩ : ByteArray), .string (⟨#[100]⟩ : ByteArray), .string (⟨#[]⟩ : ByteArray), .string (⟨#[100, 97, 98]⟩ : ByteArray), .string (⟨#[100, 97]⟩ : ByteArray), .string (⟨#[100, 97]⟩ : ByteArray)]) (ok := fun _ => True) (okp := fun _ => True) ?hr ?hp (fun _ hk => hk) trivial (Below.refl _ _) (Nat.le_refl _) (by simp) ?_; (case hd => rfl); (case hg => rfl); (case hr => first | (go_simp; done) | (go_simp; rfl)); (case hp => exact (Reps.one (show Kd.M Kd.string _ _ _ (⟨#[]⟩ : ByteArray) [.string (⟨#[]⟩ : ByteArray)] from rfl) (Reps.one (show Kd.M Kd.string _ _ _ (⟨#[]⟩ : ByteArray) [.string (⟨#[]⟩ : ByteArray)] from rfl) (Reps.one (show Kd.M Kd.string _ _ _ (⟨#[104]⟩ : ByteArray) [.string (⟨#[104]⟩ : ByteArray)] from rfl) (Reps.one (show Kd.M Kd.string _ _ _ (⟨#[104, 102]⟩ : ByteArray) [.string (⟨#[104, 102]⟩ : ByteArray)] from rfl) (Reps.one (show Kd.M Kd.string _ _ _ (⟨#[104, 102, 97]⟩ : ByteArray) [.string (⟨#[104, 102, 97]⟩ : ByteArray)] from rfl) (Reps.one (show Kd.M Kd.string _ _ _ (⟨#[104, 102, 97, 98]⟩ : ByteArray) [.string (⟨#[104, 102, 97, 98]⟩ : ByteArray)] from rfl) (Reps.one (show Kd.M Kd.string _ _ _ (⟨#[]⟩ : ByteArray) [.string (⟨#[]⟩ : ByteArray)] from rfl) (Reps.one (show Kd.M Kd.string _ _ _ (⟨#[100, 97]⟩ : ByteArray) [.string (⟨#[100, 97]⟩ : ByteArray)] from rfl) (Reps.one (show Kd.M Kd.string _ _ _ (⟨#[100]⟩ : ByteArray) [.string (⟨#[100]⟩ : ByteArray)] from rfl) (Reps.one (show Kd.M Kd.string _ _ _ (⟨#[]⟩ : ByteArray) [.string (⟨#[]⟩ : ByteArray)] from rfl) (Reps.one (show Kd.M Kd.string _ _ _ (⟨#[100, 97, 98]⟩ : ByteArray) [.string (⟨#[100, 97, 98]⟩ : ByteArray)] from rfl) (Reps.one (show Kd.M Kd.string _ _ _ (⟨#[100, 97]⟩ : ByteArray) [.string (⟨#[100, 97]⟩ : ByteArray)] from rfl) (Reps.one (show Kd.M Kd.string _ _ _ (⟨#[100, 97]⟩ : ByteArray) [.string (⟨#[100, 97]⟩ : ByteArray)] from rfl) (Reps.none _ _))))))))))))))); intro v107 w3 ho4 hb hg_ hnew_; clear hg_ hnew_; (first | rw [← Ny106.out] at ho4 | (simp only [Int.reduceToNat] at ho4; rw [← Ny106.out] at ho4)); have n0_ := Aside0.mk (Kd.R_lower ho4 (below_size (by repeat (first | (with_reducible first | exact HB.out | apply below_alloc | apply pw_below_drewN | apply below_drew1) | exact HB.out)))); have n1_ := Aside0.mk (below_step (by repeat (first | (with_reducible first | exact HB.out | apply below_alloc | apply pw_below_drewN | apply below_drew1) | exact HB.out)) hb); clear HB; have HO108 := n0_; have HB := n1_; clear n0_ n1_; clear hb ho4))
    go_ret
    exact ⟨by first | rfl | (simp [errW_none, errW_some] <;> rfl) | (simp [*, errW_none, errW_some] <;> rfl), by repeat (first | (with_reducible first | exact HB.out | apply below_alloc | apply pw_below_drewN | apply below_drew1) | exact HB.out)⟩
  · rw [if_neg c2] at H
    have c2b0 : decide (a0 < 1) = false := decide_eq_false c2
    clear c2
    by_cases c5 : a0 > 12
    · rw [if_pos c5] at H
      have c5b0 : decide (12 < a0) = true := decide_eq_true c5
      clear c5
      obtain rfl := Option.some.inj H
      go_enter Try.func39, Try.ntmps39
      go_wp2_with (first | ((with_reducible refine gate_dst (N := 4) rfl ?_); refine Kd.R_lit Kd.string _ 9 ?hg (N := 4) ?hd (xs := ([(⟨#[]⟩ : ByteArray), (⟨#[]⟩ : ByteArray), (⟨#[104]⟩ : ByteArray), (⟨#[104, 102]⟩ : ByteArray), (⟨#[104, 102, 97]⟩ : ByteArray), (⟨#[104, 102, 97, 98]⟩ : ByteArray), (⟨#[]⟩ : ByteArray), (⟨#[100, 97]⟩ : ByteArray), (⟨#[100]⟩ : ByteArray), (⟨#[]⟩ : ByteArray), (⟨#[100, 97, 98]⟩ : ByteArray), (⟨#[100, 97]⟩ : ByteArray), (⟨#[100, 97]⟩ : ByteArray)] : List ByteArray)) (inner := [.string (⟨#[]⟩ : ByteArray), .string (⟨#[]⟩ : ByteArray), .string (⟨#[104]⟩ : ByteArray), .string (⟨#[104, 102]⟩ : ByteArray), .string (⟨#[104, 102, 97]⟩ : ByteArray), .string (⟨#[104, 102, 97, 98]⟩ : ByteArray), .string (⟨#[]⟩ : ByteArray), .string (⟨#[100, 97]⟩ : ByteArray), .string (⟨#[100]⟩ : ByteArray), .string (⟨#[]⟩ : ByteArray), .string (⟨#[100, 97, 98]⟩ : ByteArray), .string (⟨#[100, 97]⟩ : ByteArray), .string (⟨#[100, 97]⟩ : ByteArray)]) (ok := fun _ => True) (okp := fun _ => True) ?hr ?hp (fun _ hk => hk) trivial (Below.refl _ _) (Nat.le_refl _) (by simp) ?_; (case hd => rfl); (case hg => rfl); (case hr => first | (go_simp; done) | (go_simp; rfl)); (case hp => exact (Reps.one (show Kd.M Kd.string _ _ _ (⟨#[]⟩ : ByteArray) [.string (⟨#[]⟩ : ByteArray)] from rfl) (Reps.one (show Kd.M Kd.string _ _ _ (⟨#[]⟩ : ByteArray) [.string (⟨#[]⟩ : ByteArray)] from rfl) (Reps.one (show Kd.M Kd.string _ _ _ (⟨#[104]⟩ : ByteArray) [.string (⟨#[104]⟩ : ByteArray)] from rfl) (Reps.one (show Kd.M Kd.string _ _ _ (⟨#[104, 102]⟩ : ByteArray) [.string (⟨#[104, 102]⟩ : ByteArray)] from rfl) (Reps.one (show Kd.M Kd.string _ _ _ (⟨#[104, 102, 97]⟩ : ByteArray) [.string (⟨#[104, 102, 97]⟩ : ByteArray)] from rfl) (Reps.one (show Kd.M Kd.string _ _ _ (⟨#[104, 102, 97, 98]⟩ : ByteArray) [.string (⟨#[104, 102, 97, 98]⟩ : ByteArray)] from rfl) (Reps.one (show Kd.M Kd.string _ _ _ (⟨#[]⟩ : ByteArray) [.string (⟨#[]⟩ : ByteArray)] from rfl) (Reps.one (show Kd.M Kd.string _ _ _ (⟨#[100, 97]⟩ : ByteArray) [.string (⟨#[100, 97]⟩ : ByteArray)] from rfl) (Reps.one (show Kd.M Kd.string _ _ _ (⟨#[100]⟩ : ByteArray) [.string (⟨#[100]⟩ : ByteArray)] from rfl) (Reps.one (show Kd.M Kd.string _ _ _ (⟨#[]⟩ : ByteArray) [.string (⟨#[]⟩ : ByteArray)] from rfl) (Reps.one (show Kd.M Kd.string _ _ _ (⟨#[100, 97, 98]⟩ : ByteArray) [.string (⟨#[100, 97, 98]⟩ : ByteArray)] from rfl) (Reps.one (show Kd.M Kd.string _ _ _ (⟨#[100, 97]⟩ : ByteArray) [.string (⟨#[100, 97]⟩ : ByteArray)] from rfl) (Reps.one (show Kd.M Kd.string _ _ _ (⟨#[100, 97]⟩ : ByteArray) [.string (⟨#[100, 97]⟩ : ByteArray)] from rfl) (Reps.none _ _))))))))))))))); intro v107 w6 ho7 hb hg_ hnew_; clear hg_ hnew_; (first | rw [← Ny106.out] at ho7 | (simp only [Int.reduceToNat] at ho7; rw [← Ny106.out] at ho7)); have n0_ := Aside0.mk (Kd.R_lower ho7 (below_size (by repeat (first | (with_reducible first | exact HB.out | apply below_alloc | apply pw_below_drewN | apply below_drew1) | exact HB.out)))); have n1_ := Aside0.mk (below_step (by repeat (first | (with_reducible first | exact HB.out | apply below_alloc | apply pw_below_drewN | apply below_drew1) | exact HB.out)) hb); clear HB; have HO108 := n0_; have HB := n1_; clear n0_ n1_; clear hb ho7))
      go_ret
      exact ⟨by first | rfl | (simp [errW_none, errW_some] <;> rfl) | (simp [*, errW_none, errW_some] <;> rfl), by repeat (first | (with_reducible first | exact HB.out | apply below_alloc | apply pw_below_drewN | apply below_drew1) | exact HB.out)⟩
    · rw [if_neg c5] at H
      have c5b0 : decide (12 < a0) = false := decide_eq_false c5
      clear c5
      by_cases c8 : 0 ≤ a0
      · rw [if_pos c8] at H
        have c8b0 : decide (0 ≤ a0) = true := decide_eq_true c8
        clear c8
        by_cases c9 : a0 < (y106.length : Int)
        · rw [if_pos c9] at H
          have c9b0 : decide (a0 < (y106.length : Int)) = true := decide_eq_true c9
          clear c9
          obtain rfl := Option.some.inj H
          go_enter Try.func39, Try.ntmps39
          go_wp2_with (first | ((with_reducible refine gate_dst (N := 4) rfl ?_); refine Kd.R_lit Kd.string _ 9 ?hg (N := 4) ?hd (xs := ([(⟨#[]⟩ : ByteArray), (⟨#[]⟩ : ByteArray), (⟨#[104]⟩ : ByteArray), (⟨#[104, 102]⟩ : ByteArray), (⟨#[104, 102, 97]⟩ : ByteArray), (⟨#[104, 102, 97, 98]⟩ : ByteArray), (⟨#[]⟩ : ByteArray), (⟨#[100, 97]⟩ : ByteArray), (⟨#[100]⟩ : ByteArray), (⟨#[]⟩ : ByteArray), (⟨#[100, 97, 98]⟩ : ByteArray), (⟨#[100, 97]⟩ : ByteArray), (⟨#[100, 97]⟩ : ByteArray)] : List ByteArray)) (inner := [.string (⟨#[]⟩ : ByteArray), .string (⟨#[]⟩ : ByteArray), .string (⟨#[104]⟩ : ByteArray), .string (⟨#[104, 102]⟩ : ByteArray), .string (⟨#[104, 102, 97]⟩ : ByteArray), .string (⟨#[104, 102, 97, 98]⟩ : ByteArray), .string (⟨#[]⟩ : ByteArray), .string (⟨#[100, 97]⟩ : ByteArray), .string (⟨#[100]⟩ : ByteArray), .string (⟨#[]⟩ : ByteArray), .string (⟨#[100, 97, 98]⟩ : ByteArray), .string (⟨#[100, 97]⟩ : ByteArray), .string (⟨#[100, 97]⟩ : ByteArray)]) (ok := fun _ => True) (okp := fun _ => True) ?hr ?hp (fun _ hk => hk) trivial (Below.refl _ _) (Nat.le_refl _) (by simp) ?_; (case hd => rfl); (case hg => rfl); (case hr => first | (go_simp; done) | (go_simp; rfl)); (case hp => exact (Reps.one (show Kd.M Kd.string _ _ _ (⟨#[]⟩ : ByteArray) [.string (⟨#[]⟩ : ByteArray)] from rfl) (Reps.one (show Kd.M Kd.string _ _ _ (⟨#[]⟩ : ByteArray) [.string (⟨#[]⟩ : ByteArray)] from rfl) (Reps.one (show Kd.M Kd.string _ _ _ (⟨#[104]⟩ : ByteArray) [.string (⟨#[104]⟩ : ByteArray)] from rfl) (Reps.one (show Kd.M Kd.string _ _ _ (⟨#[104, 102]⟩ : ByteArray) [.string (⟨#[104, 102]⟩ : ByteArray)] from rfl) (Reps.one (show Kd.M Kd.string _ _ _ (⟨#[104, 102, 97]⟩ : ByteArray) [.string (⟨#[104, 102, 97]⟩ : ByteArray)] from rfl) (Reps.one (show Kd.M Kd.string _ _ _ (⟨#[104, 102, 97, 98]⟩ : ByteArray) [.string (⟨#[104, 102, 97, 98]⟩ : ByteArray)] from rfl) (Reps.one (show Kd.M Kd.string _ _ _ (⟨#[]⟩ : ByteArray) [.string (⟨#[]⟩ : ByteArray)] from rfl) (Reps.one (show Kd.M Kd.string _ _ _ (⟨#[100, 97]⟩ : ByteArray) [.string (⟨#[100, 97]⟩ : ByteArray)] from rfl) (Reps.one (show Kd.M Kd.string _ _ _ (⟨#[100]⟩ : ByteArray) [.string (⟨#[100]⟩ : ByteArray)] from rfl) (Reps.one (show Kd.M Kd.string _ _ _ (⟨#[]⟩ : ByteArray) [.string (⟨#[]⟩ : ByteArray)] from rfl) (Reps.one (show Kd.M Kd.string _ _ _ (⟨#[100, 97, 98]⟩ : ByteArray) [.string (⟨#[100, 97, 98]⟩ : ByteArray)] from rfl) (Reps.one (show Kd.M Kd.string _ _ _ (⟨#[100, 97]⟩ : ByteArray) [.string (⟨#[100, 97]⟩ : ByteArray)] from rfl) (Reps.one (show Kd.M Kd.string _ _ _ (⟨#[100, 97]⟩ : ByteArray) [.string (⟨#[100, 97]⟩ : ByteArray)] from rfl) (Reps.none _ _))))))))))))))); intro v107 w10 ho11 hb hg_ hnew_; clear hg_ hnew_; (first | rw [← Ny106.out] at ho11 | (simp only [Int.reduceToNat] at ho11; rw [← Ny106.out] at ho11)); have n0_ := Aside0.mk (Kd.R_lower ho11 (below_size (by repeat (first | (with_reducible first | exact HB.out | apply below_alloc | apply pw_below_drewN | apply below_drew1) | exact HB.out)))); have n1_ := Aside0.mk (below_step (by repeat (first | (with_reducible first | exact HB.out | apply below_alloc | apply pw_below_drewN | apply below_drew1) | exact HB.out)) hb); clear HB; have HO108 := n0_; have HB := n1_; clear n0_ n1_; clear hb ho11; obtain ⟨Ao12, co12, eo12⟩ := Kd.R_slice HO108.out; subst eo12; have p109 : 0 ≤ (a0 : Int) := of_decide_eq_true (by first | (with_reducible assumption) | assumption); have q109 : a0 < (y106.length : Int) := of_decide_eq_true (by first | (with_reducible assumption) | assumption); obtain ⟨ad109, e109, hx109_0⟩ := Kd.at_string (Kd.R_reads' HO108.out).2.2 a0 p109 q109; cases e109; replace p109 := eq_true p109; replace q109 := eq_true q109))
          go_ret
          exact ⟨by first | rfl | (simp [errW_none, errW_some] <;> rfl) | (simp [*, errW_none, errW_some] <;> rfl), by repeat (first | (with_reducible first | exact HB.out | apply below_alloc | apply pw_below_drewN | apply below_drew1) | exact HB.out)⟩
        · rw [if_neg c9] at H
          exact absurd H (by simp)
      · rw [if_neg c8] at H
        exact absurd H (by simp)

/-! ### cubicleref18_has: function 42 -/
def cubicleref18_has.l0 : Nat → ByteArray → Int → Int → Option (Bool)
  | 0, _, _, _ => none
  | k + 1, x0, x1, x5 => if x5 < (x0.size : Int) then (if 0 ≤ x5 then (if (bt x0 x5) = x1 then (some true) else (cubicleref18_has.l0 k x0 x1 (wrap64 (x5 + 1)))) else (none)) else (some false)
def cubicleref18_has.f (k : Nat) (a0 : ByteArray) (a1 : Int) : Option (Bool) := cubicleref18_has.l0 k a0 a1 0
theorem cubicleref18_has.mono_l : ∀ k, (∀ y0 y1 y2, LeO (cubicleref18_has.l0 k y0 y1 y2) (cubicleref18_has.l0 (k + 1) y0 y1 y2))
  | 0 => fun _ _ _ r h => by simp [cubicleref18_has.l0] at h
  | k + 1 => by
    have ih0 := cubicleref18_has.mono_l k
    · intro y0 y1 y2
      unfold cubicleref18_has.l0
      repeat' first
      | (with_reducible exact ih0 _ _ _)
      | (with_reducible exact LeO.refl _)
      | (with_reducible exact LeO.none _)
      | (with_reducible refine LeO.ite ?_ ?_)
      | (with_reducible refine LeO.bind ?_ (fun _ => ?_))
      | exact ih0 _ _ _
      | exact LeO.none _
      | refine LeO.ite ?_ ?_
      | refine LeO.bind ?_ (fun _ => ?_)
theorem cubicleref18_has.mono : ∀ a0 a1 k, LeO (cubicleref18_has.f k a0 a1) (cubicleref18_has.f (k + 1) a0 a1) := by
  intro a0 a1 k
  have ih0 := cubicleref18_has.mono_l k
  unfold cubicleref18_has.f
  repeat' first
      | (with_reducible exact ih0 _ _ _)
      | (with_reducible exact LeO.refl _)
      | (with_reducible exact LeO.none _)
      | (with_reducible refine LeO.ite ?_ ?_)
      | (with_reducible refine LeO.bind ?_ (fun _ => ?_))
      | exact ih0 _ _ _
      | exact LeO.none _
      | refine LeO.ite ?_ ?_
      | refine LeO.bind ?_ (fun _ => ?_)
set_option maxHeartbeats 8000000 in
set_option maxRecDepth 100000 in
theorem cubicleref18_has.calls (k : Nat) (a0 : ByteArray) (a1 : Int) (r : Bool) (w : World) (h : cubicleref18_has.f k a0 a1 = some r) :
    Calls Try.prog 42 #[.string a0, .int .u8 a1] w fun e w' => e = .returned (.bool r) ∧ Drawn0 w w' := by
  have H : (cubicleref18_has.l0 k a0 a1 0) = some r := h
  clear h
  have H' := Aside0.mk H
  clear H
  go_enter Try.func42, Try.ntmps42
  go_wp2
  go_loopg [5] k (fun kq v5 w' => ∃ (x5_1 : Int), v5 = .int .i64 x5_1 ∧ Aside0 (cubicleref18_has.l0 kq a0 a1 x5_1 = some r) ∧ Aside0 (kq ≤ k) ∧ Drawn0 w w')
  case atStart => exact ⟨(0), (by first | rfl | (simp; done) | (simp [*]; done)), H', ⟨Nat.le_refl _⟩, by repeat (first | exact Drawn0.refl _ | apply Drawn0.step)⟩
  case round =>
    clear H'
    try clear p2
    obtain ⟨x5_1, rfl, HA, HK1, ⟨m1, rfl⟩⟩ := hrel
    cases gk with
    | zero => exact absurd HA.out (by simp [cubicleref18_has.l0])
    | succ k1 =>
      have H := HA.out
      clear HA
      simp only [cubicleref18_has.l0] at H
      by_cases c3 : x5_1 < (a0.size : Int)
      · rw [if_pos c3] at H
        have c3b0 : decide (x5_1 < (a0.size : Int)) = true := decide_eq_true c3
        clear c3
        by_cases c4 : 0 ≤ x5_1
        · rw [if_pos c4] at H
          have c4b0 : decide (0 ≤ x5_1) = true := decide_eq_true c4
          clear c4
          by_cases c6 : (bt a0 x5_1) = a1
          · rw [if_pos c6] at H
            have c6b0 : ((bt a0 x5_1) == a1) = true := beq_iff_eq.mpr c6
            have c6b1 : ((bt a0 x5_1) != a1) = false := bne_eq_false_iff_eq.mpr c6
            clear c6
            obtain rfl := Option.some.inj H
            have p5 : 0 ≤ (x5_1 : Int) := of_decide_eq_true (by first | (with_reducible assumption) | assumption)
            have q5 : x5_1 < (a0.size : Int) := of_decide_eq_true (by first | (with_reducible assumption) | assumption)
            have hx5 := bt_at a0 x5_1
            replace p5 := eq_true p5
            replace q5 := eq_true q5
            go_wp2
            go_ret
            exact ⟨by first | rfl | (simp; done) | (simp [*]; done), by repeat (first | exact Drawn0.refl _ | apply Drawn0.step)⟩
          · rw [if_neg c6] at H
            have c6b0 : ((bt a0 x5_1) == a1) = false := beq_eq_false_iff_ne.mpr c6
            have c6b1 : ((bt a0 x5_1) != a1) = true := bne_iff_ne.mpr c6
            have H' := Aside0.mk H
            clear H
            have p5 : 0 ≤ (x5_1 : Int) := of_decide_eq_true (by first | (with_reducible assumption) | assumption)
            have q5 : x5_1 < (a0.size : Int) := of_decide_eq_true (by first | (with_reducible assumption) | assumption)
            have hx5 := bt_at a0 x5_1
            replace p5 := eq_true p5
            replace q5 := eq_true q5
            go_wp2
            go_roundg k1
            case measure => have := HK1.out; omega
            case rel => exact ⟨(wrap64 (x5_1 + 1)), (by first | rfl | (simp; done) | (simp [*]; done)), H', ⟨by have := HK1.out; omega⟩, by repeat (first | exact Drawn0.refl _ | apply Drawn0.step)⟩
        · rw [if_neg c4] at H
          exact absurd H (by simp)
      · rw [if_neg c3] at H
        have c3b0 : decide (x5_1 < (a0.size : Int)) = false := decide_eq_false c3
        clear c3
        obtain rfl := Option.some.inj H
        go_wp2
        go_ret
        exact ⟨by first | rfl | (simp; done) | (simp [*]; done), by repeat (first | exact Drawn0.refl _ | apply Drawn0.step)⟩

end Go.Proofs.Ytdmiingneodcbaa.PDecodeOf
