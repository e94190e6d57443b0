/- HandleApart: two formed handles have one word just if they are one; a handle is one tenant's alone, of as many nodes as are more than its Index. -/
import Derived.Test.YtdmenimdhcicjaaHHandleApart
import Derived.Test.YtdmenimdhcicjaaFunWays
import Derived.Test.YtdmenimdhcicjaaFunExt
import Derived.Test.YtdmenimdhcicjaaFunLaw
namespace Go.Proofs.Ytdmenimdhcicjaa.Pure
open Go Go.RowKit Go.Proofs.Ytdmenimdhcicjaa.PHandleApart Go.Proofs.Ytdmenimdhcicjaa.HHandleApart Go.Proofs.Ytdmenimdhcicjaa.FB Go.Proofs.Ytdmenimdhcicjaa.FN Go.Proofs.Ytdmenimdhcicjaa.Fun Go.Proofs.YtdmenimdhcicjaaW.PrintWords
set_option linter.unusedVariables false
theorem is9 : IsFn Try.prog 9 := ⟨_, Try.func9, by kernel_rfl, by kernel_rfl⟩
theorem is10 : IsFn Try.prog 10 := ⟨_, Try.func10, by kernel_rfl, by kernel_rfl⟩
theorem is11 : IsFn Try.prog 11 := ⟨_, Try.func11, by kernel_rfl, by kernel_rfl⟩
theorem is12 : IsFn Try.prog 12 := ⟨_, Try.func12, by kernel_rfl, by kernel_rfl⟩
theorem awakeOk (m : Mu) : CallOk Try.prog 9 [] m (.bool true) m false [] := by
  obtain ⟨k, hk⟩ := hawake_eq.rounds
  exact callOk_flat is9 (vs := []) (v := .bool true) rfl rfl fun w => cubiclelaw08_awake.calls k true w hk
theorem formedOk (i g t : Int) (m : Mu) : CallOk Try.prog 10 [.agg [.int .i64 i, .int .i64 g, .int .i64 t]] m (.bool (decide (HdF i g t))) m false [] :=
  callOk_flat is10 (vs := [.agg #[.int .i64 i, .int .i64 g, .int .i64 t]]) (v := .bool (decide (HdF i g t))) rfl rfl fun w => cubicleref08_Formed.calls _ _ _ _ w (rhformed_eq i g t)
theorem wordOk (i g t : Int) (m : Mu) : CallOk Try.prog 12 [.agg [.int .i64 i, .int .i64 g, .int .i64 t]] m (.int .u64 (hdw i g t)) m false [] := by
  obtain ⟨k, hk⟩ := (hword_eq i g t).rounds
  exact callOk_flat is12 (vs := [.agg #[.int .i64 i, .int .i64 g, .int .i64 t]]) (v := .int .u64 (hdw i g t)) rfl rfl fun w => handle_Handle_Word.calls k _ _ _ _ w hk
def mine (x t n : Int) : Int × Int × Int × Bool := if (ho x).2.2.2 = true then (if (ho x).2.2.1 = t then (if (ho x).1 ≥ n then (0, 0, 0, false) else ((ho x).1, (ho x).2.1, (ho x).2.2.1, true)) else (0, 0, 0, false)) else (0, 0, 0, false)
theorem mineOk (w : BitVec 64) (t n : Int) (m : Mu) : CallOk Try.prog 11 [.int .u64 (u w), .int .i64 t, .int .i64 n] m (.tup [.agg [.int .i64 (mine (u w) t n).1, .int .i64 (mine (u w) t n).2.1, .int .i64 (mine (u w) t n).2.2.1], .bool (mine (u w) t n).2.2.2]) m false [] := by
  have e1 : Ev (fun k => handle_Mine.f k (u w) t n) (mine (u w) t n) := by
    unfold handle_Mine.f mine
    refine Ev.bind (hof_eq w) ?_
    refine Ev.congr (f := fun _ => some _) (fun k => ?_) (Ev.now _)
    split
    · split
      · split <;> rfl
      · rfl
    · rfl
  obtain ⟨k, hk⟩ := e1.rounds
  exact callOk_flat is11 (vs := [.int .u64 (u w), .int .i64 t, .int .i64 n]) (v := .tuple #[.agg #[.int .i64 (mine (u w) t n).1, .int .i64 (mine (u w) t n).2.1, .int .i64 (mine (u w) t n).2.2.1], .bool (mine (u w) t n).2.2.2]) rfl rfl
    fun w' => handle_Mine.calls k _ _ _ _ _ _ _ w' hk
theorem ho_word {i g t : Int} (h : HdF i g t) : ho (hdw i g t) = (i, g, t, true) := by
  unfold ho hdw
  rw [if_pos h]
  unfold HdF at h
  rw [if_pos (by unfold Is; omega)]
  simp only [Prod.mk.injEq, and_true]
  omega
theorem hdw_bounds {i g t : Int} (h : HdF i g t) : 0 ≤ hdw i g t ∧ hdw i g t < 18446744073709551616 := by
  unfold hdw; rw [if_pos h]; unfold HdF at h; omega
theorem ok (i g t i' g' t' a n : Int) :
    CallOk Try.prog 4 [.agg [.int .i64 i, .int .i64 g, .int .i64 t], .agg [.int .i64 i', .int .i64 g', .int .i64 t'], .agg [.int .i64 a, .int .i64 n]] noMu (.bool true) noMu false [] := by
  by_cases h : HdF i g t
  · by_cases h' : HdF i' g' t'
    · obtain ⟨w, hw, _⟩ := word_num (hdw_bounds h).1 (hdw_bounds h).2
      have e10 : (((((hdw i g t : Int) == hdw i' g' t') : Bool) == (((i : Int) == i') && (((g : Int) == g') && (((t : Int) == t') && true)))) = true) := by
        have key : hdw i g t = hdw i' g' t' ↔ i = i' ∧ g = g' ∧ t = t' := by
          constructor
          · intro he
            have := ho_word h
            rw [he, ho_word h'] at this
            simp only [Prod.mk.injEq, and_true] at this
            obtain ⟨h1, h2, h3⟩ := this
            exact ⟨h1.symm, h2.symm, h3.symm⟩
          · rintro ⟨rfl, rfl, rfl⟩; rfl
        by_cases hk : i = i' ∧ g = g' ∧ t = t'
        · rw [beq_iff_eq.2 (key.2 hk)]; obtain ⟨rfl, rfl, rfl⟩ := hk; simp
        · have h0 : ((hdw i g t == hdw i' g' t') : Bool) = false := by rw [beq_eq_false_iff_ne]; exact fun he => hk (key.1 he)
          rw [h0]
          simp only [Bool.and_true, beq_iff_eq]
          symm
          rw [Bool.eq_false_iff]
          intro hh
          simp only [Bool.and_eq_true, beq_iff_eq] at hh
          exact hk hh
      have hm := mineOk w a n noMu
      rw [hw] at hm
      have hmine : (mine (hdw i g t) a n).2.2.2 = decide (t = a ∧ ¬ i ≥ n) := by
        unfold mine
        rw [ho_word h]
        simp only [if_true]
        by_cases h1 : t = a
        · by_cases h2 : i ≥ n
          · simp [h1, h2]
          · simp [h1, h2]
        · simp [h1]
      by_cases ha : a = t
      · have := f4_3 (awakeOk noMu) rfl (formedOk i g t noMu) (by rw [decide_eq_true h]; rfl) (formedOk i' g' t' noMu) (by rw [decide_eq_true h']; rfl) (wordOk i g t noMu) hm (wordOk i g t noMu) (wordOk i' g' t' noMu) e10 (by simp [ha])
        have e : ((mine (hdw i g t) a n).2.2.2 == decide (n > i)) = true := by
          rw [hmine]
          by_cases hn : n > i
          · rw [decide_eq_true hn, decide_eq_true (p := t = a ∧ ¬ i ≥ n) ⟨ha.symm, by omega⟩]; rfl
          · rw [decide_eq_false hn, decide_eq_false (p := t = a ∧ ¬ i ≥ n) (by omega)]; rfl
        rw [e] at this
        exact this
      · have := f4_2 (awakeOk noMu) rfl (formedOk i g t noMu) (by rw [decide_eq_true h]; rfl) (formedOk i' g' t' noMu) (by rw [decide_eq_true h']; rfl) (wordOk i g t noMu) hm (wordOk i g t noMu) (wordOk i' g' t' noMu) e10 (by simp [ha])
        have e : ((mine (hdw i g t) a n).2.2.2 == false) = true := by
          rw [hmine, decide_eq_false (p := t = a ∧ ¬ i ≥ n) (by omega)]; rfl
        rw [e] at this
        exact this
    · exact f4_4 (awakeOk noMu) rfl (formedOk i g t noMu) (by rw [decide_eq_true h]; rfl) (formedOk i' g' t' noMu) (by rw [decide_eq_false h']; rfl) (awakeOk noMu)
  · exact f4_5 (awakeOk noMu) rfl (formedOk i g t noMu) (by rw [decide_eq_false h]; rfl) (awakeOk noMu)
theorem HandleApart (i g t i' g' t' : Int) (zs : List Int) (_ : (Lit.int .i64 i).wf = true) (_ : (Lit.int .i64 g).wf = true) (_ : (Lit.int .i64 t).wf = true) (_ : (Lit.int .i64 i').wf = true) (_ : (Lit.int .i64 g').wf = true) (_ : (Lit.int .i64 t').wf = true) (hzs : zs.length = 2) (hw : ∀ z ∈ zs, (Lit.int .i64 z).wf = true) (w : World) :
    Calls Try.prog 4 #[.agg #[.int .i64 i, .int .i64 g, .int .i64 t], .agg #[.int .i64 i', .int .i64 g', .int .i64 t'], .agg ⟨zs.map (Value.int .i64)⟩] w fun e w' => e = .returned (.bool true) ∧ Below w.heap.size w w' := by
  match zs, hzs with
  | [x, y], _ =>
    exact calls_of_ok (ok i g t i' g' t' x y) (vs := [.agg #[.int .i64 i, .int .i64 g, .int .i64 t], .agg #[.int .i64 i', .int .i64 g', .int .i64 t'], .agg #[.int .i64 x, .int .i64 y]])
      (((flatL_iff [.agg [.int .i64 i, .int .i64 g, .int .i64 t], .agg [.int .i64 i', .int .i64 g', .int .i64 t'], .agg [.int .i64 x, .int .i64 y]] rfl) _).2 rfl)
end Go.Proofs.Ytdmenimdhcicjaa.Pure
