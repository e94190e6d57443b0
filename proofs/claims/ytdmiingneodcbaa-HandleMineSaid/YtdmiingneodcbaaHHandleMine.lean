/- What the printed functions on handles tell, in plain whole numbers. -/
import Derived.Test.YtdmiingneodcbaaGHandleMine
import Derived.Test.YtdmiingneodcbaaFieldNums
namespace Go.Proofs.Ytdmiingneodcbaa.HHandleMine
open Go Go.RowKit Go.Proofs.Ytdmiingneodcbaa.PHandleMine Go.Proofs.YtdmiingneodcbaaW.PrintWords Go.Proofs.YtdmiingneodcbaaW.PrintLast Go.Proofs.YtdmiingneodcbaaW.PrintMore Go.Proofs.Ytdmiingneodcbaa.FB Go.Proofs.Ytdmiingneodcbaa.FL Go.Proofs.Ytdmiingneodcbaa.FN Go.Proofs.Ytdmiingneodcbaa.FHandleMine Go.Proofs.Ytdmiingneodcbaa.GHandleMine
set_option linter.unusedVariables false
set_option linter.unusedSimpArgs false
def HdF (i g t : Int) : Prop := 0 ≤ i ∧ i < 1048576 ∧ 0 ≤ g ∧ g ≤ 1073741823 ∧ 0 ≤ t ∧ t < 64
instance (i g t : Int) : Decidable (HdF i g t) := by unfold HdF; infer_instance
theorem hformed_eq (i g t : Int) : handle_Handle_Formed.f i g t = some (decide (HdF i g t)) := by
  unfold handle_Handle_Formed.f HdF
  by_cases h1 : 0 ≤ i
  · by_cases h2 : i < 1048576
    · by_cases h3 : 0 ≤ g
      · by_cases h4 : g ≤ 1073741823
        · by_cases h5 : 0 ≤ t
          · rw [if_pos h1, if_pos h2, if_pos h3, if_pos h4, if_pos h5]; simp [h1, h2, h3, h4, h5]
          · rw [if_pos h1, if_pos h2, if_pos h3, if_pos h4, if_neg h5]; simp [h5]
        · rw [if_pos h1, if_pos h2, if_pos h3, if_neg h4]; simp [h4]
      · rw [if_pos h1, if_pos h2, if_neg h3]; simp [h3]
    · rw [if_pos h1, if_neg h2]; simp [h2]
  · rw [if_neg h1]; simp [h1]
def hdw (i g t : Int) : Int := if HdF i g t then i + g * 1048576 + t * 1125899906842624 + 12105675798371893248 else 0
theorem lay_list : ∃ l : List S79, handle_layout.f = some l ∧ pr l = hdl := ⟨_, rfl, rfl⟩
theorem hword_eq (i g t : Int) : Ev (fun k => handle_Handle_Word.f k i g t) (hdw i g t) := by
  unfold handle_Handle_Word.f
  rw [hformed_eq]
  unfold hdw
  by_cases h : HdF i g t
  · rw [decide_eq_true h, if_pos h]
    have h' := h
    unfold HdF at h'
    obtain ⟨vs, hvs, hp⟩ := hd_pack (i := i) (g := g) (t := t) (s := 42) (by omega)
    obtain ⟨l, hl, hpr⟩ := lay_list
    have e : ([IntKind.u64.wrap i, IntKind.u64.wrap g, IntKind.u64.wrap t, 42] : List Int) = vs.map u := by
      rw [hvs, wrapu, wrapu, wrapu, Int.emod_eq_of_lt (by omega) (by omega), Int.emod_eq_of_lt (by omega) (by omega), Int.emod_eq_of_lt (by omega) (by omega)]
    have hpk := pack_f l vs (by
      have : (pr l).length = 4 := by rw [hpr]; rfl
      rw [pr_len] at this
      omega)
    rw [hpr, hp] at hpk
    rw [e, hl]
    refine Ev.congr (fun k => by rw [Option.bind_some, if_pos rfl, Option.bind_some]) ?_
    refine Ev.bind hpk ?_
    exact Ev.now _
  · rw [decide_eq_false h, if_neg h]
    exact Ev.congr (fun k => by rw [Option.bind_some, if_neg (by simp)]) (Ev.now _)
/-- Whose word it is. -/
def Is (x : Int) : Prop := x / 72057594037927936 % 4 = 0 ∧ x / 288230376151711744 = 42
instance (x : Int) : Decidable (Is x) := by unfold Is; infer_instance
def ho (x : Int) : Int × Int × Int × Bool := if Is x then (x % 1048576, x / 1048576 % 1073741824, x / 1125899906842624 % 64, true) else (0, 0, 0, false)
theorem hawake_eq : Ev (fun k => cubiclelaw08_awake.f k) true := by
  unfold cubiclelaw08_awake.f
  rw [hformed_eq]
  have e : decide (HdF 3 1 0) = true := by decide
  rw [e]
  refine Ev.congr (fun k => by rw [Option.bind_some, if_pos rfl]) ?_
  have := hword_eq 3 1 0
  have e2 : hdw 3 1 0 = 12105675798372941827 := by decide
  rw [e2] at this
  exact Ev.bind this (Ev.now _)
theorem hof_eq (w : BitVec 64) : Ev (fun k => handle_Of.f k (u w)) (ho (u w)) := by
  unfold handle_Of.f
  obtain ⟨l, hl, hpr⟩ := lay_list
  rw [hl]
  refine Ev.congr (fun k => by rw [Option.bind_some]) ?_
  have hs := split_f l w (by
    have : (pr l).length = 4 := by rw [hpr]; rfl
    rw [pr_len] at this
    omega)
  rw [hpr, hd_parted] at hs
  have h0 := u_nonneg w
  have h1 := u_lt w
  have hy1 : Is (u w) → ho (u w) = (u w % 1048576, u w / 1048576 % 1073741824, u w / 1125899906842624 % 64, true) := fun h => if_pos h
  have hn1 : ¬ Is (u w) → ho (u w) = (0, 0, 0, false) := fun h => if_neg h
  refine Ev.bind hs ?_
  by_cases hx : u w / 72057594037927936 % 4 = 0
  · rw [if_pos hx]
    refine Ev.congr (fun k => (if_pos rfl).trans (if_pos (by simp))) ?_
    by_cases hy : u w / 288230376151711744 = 42
    · rw [hy1 ⟨hx, hy⟩]
      refine Ev.congr (fun k => (if_pos (by exact hy)).trans ((if_pos (by simp)).trans ((if_pos (by simp)).trans (if_pos (by simp))))) ?_
      have e1 : wrap64 (u w % 1048576) = u w % 1048576 := wrap_in (by omega)
      have e2 : wrap64 (u w / 1048576 % 1073741824) = u w / 1048576 % 1073741824 := wrap_in (by omega)
      have e3 : wrap64 (u w / 1125899906842624 % 64) = u w / 1125899906842624 % 64 := wrap_in (by omega)
      have r1 : rd [u w % 1048576, u w / 1048576 % 1073741824, u w / 1125899906842624 % 64, u w / 288230376151711744] 0 = u w % 1048576 := rfl
      have r2 : rd [u w % 1048576, u w / 1048576 % 1073741824, u w / 1125899906842624 % 64, u w / 288230376151711744] 1 = u w / 1048576 % 1073741824 := rfl
      have r3 : rd [u w % 1048576, u w / 1048576 % 1073741824, u w / 1125899906842624 % 64, u w / 288230376151711744] 2 = u w / 1125899906842624 % 64 := rfl
      rw [r1, r2, r3, e1, e2, e3]
      exact Ev.now _
    · rw [hn1 (fun e => hy e.2)]
      exact Ev.congr (fun k => if_neg (by exact hy)) (Ev.now _)
  · rw [if_neg hx, hn1 (fun e => hx e.1)]
    exact Ev.congr (fun k => if_neg (by simp)) (Ev.now _)
theorem rhformed_eq (i g t : Int) : cubicleref08_Formed.f i g t = some (decide (HdF i g t)) := by
  unfold cubicleref08_Formed.f HdF
  by_cases h1 : 0 ≤ i
  · by_cases h2 : i < 1048576
    · by_cases h3 : 0 ≤ g
      · by_cases h4 : g ≤ 1073741823
        · by_cases h5 : 0 ≤ t
          · rw [if_pos h1, if_pos h2, if_pos h3, if_pos (by omega), if_pos h5]; simp [h1, h2, h3, h4, h5]
          · rw [if_pos h1, if_pos h2, if_pos h3, if_pos (by omega), if_neg h5]; simp [h5]
        · rw [if_pos h1, if_pos h2, if_pos h3, if_neg (by omega)]; simp [h4]
      · rw [if_pos h1, if_pos h2, if_neg h3]; simp [h3]
    · rw [if_pos h1, if_neg h2]; simp [h2]
  · rw [if_neg h1]; simp [h1]
theorem rhword_eq (i g t : Int) : cubicleref08_Word.f i g t = some (hdw i g t) := by
  unfold cubicleref08_Word.f
  rw [rhformed_eq]
  unfold hdw
  by_cases h : HdF i g t
  · rw [decide_eq_true h, if_pos h, Option.bind_some, if_pos rfl]
    unfold HdF at h
    simp only [wrapu]
    congr 1
    omega
  · rw [decide_eq_false h, if_neg h, Option.bind_some, if_neg (by simp)]
theorem rhof_eq (x : Int) (h0 : 0 ≤ x) (h1 : x < 18446744073709551616) : cubicleref08_Of.f x = some (ho x) := by
  unfold cubicleref08_Of.f
  rw [Int.tmod_eq_emod_of_nonneg h0, Int.tmod_eq_emod_of_nonneg (by omega), Int.tmod_eq_emod_of_nonneg (by omega)]
  have e1 : wrap64 (x % 1048576) = x % 1048576 := wrap_in (by omega)
  have e2 : wrap64 (x / 1048576 % 1073741824) = x / 1048576 % 1073741824 := wrap_in (by omega)
  have e3 : wrap64 (x / 1125899906842624 % 64) = x / 1125899906842624 % 64 := wrap_in (by omega)
  have hF : HdF (x % 1048576) (x / 1048576 % 1073741824) (x / 1125899906842624 % 64) := by unfold HdF; omega
  have hw : hdw (x % 1048576) (x / 1048576 % 1073741824) (x / 1125899906842624 % 64) = x % 1048576 + x / 1048576 % 1073741824 * 1048576 + x / 1125899906842624 % 64 * 1125899906842624 + 12105675798371893248 := if_pos hF
  rw [e1, e2, e3, rhword_eq, Option.bind_some, hw]
  by_cases h : Is x
  · have hh : ho x = (x % 1048576, x / 1048576 % 1073741824, x / 1125899906842624 % 64, true) := if_pos h
    rw [hh, if_pos (by unfold Is at h; omega)]
  · have hh : ho x = (0, 0, 0, false) := if_neg h
    rw [hh, if_neg (by unfold Is at h; omega)]
end Go.Proofs.Ytdmiingneodcbaa.HHandleMine
