/- What the printed functions on handles tell, in plain whole numbers. -/
import Derived.Test.YtdmenimdhcicjaaGHandleApart
import Derived.Test.YtdmenimdhcicjaaFieldNums
namespace Go.Proofs.Ytdmenimdhcicjaa.HHandleApart
open Go Go.RowKit Go.Proofs.Ytdmenimdhcicjaa.PHandleApart Go.Proofs.YtdmenimdhcicjaaW.PrintWords Go.Proofs.YtdmenimdhcicjaaW.PrintLast Go.Proofs.YtdmenimdhcicjaaW.PrintMore Go.Proofs.Ytdmenimdhcicjaa.FB Go.Proofs.Ytdmenimdhcicjaa.FL Go.Proofs.Ytdmenimdhcicjaa.FN Go.Proofs.Ytdmenimdhcicjaa.FHandleApart Go.Proofs.Ytdmenimdhcicjaa.GHandleApart
set_option linter.unusedVariables false
set_option linter.unusedSimpArgs false
def HdF (i g t : Int) : Prop := 0 ≤ i ∧ i < 1048576 ∧ 0 ≤ g ∧ g ≤ 1073741823 ∧ 0 ≤ t ∧ t < 64
instance (i g t : Int) : Decidable (HdF i g t) := by unfold HdF; infer_instance
theorem hformed_eq (i g t : Int) : handle_Handle_Formed.f i g t = some (decide (HdF i g t)) := by
  unfold handle_Handle_Formed.f HdF
  by_cases h1 : 0 ≤ i
  · by_cases h2 : i < 1048576
    · by_cases h3 : 0 ≤ g
      · by_cases h4 : g ≤ 1073741823
        · by_cases h5 : 0 ≤ t
          · rw [if_pos h1, if_pos h2, if_pos h3, if_pos h4, if_pos h5]; simp [h1, h2, h3, h4, h5]
          · rw [if_pos h1, if_pos h2, if_pos h3, if_pos h4, if_neg h5]; simp [h5]
        · rw [if_pos h1, if_pos h2, if_pos h3, if_neg h4]; simp [h4]
      · rw [if_pos h1, if_pos h2, if_neg h3]; simp [h3]
    · rw [if_pos h1, if_neg h2]; simp [h2]
  · rw [if_neg h1]; simp [h1]
def hdw (i g t : Int) : Int := if HdF i g t then i + g * 1048576 + t * 1125899906842624 + 12105675798371893248 else 0
theorem lay_list : ∃ l : List S23, handle_layout.f = some l ∧ pr l = hdl := ⟨_, rfl, rfl⟩
theorem hword_eq (i g t : Int) : Ev (fun k => handle_Handle_Word.f k i g t) (hdw i g t) := by
  unfold handle_Handle_Word.f
  rw [hformed_eq]
  unfold hdw
  by_cases h : HdF i g t
  · rw [decide_eq_true h, if_pos h]
    have h' := h
    unfold HdF at h'
    obtain ⟨vs, hvs, hp⟩ := hd_pack (i := i) (g := g) (t := t) (s := 42) (by omega)
    obtain ⟨l, hl, hpr⟩ := lay_list
    have e : ([IntKind.u64.wrap i, IntKind.u64.wrap g, IntKind.u64.wrap t, 42] : List Int) = vs.map u := by
      rw [hvs, wrapu, wrapu, wrapu, Int.emod_eq_of_lt (by omega) (by omega), Int.emod_eq_of_lt (by omega) (by omega), Int.emod_eq_of_lt (by omega) (by omega)]
    have hpk := pack_f l vs (by
      have : (pr l).length = 4 := by rw [hpr]; rfl
      rw [pr_len] at this
      omega)
    rw [hpr, hp] at hpk
    rw [e, hl]
    refine Ev.congr (fun k => by rw [Option.bind_some, if_pos rfl, Option.bind_some]) ?_
    refine Ev.bind hpk ?_
    exact Ev.now _
  · rw [decide_eq_false h, if_neg h]
    exact Ev.congr (fun k => by rw [Option.bind_some, if_neg (by simp)]) (Ev.now _)
/-- Whose word it is. -/
def Is (x : Int) : Prop := x / 72057594037927936 % 4 = 0 ∧ x / 288230376151711744 = 42
instance (x : Int) : Decidable (Is x) := by unfold Is; infer_instance
def ho (x : Int) : Int × Int × Int × Bool := if Is x then (x % 1048576, x / 1048576 % 1073741824, x / 1125899906842624 % 64, true) else (0, 0, 0, false)
theorem hawake_eq : Ev (fun k => cubiclelaw08_awake.f k) true := by
  unfold cubiclelaw08_awake.f
  rw [hformed_eq]
  have e : decide (HdF 3 1 0) = true := by decide
  rw [e]
  refine Ev.congr (fun k => by rw [Option.bind_some, if_pos rfl]) ?_
  have := hword_eq 3 1 0
  have e2 : hdw 3 1 0 = 12105675798372941827 := by decide
  rw [e2] at this
  exact Ev.bind this (Ev.now _)
theorem hof_eq (w : BitVec 64) : Ev (fun k => handle_Of.f k (u w)) (ho (u w)) := by
  unfold handle_Of.f
  obtain ⟨l, hl, hpr⟩ := lay_list
  rw [hl]
  refine Ev.congr (fun k => by rw [Option.bind_some]) ?_
  have hs := split_f l w (by
    have : (pr l).length = 4 := by rw [hpr]; rfl
    rw [pr_len] at this
    omega)
  rw [hpr, hd_parted] at hs
  have h0 := u_nonneg w
  have h1 := u_lt w
  have hy1 : Is (u w) → ho (u w) = (u w % 1048576, u w / 1048576 % 1073741824, u w / 1125899906842624 % 64, true) := fun h => if_pos h
  have hn1 : ¬ Is (u w) → ho (u w) = (0, 0, 0, false) := fun h => if_neg h
  refine Ev.bind hs ?_
  by_cases hx : u w / 72057594037927936 % 4 = 0
  · rw [if_pos hx]
    refine Ev.congr (fun k => (if_pos rfl).trans (if_pos (by simp))) ?_
    by_cases hy : u w / 288230376151711744 = 42
    · rw [hy1 ⟨hx, hy⟩]
      refine Ev.congr (fun k => (if_pos (by exact hy)).trans ((if_pos (by simp)).trans ((if_pos (by simp)).trans (if_pos (by simp))))) ?_
      have e1 : wrap64 (u w % 1048576) = u w % 1048576 := wrap_in (by omega)
      have e2 : wrap64 (u w / 1048576 % 1073741824) = u w / 1048576 % 1073741824 := wrap_in (by omega)
      have e3 : wrap64 (u w / 1125899906842624 % 64) = u w / 1125899906842624 % 64 := wrap_in (by omega)
      have r1 : rd [u w % 1048576, u w / 1048576 % 1073741824, u w / 1125899906842624 % 64, u w / 288230376151711744] 0 = u w % 1048576 := rfl
      have r2 : rd [u w % 1048576, u w / 1048576 % 1073741824, u w / 1125899906842624 % 64, u w / 288230376151711744] 1 = u w / 1048576 % 1073741824 := rfl
      have r3 : rd [u w % 1048576, u w / 1048576 % 1073741824, u w / 1125899906842624 % 64, u w / 288230376151711744] 2 = u w / 1125899906842624 % 64 := rfl
      rw [r1, r2, r3, e1, e2, e3]
      exact Ev.now _
    · rw [hn1 (fun e => hy e.2)]
      exact Ev.congr (fun k => if_neg (by exact hy)) (Ev.now _)
  · rw [if_neg hx, hn1 (fun e => hx e.1)]
    exact Ev.congr (fun k => if_neg (by simp)) (Ev.now _)
theorem rhformed_eq (i g t : Int) : cubicleref08_Formed.f i g t = some (decide (HdF i g t)) := by
  unfold cubicleref08_Formed.f HdF
  by_cases h1 : 0 ≤ i
  · by_cases h2 : i < 1048576
    · by_cases h3 : 0 ≤ g
      · by_cases h4 : g ≤ 1073741823
        · by_cases h5 : 0 ≤ t
          · rw [if_pos h1, if_pos h2, if_pos h3, if_pos (by omega), if_pos h5]; simp [h1, h2, h3, h4, h5]
          · rw [if_pos h1, if_pos h2, if_pos h3, if_pos (by omega), if_neg h5]; simp [h5]
        · rw [if_pos h1, if_pos h2, if_pos h3, if_neg (by omega)]; simp [h4]
      · rw [if_pos h1, if_pos h2, if_neg h3]; simp [h3]
    · rw [if_pos h1, if_neg h2]; simp [h2]
  · rw [if_neg h1]; simp [h1]
end Go.Proofs.Ytdmenimdhcicjaa.HHandleApart
