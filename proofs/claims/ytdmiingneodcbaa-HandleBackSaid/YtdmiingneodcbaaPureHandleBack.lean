/- HandleBack, plainly: a formed handle comes again from its word; with one bit turned that is another handle's, or none's. -/
import Derived.Test.YtdmiingneodcbaaHHandleBack
namespace Go.Proofs.Ytdmiingneodcbaa.Pure
open Go Go.RowKit Go.Proofs.Ytdmiingneodcbaa.PHandleBack Go.Proofs.YtdmiingneodcbaaW.PrintWords Go.Proofs.YtdmiingneodcbaaW.PrintMore Go.Proofs.Ytdmiingneodcbaa.HHandleBack Go.Proofs.Ytdmiingneodcbaa.FB Go.Proofs.Ytdmiingneodcbaa.FN
set_option linter.unusedVariables false
theorem ho_word {i g t : Int} (h : HdF i g t) : ho (hdw i g t) = (i, g, t, true) := by
  unfold ho hdw
  rw [if_pos h]
  unfold HdF at h
  rw [if_pos (by unfold Is; omega)]
  simp only [Prod.mk.injEq, and_true]
  omega
theorem high (w : BitVec 64) : (u w) / (72057594037927936 : Int) = u (w >>> 56) := by
  unfold u
  rw [BitVec.toNat_ushiftRight, Nat.shiftRight_eq_div_pow, Int.natCast_ediv]
  rfl
theorem turned_high (w : BitVec 64) (b : Nat) (hb : b < 56) : u (w ^^^ (1#64 <<< b)) / 72057594037927936 = u w / 72057594037927936 := by
  rw [high, high, u_inj]
  apply ext
  intro j hj
  rw [BitVec.getLsbD_ushiftRight, BitVec.getLsbD_ushiftRight, BitVec.getLsbD_xor]
  by_cases h : 56 + j < 64
  · rw [bit_shl1 _ _ h]
    have : ¬ 56 + j = b := by omega
    simp [this]
  · rw [BitVec.getLsbD_of_ge _ _ (by omega), BitVec.getLsbD_of_ge _ _ (by omega)]; rfl
theorem turned_differs (w : BitVec 64) (b : Nat) (hb : b < 64) : w ^^^ (1#64 <<< b) ≠ w := by
  intro h
  have := congrArg (fun x : BitVec 64 => x.getLsbD b) h
  simp only [BitVec.getLsbD_xor] at this
  rw [bit_shl1 _ _ hb] at this
  simp at this
theorem turned_top (w : BitVec 64) (b : Nat) (hb : 56 ≤ b) (hb2 : b < 64) : u (w ^^^ (1#64 <<< b)) / 72057594037927936 ≠ u w / 72057594037927936 := by
  rw [high, high]
  intro h
  rw [u_inj] at h
  have := congrArg (fun x : BitVec 64 => x.getLsbD (b - 56)) h
  simp only [BitVec.getLsbD_ushiftRight, BitVec.getLsbD_xor] at this
  rw [show 56 + (b - 56) = b by omega, bit_shl1 _ _ hb2] at this
  simp at this
theorem HandleBack (i g t x : Int) (wi : (Lit.int .i64 i).wf = true) (wg : (Lit.int .i64 g).wf = true) (wt : (Lit.int .i64 t).wf = true) (wx : (Lit.int .u8 x).wf = true) : ∃ k, cubiclelaw08_HandleBack.f k i g t x = some true := by
  apply Ev.rounds (g := fun k => cubiclelaw08_HandleBack.f k i g t x)
  have hx : 0 ≤ x ∧ x < 256 := by
    simp [Lit.wf, IntKind.min, IntKind.max, IntKind.signed, IntKind.bits] at wx
    omega
  unfold cubiclelaw08_HandleBack.f
  refine Ev.bind hawake_eq ?_
  refine Ev.congr (fun k => if_pos rfl) ?_
  rw [rhformed_eq]
  refine Ev.congr (fun k => by rw [Option.bind_some]) ?_
  by_cases h : HdF i g t
  · rw [decide_eq_true h]
    obtain ⟨b, hb, hb64⟩ : ∃ b : Nat, Int.tmod x 64 = (b : Int) ∧ b < 64 := by
      rw [Int.tmod_eq_emod_of_nonneg hx.1]
      exact ⟨(x % 64).toNat, by omega, by omega⟩
    have hw0 : 0 ≤ hdw i g t ∧ hdw i g t < 18446744073709551616 := by
      unfold hdw
      rw [if_pos h]
      unfold HdF at h
      omega
    obtain ⟨W, hW, _⟩ := word_num hw0.1 hw0.2
    have hof := hof_eq W
    rw [hW, ho_word h] at hof
    have hof0 := hof_eq 0#64
    have e0 : ho (u 0#64) = (0, 0, 0, false) := by decide
    rw [e0] at hof0
    obtain ⟨X, hX⟩ : ∃ X, X = W ^^^ (1#64 <<< b) := ⟨_, rfl⟩
    have hofX := hof_eq X
    have ex : Go.bits .xor .u64 (hdw i g t) (shl .u64 1 (Int.tmod x 64)) = u X := by
      rw [hb, one_u, shl_u _ _ (by omega), ← hW, xor_u, hX]
    have d1 := turned_differs W b hb64
    rw [← hX] at d1
    have d2 : b < 56 → u X / 72057594037927936 = u W / 72057594037927936 := fun hh => by rw [hX]; exact turned_high W b hh
    have d3 : 56 ≤ b → u X / 72057594037927936 ≠ u W / 72057594037927936 := fun hh => by rw [hX]; exact turned_top W b hh hb64
    have hXl := u_lt X
    have hX0 := u_nonneg X
    have isW : u W / 72057594037927936 = 168 := by
      rw [hW]
      unfold hdw
      rw [if_pos h]
      unfold HdF at h
      omega
    refine Ev.step (fun k => by simp only [cubiclelaw08_HandleBack.j0]; rw [if_neg (by simp)]) ?_
    refine Ev.bind (hword_eq i g t) ?_
    refine Ev.bind hof ?_
    refine Ev.bind (hword_eq i g t) ?_
    rw [ex]
    refine Ev.congr (fun k => if_pos (by omega)) ?_
    refine Ev.bind hofX ?_
    refine Ev.bind (g := fun k => handle_Of.f k 0) hof0 ?_
    refine Ev.congr (f := fun _ => some true) (fun k => ?_) (Ev.now _)
    rw [if_pos rfl, if_pos (by simp), hb]
    by_cases hlow : b < 56
    · have hisX : Is (u X) := by have := d2 hlow; unfold Is; omega
      have hne : u X ≠ u W := fun e => d1 (u_inj.1 e)
      have hdec : ho (u X) = (u X % 1048576, u X / 1048576 % 1073741824, u X / 1125899906842624 % 64, true) := by unfold ho; rw [if_pos hisX]
      rw [hdec, if_pos rfl, if_pos ?_, if_pos (by omega), if_neg (by simp)]
      by_cases c1 : u X % 1048576 = i
      · by_cases c2 : u X / 1048576 % 1073741824 = g
        · by_cases c3 : u X / 1125899906842624 % 64 = t
          · exfalso
            apply hne
            rw [hW]
            have := d2 hlow
            unfold hdw
            rw [if_pos h]
            unfold HdF at h
            omega
          · simp [c3]
        · simp [c2]
      · simp [c1]
    · have hnot : ¬ Is (u X) := by have := d3 (by omega); unfold Is; omega
      have hdec : ho (u X) = (0, 0, 0, false) := by unfold ho; rw [if_neg hnot]
      rw [hdec, if_neg (by simp), if_neg (by simp)]
      simp
      omega
  · rw [decide_eq_false h]
    refine Ev.step (fun k => by simp only [cubiclelaw08_HandleBack.j0]; rw [if_pos (by simp)]) ?_
    exact Ev.bind hawake_eq (Ev.now _)
end Go.Proofs.Ytdmiingneodcbaa.Pure
