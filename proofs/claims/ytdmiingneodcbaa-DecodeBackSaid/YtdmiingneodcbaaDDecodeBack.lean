/- What the printed functions on operations' bytes tell, in plain lists. -/
import Derived.Test.YtdmiingneodcbaaPDecodeBackx
import Derived.Test.YtdmiingneodcbaaFieldBits
import Derived.Laws.Strings
namespace Go.Proofs.Ytdmiingneodcbaa.DDecodeBack
open Go Go.RowKit Go.Proofs.Ytdmiingneodcbaa.PDecodeBack Go.Proofs.YtdmiingneodcbaaW.PrintWords Go.Proofs.YtdmiingneodcbaaW.PrintLast Go.Proofs.YtdmiingneodcbaaW.PrintMore Go.Proofs.Ytdmiingneodcbaa.FB
set_option linter.unusedVariables false
set_option linter.unusedSimpArgs false
theorem code_cases {c : Int} (h1 : 1 ≤ c) (h2 : c ≤ 12) : c = 1 ∨ c = 2 ∨ c = 3 ∨ c = 4 ∨ c = 5 ∨ c = 6 ∨ c = 7 ∨ c = 8 ∨ c = 9 ∨ c = 10 ∨ c = 11 ∨ c = 12 := by omega
theorem awake_eq : cubiclelaw18_awake.f = some true := by
  unfold cubiclelaw18_awake.f
  have e1 : decode_Bytes.f 8 3 0 0 0 0 = some ⟨#[8, 3]⟩ := by decide +kernel
  have e2 : decode_Formed.f 1 0 0 0 0 0 = some true := by decide +kernel
  rw [e1, e2, Option.bind_some, if_pos (by rw [ByteArray.toList_eq]), Option.bind_some]
def asked (c : Int) : ByteArray := (cubicleref18_asks.f c).getD ⟨#[]⟩
theorem asks_eq {c : Int} (h1 : 1 ≤ c) (h2 : c ≤ 12) : cubicleref18_asks.f c = some (asked c) := by
  rcases code_cases h1 h2 with rfl | rfl | rfl | rfl | rfl | rfl | rfl | rfl | rfl | rfl | rfl | rfl <;> decide +kernel
theorem has_ev {s : ByteArray} {x : Int} {r : Bool} (h : cubicleref18_has.f 10 s x = some r) : Ev (fun k => cubicleref18_has.f k s x) r := Ev.of (fun k => cubicleref18_has.mono s x k) h
theorem has_h {c : Int} (h1 : 1 ≤ c) (h2 : c ≤ 12) : Ev (fun k => cubicleref18_has.f k (asked c) 104) (Giv.askh c) := by
  refine has_ev ?_
  rcases code_cases h1 h2 with rfl | rfl | rfl | rfl | rfl | rfl | rfl | rfl | rfl | rfl | rfl | rfl <;> decide +kernel
theorem has_d {c : Int} (h1 : 1 ≤ c) (h2 : c ≤ 12) : Ev (fun k => cubicleref18_has.f k (asked c) 100) (Giv.askd c) := by
  refine has_ev ?_
  rcases code_cases h1 h2 with rfl | rfl | rfl | rfl | rfl | rfl | rfl | rfl | rfl | rfl | rfl | rfl <;> decide +kernel
theorem has_f {c : Int} (h1 : 1 ≤ c) (h2 : c ≤ 12) : Ev (fun k => cubicleref18_has.f k (asked c) 102) (Giv.askf c) := by
  refine has_ev ?_
  rcases code_cases h1 h2 with rfl | rfl | rfl | rfl | rfl | rfl | rfl | rfl | rfl | rfl | rfl | rfl <;> decide +kernel
theorem has_a {c : Int} (h1 : 1 ≤ c) (h2 : c ≤ 12) : Ev (fun k => cubicleref18_has.f k (asked c) 97) (Giv.aska c) := by
  refine has_ev ?_
  rcases code_cases h1 h2 with rfl | rfl | rfl | rfl | rfl | rfl | rfl | rfl | rfl | rfl | rfl | rfl <;> decide +kernel
theorem has_b {c : Int} (h1 : 1 ≤ c) (h2 : c ≤ 12) : Ev (fun k => cubicleref18_has.f k (asked c) 98) (Giv.askb c) := by
  refine has_ev ?_
  rcases code_cases h1 h2 with rfl | rfl | rfl | rfl | rfl | rfl | rfl | rfl | rfl | rfl | rfl | rfl <;> decide +kernel
theorem stage {α : Type} (x : Bool) (p : Prop) [Decidable p] (A B : α) : (if x = true then A else if p then A else B) = if (x = true ∨ p) then A else B := by
  cases x <;> by_cases h : p <;> simp [h]
theorem last (x : Bool) (b : Int) : (if x = true then some true else some (b == 0)) = if (x = true ∨ b = 0) then some true else some false := by
  cases x <;> by_cases h : b = 0 <;> simp [h]
theorem rformed_eq (c d f h a b : Int) : Ev (fun k => cubicleref18_Formed.f k c d f h a b) (decide (Giv.OpF c d f h a b)) := by
  unfold cubicleref18_Formed.f
  have no : ∀ s : ByteArray, Ev (fun k => cubicleref18_Formed.j0 k s true c d f h a b) false := fun s => by
    refine Ev.step (f := fun _ => some false) (fun k => ?_) (Ev.now _)
    simp only [cubicleref18_Formed.j0]
    rw [if_pos True.intro]
  by_cases hc : 1 ≤ c ∧ c ≤ 12
  · obtain ⟨h1, h2⟩ := hc
    rw [asks_eq h1 h2]
    refine Ev.congr (fun k => by rw [Option.bind_some, if_neg (by omega), if_neg (by omega)]) ?_
    by_cases hd0 : d < 0
    · rw [show decide (Giv.OpF c d f h a b) = false from decide_eq_false (fun x => by have := x.1; omega)]
      exact Ev.congr (fun k => if_pos hd0) (no _)
    · refine Ev.congr (fun k => if_neg hd0) ?_
      by_cases hd1 : d > 255
      · rw [show decide (Giv.OpF c d f h a b) = false from decide_eq_false (fun x => by have := x.1; omega)]
        exact Ev.congr (fun k => if_pos hd1) (no _)
      · refine Ev.congr (fun k => if_neg hd1) ?_
        by_cases hf0 : f < 0
        · rw [show decide (Giv.OpF c d f h a b) = false from decide_eq_false (fun x => by have := x.1; omega)]
          exact Ev.congr (fun k => if_pos hf0) (no _)
        · refine Ev.congr (fun k => if_neg hf0) ?_
          by_cases hf1 : f > 2
          · rw [decide_eq_true hf1, show decide (Giv.OpF c d f h a b) = false from decide_eq_false (fun x => by have := x.1; omega)]
            exact no _
          · rw [decide_eq_false hf1]
            obtain ⟨K1, e1⟩ := has_h h1 h2
            obtain ⟨K2, e2⟩ := has_d h1 h2
            obtain ⟨K3, e3⟩ := has_f h1 h2
            obtain ⟨K4, e4⟩ := has_a h1 h2
            obtain ⟨K5, e5⟩ := has_b h1 h2
            refine ⟨K1 + K2 + K3 + K4 + K5 + 1, fun k hk => ?_⟩
            obtain ⟨m, rfl⟩ : ∃ m, k = m + 1 := ⟨k - 1, by omega⟩
            simp only [cubicleref18_Formed.j0]
            rw [if_neg (by simp)]
            simp only [e1 m (by omega), e2 m (by omega), e3 m (by omega), e4 m (by omega), e5 m (by omega), Option.bind_some, last, stage]
            have hin : 1 ≤ c ∧ c ≤ 12 ∧ 0 ≤ d ∧ d ≤ 255 ∧ 0 ≤ f ∧ f ≤ 2 := by omega
            by_cases c1 : Giv.askh c = true ∨ h = 0
            · rw [if_pos c1]
              by_cases c2 : Giv.askd c = true ∨ d = 0
              · rw [if_pos c2]
                by_cases c3 : Giv.askf c = true ∨ f = 0
                · rw [if_pos c3]
                  by_cases c4 : Giv.aska c = true ∨ a = 0
                  · rw [if_pos c4]
                    by_cases c5 : Giv.askb c = true ∨ b = 0
                    · rw [if_pos c5, show decide (Giv.OpF c d f h a b) = true from decide_eq_true ⟨hin, c1, c2, c3, c4, c5⟩]
                    · rw [if_neg c5, show decide (Giv.OpF c d f h a b) = false from decide_eq_false (fun x => c5 x.2.2.2.2.2)]
                  · rw [if_neg c4, show decide (Giv.OpF c d f h a b) = false from decide_eq_false (fun x => c4 x.2.2.2.2.1)]
                · rw [if_neg c3, show decide (Giv.OpF c d f h a b) = false from decide_eq_false (fun x => c3 x.2.2.2.1)]
              · rw [if_neg c2, show decide (Giv.OpF c d f h a b) = false from decide_eq_false (fun x => c2 x.2.2.1)]
            · rw [if_neg c1, show decide (Giv.OpF c d f h a b) = false from decide_eq_false (fun x => c1 x.2.1)]
  · rw [show decide (Giv.OpF c d f h a b) = false from decide_eq_false (fun x => hc ⟨x.1.1, x.1.2.1⟩)]
    have ha : ∃ s, cubicleref18_asks.f c = some s := by
      unfold cubicleref18_asks.f
      rw [Option.bind_some]
      by_cases h1 : c < 1
      · exact ⟨_, if_pos h1⟩
      · by_cases h2 : c > 12
        · exact ⟨⟨#[]⟩, by rw [if_neg h1, if_pos h2]⟩
        · exact absurd ⟨by omega, by omega⟩ hc
    obtain ⟨s, hs⟩ := ha
    rw [hs]
    by_cases h1 : c < 1
    · exact Ev.congr (fun k => by rw [Option.bind_some, if_pos h1]) (no s)
    · exact Ev.congr (fun k => by rw [Option.bind_some, if_neg h1, if_pos (by omega)]) (no s)
theorem size_nums (l : List Int) : (strOfNums l).size = l.length := by simp [strOfNums, ByteArray.size]
theorem app_nums (l m : List Int) : strOfNums l ++ strOfNums m = strOfNums (l ++ m) := by
  apply ByteArray.ext
  simp [strOfNums, ByteArray.data_append]
end Go.Proofs.Ytdmiingneodcbaa.DDecodeBack
