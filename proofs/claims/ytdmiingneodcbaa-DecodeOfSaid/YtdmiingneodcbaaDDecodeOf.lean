/- What the printed functions on operations' bytes tell, in plain lists. -/
import Derived.Test.YtdmiingneodcbaaPDecodeOfx
import Derived.Test.YtdmiingneodcbaaFieldBits
import Derived.Laws.Strings
namespace Go.Proofs.Ytdmiingneodcbaa.DDecodeOf
open Go Go.RowKit Go.Proofs.Ytdmiingneodcbaa.PDecodeOf Go.Proofs.YtdmiingneodcbaaW.PrintWords Go.Proofs.YtdmiingneodcbaaW.PrintLast Go.Proofs.YtdmiingneodcbaaW.PrintMore Go.Proofs.Ytdmiingneodcbaa.FB
set_option linter.unusedVariables false
set_option linter.unusedSimpArgs false
theorem code_cases {c : Int} (h1 : 1 ≤ c) (h2 : c ≤ 12) : c = 1 ∨ c = 2 ∨ c = 3 ∨ c = 4 ∨ c = 5 ∨ c = 6 ∨ c = 7 ∨ c = 8 ∨ c = 9 ∨ c = 10 ∨ c = 11 ∨ c = 12 := by omega
theorem awake_eq : cubiclelaw18_awake.f = some true := by
  unfold cubiclelaw18_awake.f
  have e1 : decode_Bytes.f 8 3 0 0 0 0 = some ⟨#[8, 3]⟩ := by decide +kernel
  have e2 : decode_Formed.f 1 0 0 0 0 0 = some true := by decide +kernel
  rw [e1, e2, Option.bind_some, if_pos (by rw [ByteArray.toList_eq]), Option.bind_some]
def asked (c : Int) : ByteArray := (cubicleref18_asks.f c).getD ⟨#[]⟩
theorem asks_eq {c : Int} (h1 : 1 ≤ c) (h2 : c ≤ 12) : cubicleref18_asks.f c = some (asked c) := by
  rcases code_cases h1 h2 with rfl | rfl | rfl | rfl | rfl | rfl | rfl | rfl | rfl | rfl | rfl | rfl <;> decide +kernel
theorem has_ev {s : ByteArray} {x : Int} {r : Bool} (h : cubicleref18_has.f 10 s x = some r) : Ev (fun k => cubicleref18_has.f k s x) r := Ev.of (fun k => cubicleref18_has.mono s x k) h
theorem has_h {c : Int} (h1 : 1 ≤ c) (h2 : c ≤ 12) : Ev (fun k => cubicleref18_has.f k (asked c) 104) (Giv.askh c) := by
  refine has_ev ?_
  rcases code_cases h1 h2 with rfl | rfl | rfl | rfl | rfl | rfl | rfl | rfl | rfl | rfl | rfl | rfl <;> decide +kernel
theorem has_d {c : Int} (h1 : 1 ≤ c) (h2 : c ≤ 12) : Ev (fun k => cubicleref18_has.f k (asked c) 100) (Giv.askd c) := by
  refine has_ev ?_
  rcases code_cases h1 h2 with rfl | rfl | rfl | rfl | rfl | rfl | rfl | rfl | rfl | rfl | rfl | rfl <;> decide +kernel
theorem has_f {c : Int} (h1 : 1 ≤ c) (h2 : c ≤ 12) : Ev (fun k => cubicleref18_has.f k (asked c) 102) (Giv.askf c) := by
  refine has_ev ?_
  rcases code_cases h1 h2 with rfl | rfl | rfl | rfl | rfl | rfl | rfl | rfl | rfl | rfl | rfl | rfl <;> decide +kernel
theorem has_a {c : Int} (h1 : 1 ≤ c) (h2 : c ≤ 12) : Ev (fun k => cubicleref18_has.f k (asked c) 97) (Giv.aska c) := by
  refine has_ev ?_
  rcases code_cases h1 h2 with rfl | rfl | rfl | rfl | rfl | rfl | rfl | rfl | rfl | rfl | rfl | rfl <;> decide +kernel
theorem has_b {c : Int} (h1 : 1 ≤ c) (h2 : c ≤ 12) : Ev (fun k => cubicleref18_has.f k (asked c) 98) (Giv.askb c) := by
  refine has_ev ?_
  rcases code_cases h1 h2 with rfl | rfl | rfl | rfl | rfl | rfl | rfl | rfl | rfl | rfl | rfl | rfl <;> decide +kernel
theorem stage {α : Type} (x : Bool) (p : Prop) [Decidable p] (A B : α) : (if x = true then A else if p then A else B) = if (x = true ∨ p) then A else B := by
  cases x <;> by_cases h : p <;> simp [h]
theorem last (x : Bool) (b : Int) : (if x = true then some true else some (b == 0)) = if (x = true ∨ b = 0) then some true else some false := by
  cases x <;> by_cases h : b = 0 <;> simp [h]
theorem rformed_eq (c d f h a b : Int) : Ev (fun k => cubicleref18_Formed.f k c d f h a b) (decide (Giv.OpF c d f h a b)) := by
  unfold cubicleref18_Formed.f
  have no : ∀ s : ByteArray, Ev (fun k => cubicleref18_Formed.j0 k s true c d f h a b) false := fun s => by
    refine Ev.step (f := fun _ => some false) (fun k => ?_) (Ev.now _)
    simp only [cubicleref18_Formed.j0]
    rw [if_pos True.intro]
  by_cases hc : 1 ≤ c ∧ c ≤ 12
  · obtain ⟨h1, h2⟩ := hc
    rw [asks_eq h1 h2]
    refine Ev.congr (fun k => by rw [Option.bind_some, if_neg (by omega), if_neg (by omega)]) ?_
    by_cases hd0 : d < 0
    · rw [show decide (Giv.OpF c d f h a b) = false from decide_eq_false (fun x => by have := x.1; omega)]
      exact Ev.congr (fun k => if_pos hd0) (no _)
    · refine Ev.congr (fun k => if_neg hd0) ?_
      by_cases hd1 : d > 255
      · rw [show decide (Giv.OpF c d f h a b) = false from decide_eq_false (fun x => by have := x.1; omega)]
        exact Ev.congr (fun k => if_pos hd1) (no _)
      · refine Ev.congr (fun k => if_neg hd1) ?_
        by_cases hf0 : f < 0
        · rw [show decide (Giv.OpF c d f h a b) = false from decide_eq_false (fun x => by have := x.1; omega)]
          exact Ev.congr (fun k => if_pos hf0) (no _)
        · refine Ev.congr (fun k => if_neg hf0) ?_
          by_cases hf1 : f > 2
          · rw [decide_eq_true hf1, show decide (Giv.OpF c d f h a b) = false from decide_eq_false (fun x => by have := x.1; omega)]
            exact no _
          · rw [decide_eq_false hf1]
            obtain ⟨K1, e1⟩ := has_h h1 h2
            obtain ⟨K2, e2⟩ := has_d h1 h2
            obtain ⟨K3, e3⟩ := has_f h1 h2
            obtain ⟨K4, e4⟩ := has_a h1 h2
            obtain ⟨K5, e5⟩ := has_b h1 h2
            refine ⟨K1 + K2 + K3 + K4 + K5 + 1, fun k hk => ?_⟩
            obtain ⟨m, rfl⟩ : ∃ m, k = m + 1 := ⟨k - 1, by omega⟩
            simp only [cubicleref18_Formed.j0]
            rw [if_neg (by simp)]
            simp only [e1 m (by omega), e2 m (by omega), e3 m (by omega), e4 m (by omega), e5 m (by omega), Option.bind_some, last, stage]
            have hin : 1 ≤ c ∧ c ≤ 12 ∧ 0 ≤ d ∧ d ≤ 255 ∧ 0 ≤ f ∧ f ≤ 2 := by omega
            by_cases c1 : Giv.askh c = true ∨ h = 0
            · rw [if_pos c1]
              by_cases c2 : Giv.askd c = true ∨ d = 0
              · rw [if_pos c2]
                by_cases c3 : Giv.askf c = true ∨ f = 0
                · rw [if_pos c3]
                  by_cases c4 : Giv.aska c = true ∨ a = 0
                  · rw [if_pos c4]
                    by_cases c5 : Giv.askb c = true ∨ b = 0
                    · rw [if_pos c5, show decide (Giv.OpF c d f h a b) = true from decide_eq_true ⟨hin, c1, c2, c3, c4, c5⟩]
                    · rw [if_neg c5, show decide (Giv.OpF c d f h a b) = false from decide_eq_false (fun x => c5 x.2.2.2.2.2)]
                  · rw [if_neg c4, show decide (Giv.OpF c d f h a b) = false from decide_eq_false (fun x => c4 x.2.2.2.2.1)]
                · rw [if_neg c3, show decide (Giv.OpF c d f h a b) = false from decide_eq_false (fun x => c3 x.2.2.2.1)]
              · rw [if_neg c2, show decide (Giv.OpF c d f h a b) = false from decide_eq_false (fun x => c2 x.2.2.1)]
            · rw [if_neg c1, show decide (Giv.OpF c d f h a b) = false from decide_eq_false (fun x => c1 x.2.1)]
  · rw [show decide (Giv.OpF c d f h a b) = false from decide_eq_false (fun x => hc ⟨x.1.1, x.1.2.1⟩)]
    have ha : ∃ s, cubicleref18_asks.f c = some s := by
      unfold cubicleref18_asks.f
      rw [Option.bind_some]
      by_cases h1 : c < 1
      · exact ⟨_, if_pos h1⟩
      · by_cases h2 : c > 12
        · exact ⟨⟨#[]⟩, by rw [if_neg h1, if_pos h2]⟩
        · exact absurd ⟨by omega, by omega⟩ hc
    obtain ⟨s, hs⟩ := ha
    rw [hs]
    by_cases h1 : c < 1
    · exact Ev.congr (fun k => by rw [Option.bind_some, if_pos h1]) (no s)
    · exact Ev.congr (fun k => by rw [Option.bind_some, if_neg h1, if_pos (by omega)]) (no s)
theorem size_nums (l : List Int) : (strOfNums l).size = l.length := by simp [strOfNums, ByteArray.size]
theorem app_nums (l m : List Int) : strOfNums l ++ strOfNums m = strOfNums (l ++ m) := by
  apply ByteArray.ext
  simp [strOfNums, ByteArray.data_append]
theorem eight_step (x r i : Int) (l : List Int) (hi : 0 ≤ i ∧ i < 8) (hl : l.length < 1000) (e : (shr .u64 x (wrap64 (8 * i))) % 256 = r) (R : ByteArray) (h : Ev (fun k => cubicleref18_eight.l0 k x (l ++ [r]) (i + 1)) R) : Ev (fun k => cubicleref18_eight.l0 k x l i) R := by
  have e8 : wrap64 (8 * i) = 8 * i := by unfold wrap64; omega
  have e1 : wrap64 (i + 1) = i + 1 := by unfold wrap64; omega
  refine Ev.step (fun k => ?_) h
  simp only [cubicleref18_eight.l0]
  rw [if_pos (by omega), if_pos (by omega), if_pos (by omega), e, e1]
theorem eight_eq (x : Int) : Ev (fun k => cubicleref18_eight.f k x) (strOfNums (Giv3.eightB x)) := by
  unfold cubicleref18_eight.f
  have fin : Ev (fun k => cubicleref18_eight.l0 k x (Giv3.eightB x) 8) (strOfNums (Giv3.eightB x)) := by
    refine Ev.step (f := fun _ => some (strOfNums (Giv3.eightB x))) (fun k => ?_) (Ev.now _)
    simp only [cubicleref18_eight.l0]
    rw [if_neg (by decide)]
  have sh : ∀ (n : Int) (m : Nat), (wrap64 (8 * n)).toNat = m → m ≤ 64 → shr .u64 x (wrap64 (8 * n)) % 256 = x / ((2 ^ m : Nat) : Int) % 256 := fun n m hm h64 => by
    unfold shr
    rw [hm, Nat.min_eq_left (by simpa [IntKind.bits] using h64)]
    simp

  refine eight_step x _ 0 _ (by omega) (by simp) (sh 0 0 (by unfold wrap64; omega) (by omega)) _ ?_
  refine eight_step x _ 1 _ (by omega) (by simp) (sh 1 8 (by unfold wrap64; omega) (by omega)) _ ?_
  refine eight_step x _ 2 _ (by omega) (by simp) (sh 2 16 (by unfold wrap64; omega) (by omega)) _ ?_
  refine eight_step x _ 3 _ (by omega) (by simp) (sh 3 24 (by unfold wrap64; omega) (by omega)) _ ?_
  refine eight_step x _ 4 _ (by omega) (by simp) (sh 4 32 (by unfold wrap64; omega) (by omega)) _ ?_
  refine eight_step x _ 5 _ (by omega) (by simp) (sh 5 40 (by unfold wrap64; omega) (by omega)) _ ?_
  refine eight_step x _ 6 _ (by omega) (by simp) (sh 6 48 (by unfold wrap64; omega) (by omega)) _ ?_
  refine eight_step x _ 7 _ (by omega) (by simp) (sh 7 56 (by unfold wrap64; omega) (by omega)) _ ?_
  have e : [] ++ [x / ((2 ^ 0 : Nat) : Int) % 256] ++ [x / ((2 ^ 8 : Nat) : Int) % 256] ++ [x / ((2 ^ 16 : Nat) : Int) % 256] ++ [x / ((2 ^ 24 : Nat) : Int) % 256] ++ [x / ((2 ^ 32 : Nat) : Int) % 256] ++ [x / ((2 ^ 40 : Nat) : Int) % 256] ++ [x / ((2 ^ 48 : Nat) : Int) % 256] ++ [x / ((2 ^ 56 : Nat) : Int) % 256] = Giv3.eightB x := by
    unfold Giv3.eightB
    simp
  rw [e]
  exact fin
section
variable (c d f h a b : Int)
theorem let_h (s : ByteArray) (i : Int) (l : List Int) (hi : 0 ≤ i ∧ i < s.size) (hs : s.size < 10) (hl : l.length < 1000) (hb : bt s i = 104) (R : ByteArray) (H : Ev (fun k => cubicleref18_Bytes.l0 k (strOfNums (l ++ Giv3.eightB h)) s (i + 1) c d f h a b) R) :
    Ev (fun k => cubicleref18_Bytes.l0 k (strOfNums l) s i c d f h a b) R := by
  have e1 : wrap64 (i + 1) = i + 1 := by unfold wrap64; omega
  refine Ev.step (f := fun k => (cubicleref18_eight.f k h).bind fun t => (if (strOfNums l).size + t.size ≤ 9223372036854775807 then cubicleref18_Bytes.l0 k (strOfNums l ++ t) s (i + 1) c d f h a b else none)) (fun k => ?_) ?_
  · simp only [cubicleref18_Bytes.l0]
    rw [if_pos hi.2, if_pos hi.1, if_pos hb, e1]
  · refine Ev.bind (eight_eq h) ?_
    rw [app_nums]
    exact Ev.congr (fun k => if_pos (by rw [size_nums, size_nums]; simp [Giv3.eightB]; omega)) H
theorem let_d (s : ByteArray) (i : Int) (l : List Int) (hi : 0 ≤ i ∧ i < s.size) (hs : s.size < 10) (hl : l.length < 1000) (hb : bt s i = 100) (R : ByteArray) (H : Ev (fun k => cubicleref18_Bytes.l0 k (strOfNums (l ++ [d % 256])) s (i + 1) c d f h a b) R) :
    Ev (fun k => cubicleref18_Bytes.l0 k (strOfNums l) s i c d f h a b) R := by
  have e1 : wrap64 (i + 1) = i + 1 := by unfold wrap64; omega
  refine Ev.step (fun k => ?_) H
  simp only [cubicleref18_Bytes.l0]
  rw [if_pos hi.2, if_pos hi.1, if_neg (by rw [hb]; decide), if_pos hb, Option.bind_some, if_pos (by rw [size_nums, size_nums]; simp; omega), app_nums, e1]
theorem let_f (s : ByteArray) (i : Int) (l : List Int) (hi : 0 ≤ i ∧ i < s.size) (hs : s.size < 10) (hl : l.length < 1000) (hb : bt s i = 102) (R : ByteArray) (H : Ev (fun k => cubicleref18_Bytes.l0 k (strOfNums (l ++ [f % 256])) s (i + 1) c d f h a b) R) :
    Ev (fun k => cubicleref18_Bytes.l0 k (strOfNums l) s i c d f h a b) R := by
  have e1 : wrap64 (i + 1) = i + 1 := by unfold wrap64; omega
  refine Ev.step (fun k => ?_) H
  simp only [cubicleref18_Bytes.l0]
  rw [if_pos hi.2, if_pos hi.1, if_neg (by rw [hb]; decide), if_neg (by rw [hb]; decide), if_pos hb, Option.bind_some, if_pos (by rw [size_nums, size_nums]; simp; omega), app_nums, e1]
theorem let_a (s : ByteArray) (i : Int) (l : List Int) (hi : 0 ≤ i ∧ i < s.size) (hs : s.size < 10) (hl : l.length < 1000) (hb : bt s i = 97) (R : ByteArray) (H : Ev (fun k => cubicleref18_Bytes.l0 k (strOfNums (l ++ Giv3.eightB a)) s (i + 1) c d f h a b) R) :
    Ev (fun k => cubicleref18_Bytes.l0 k (strOfNums l) s i c d f h a b) R := by
  have e1 : wrap64 (i + 1) = i + 1 := by unfold wrap64; omega
  refine Ev.step (f := fun k => (cubicleref18_eight.f k a).bind fun t => (if (strOfNums l).size + t.size ≤ 9223372036854775807 then cubicleref18_Bytes.l0 k (strOfNums l ++ t) s (i + 1) c d f h a b else none)) (fun k => ?_) ?_
  · simp only [cubicleref18_Bytes.l0]
    rw [if_pos hi.2, if_pos hi.1, if_neg (by rw [hb]; decide), if_neg (by rw [hb]; decide), if_neg (by rw [hb]; decide), if_pos hb, e1]
  · refine Ev.bind (eight_eq a) ?_
    rw [app_nums]
    exact Ev.congr (fun k => if_pos (by rw [size_nums, size_nums]; simp [Giv3.eightB]; omega)) H
theorem let_b (s : ByteArray) (i : Int) (l : List Int) (hi : 0 ≤ i ∧ i < s.size) (hs : s.size < 10) (hl : l.length < 1000) (hb : bt s i = 98) (R : ByteArray) (H : Ev (fun k => cubicleref18_Bytes.l0 k (strOfNums (l ++ Giv3.eightB b)) s (i + 1) c d f h a b) R) :
    Ev (fun k => cubicleref18_Bytes.l0 k (strOfNums l) s i c d f h a b) R := by
  have e1 : wrap64 (i + 1) = i + 1 := by unfold wrap64; omega
  refine Ev.step (f := fun k => (cubicleref18_eight.f k b).bind fun t => (if (strOfNums l).size + t.size ≤ 9223372036854775807 then cubicleref18_Bytes.l0 k (strOfNums l ++ t) s (i + 1) c d f h a b else none)) (fun k => ?_) ?_
  · simp only [cubicleref18_Bytes.l0]
    rw [if_pos hi.2, if_pos hi.1, if_neg (by rw [hb]; decide), if_neg (by rw [hb]; decide), if_neg (by rw [hb]; decide), if_neg (by rw [hb]; decide), if_pos hb, e1]
  · refine Ev.bind (eight_eq b) ?_
    rw [app_nums]
    exact Ev.congr (fun k => if_pos (by rw [size_nums, size_nums]; simp [Giv3.eightB]; omega)) H
theorem let_end (s : ByteArray) (i : Int) (l : List Int) (hi : i = s.size) : Ev (fun k => cubicleref18_Bytes.l0 k (strOfNums l) s i c d f h a b) (strOfNums l) := by
  refine Ev.step (f := fun _ => some (strOfNums l)) (fun k => ?_) (Ev.now _)
  simp only [cubicleref18_Bytes.l0]
  rw [if_neg (by omega)]
end
theorem go_1 (d f h a b : Int) : Ev (fun k => cubicleref18_Bytes.l0 k (strOfNums [1 % 256]) (asked 1) 0 1 d f h a b) (strOfNums (Giv3.byt 1 d f h a b (Giv.askh 1) (Giv.askd 1) (Giv.askf 1) (Giv.aska 1) (Giv.askb 1))) := by
  have es : asked 1 = ⟨#[]⟩ := by decide +kernel
  have ez : (⟨#[]⟩ : ByteArray).size = 0 := rfl
  have eh : Giv.askh 1 = false := by decide
  have ed : Giv.askd 1 = false := by decide
  have ef : Giv.askf 1 = false := by decide
  have ea : Giv.aska 1 = false := by decide
  have eb : Giv.askb 1 = false := by decide
  rw [es, eh, ed, ef, ea, eb]
  have e : [1 % 256] = Giv3.byt 1 d f h a b false false false false false := by simp [Giv3.byt, Giv3.mid, Giv3.put8]
  rw [← e]
  exact let_end 1 d f h a b _ _ _ (by rw [ez]; omega)
theorem go_2 (d f h a b : Int) : Ev (fun k => cubicleref18_Bytes.l0 k (strOfNums [2 % 256]) (asked 2) 0 2 d f h a b) (strOfNums (Giv3.byt 2 d f h a b (Giv.askh 2) (Giv.askd 2) (Giv.askf 2) (Giv.aska 2) (Giv.askb 2))) := by
  have es : asked 2 = ⟨#[104]⟩ := by decide +kernel
  have ez : (⟨#[104]⟩ : ByteArray).size = 1 := rfl
  have eh : Giv.askh 2 = true := by decide
  have ed : Giv.askd 2 = false := by decide
  have ef : Giv.askf 2 = false := by decide
  have ea : Giv.aska 2 = false := by decide
  have eb : Giv.askb 2 = false := by decide
  rw [es, eh, ed, ef, ea, eb]
  refine let_h 2 d f h a b _ 0 _ (by rw [ez]; omega) (by rw [ez]; omega) (by simp [Giv3.eightB]) (by decide +kernel) _ ?_
  have e : ([2 % 256] ++ Giv3.eightB h) = Giv3.byt 2 d f h a b true false false false false := by simp [Giv3.byt, Giv3.mid, Giv3.put8]
  rw [← e]
  exact let_end 2 d f h a b _ _ _ (by rw [ez]; omega)
theorem go_3 (d f h a b : Int) : Ev (fun k => cubicleref18_Bytes.l0 k (strOfNums [3 % 256]) (asked 3) 0 3 d f h a b) (strOfNums (Giv3.byt 3 d f h a b (Giv.askh 3) (Giv.askd 3) (Giv.askf 3) (Giv.aska 3) (Giv.askb 3))) := by
  have es : asked 3 = ⟨#[104, 102]⟩ := by decide +kernel
  have ez : (⟨#[104, 102]⟩ : ByteArray).size = 2 := rfl
  have eh : Giv.askh 3 = true := by decide
  have ed : Giv.askd 3 = false := by decide
  have ef : Giv.askf 3 = true := by decide
  have ea : Giv.aska 3 = false := by decide
  have eb : Giv.askb 3 = false := by decide
  rw [es, eh, ed, ef, ea, eb]
  refine let_h 3 d f h a b _ 0 _ (by rw [ez]; omega) (by rw [ez]; omega) (by simp [Giv3.eightB]) (by decide +kernel) _ ?_
  refine let_f 3 d f h a b _ 1 _ (by rw [ez]; omega) (by rw [ez]; omega) (by simp [Giv3.eightB]) (by decide +kernel) _ ?_
  have e : (([3 % 256] ++ Giv3.eightB h) ++ [f % 256]) = Giv3.byt 3 d f h a b true false true false false := by simp [Giv3.byt, Giv3.mid, Giv3.put8]
  rw [← e]
  exact let_end 3 d f h a b _ _ _ (by rw [ez]; omega)
theorem go_4 (d f h a b : Int) : Ev (fun k => cubicleref18_Bytes.l0 k (strOfNums [4 % 256]) (asked 4) 0 4 d f h a b) (strOfNums (Giv3.byt 4 d f h a b (Giv.askh 4) (Giv.askd 4) (Giv.askf 4) (Giv.aska 4) (Giv.askb 4))) := by
  have es : asked 4 = ⟨#[104, 102, 97]⟩ := by decide +kernel
  have ez : (⟨#[104, 102, 97]⟩ : ByteArray).size = 3 := rfl
  have eh : Giv.askh 4 = true := by decide
  have ed : Giv.askd 4 = false := by decide
  have ef : Giv.askf 4 = true := by decide
  have ea : Giv.aska 4 = true := by decide
  have eb : Giv.askb 4 = false := by decide
  rw [es, eh, ed, ef, ea, eb]
  refine let_h 4 d f h a b _ 0 _ (by rw [ez]; omega) (by rw [ez]; omega) (by simp [Giv3.eightB]) (by decide +kernel) _ ?_
  refine let_f 4 d f h a b _ 1 _ (by rw [ez]; omega) (by rw [ez]; omega) (by simp [Giv3.eightB]) (by decide +kernel) _ ?_
  refine let_a 4 d f h a b _ 2 _ (by rw [ez]; omega) (by rw [ez]; omega) (by simp [Giv3.eightB]) (by decide +kernel) _ ?_
  have e : ((([4 % 256] ++ Giv3.eightB h) ++ [f % 256]) ++ Giv3.eightB a) = Giv3.byt 4 d f h a b true false true true false := by simp [Giv3.byt, Giv3.mid, Giv3.put8]
  rw [← e]
  exact let_end 4 d f h a b _ _ _ (by rw [ez]; omega)
theorem go_5 (d f h a b : Int) : Ev (fun k => cubicleref18_Bytes.l0 k (strOfNums [5 % 256]) (asked 5) 0 5 d f h a b) (strOfNums (Giv3.byt 5 d f h a b (Giv.askh 5) (Giv.askd 5) (Giv.askf 5) (Giv.aska 5) (Giv.askb 5))) := by
  have es : asked 5 = ⟨#[104, 102, 97, 98]⟩ := by decide +kernel
  have ez : (⟨#[104, 102, 97, 98]⟩ : ByteArray).size = 4 := rfl
  have eh : Giv.askh 5 = true := by decide
  have ed : Giv.askd 5 = false := by decide
  have ef : Giv.askf 5 = true := by decide
  have ea : Giv.aska 5 = true := by decide
  have eb : Giv.askb 5 = true := by decide
  rw [es, eh, ed, ef, ea, eb]
  refine let_h 5 d f h a b _ 0 _ (by rw [ez]; omega) (by rw [ez]; omega) (by simp [Giv3.eightB]) (by decide +kernel) _ ?_
  refine let_f 5 d f h a b _ 1 _ (by rw [ez]; omega) (by rw [ez]; omega) (by simp [Giv3.eightB]) (by decide +kernel) _ ?_
  refine let_a 5 d f h a b _ 2 _ (by rw [ez]; omega) (by rw [ez]; omega) (by simp [Giv3.eightB]) (by decide +kernel) _ ?_
  refine let_b 5 d f h a b _ 3 _ (by rw [ez]; omega) (by rw [ez]; omega) (by simp [Giv3.eightB]) (by decide +kernel) _ ?_
  have e : (((([5 % 256] ++ Giv3.eightB h) ++ [f % 256]) ++ Giv3.eightB a) ++ Giv3.eightB b) = Giv3.byt 5 d f h a b true false true true true := by simp [Giv3.byt, Giv3.mid, Giv3.put8]
  rw [← e]
  exact let_end 5 d f h a b _ _ _ (by rw [ez]; omega)
theorem go_6 (d f h a b : Int) : Ev (fun k => cubicleref18_Bytes.l0 k (strOfNums [6 % 256]) (asked 6) 0 6 d f h a b) (strOfNums (Giv3.byt 6 d f h a b (Giv.askh 6) (Giv.askd 6) (Giv.askf 6) (Giv.aska 6) (Giv.askb 6))) := by
  have es : asked 6 = ⟨#[]⟩ := by decide +kernel
  have ez : (⟨#[]⟩ : ByteArray).size = 0 := rfl
  have eh : Giv.askh 6 = false := by decide
  have ed : Giv.askd 6 = false := by decide
  have ef : Giv.askf 6 = false := by decide
  have ea : Giv.aska 6 = false := by decide
  have eb : Giv.askb 6 = false := by decide
  rw [es, eh, ed, ef, ea, eb]
  have e : [6 % 256] = Giv3.byt 6 d f h a b false false false false false := by simp [Giv3.byt, Giv3.mid, Giv3.put8]
  rw [← e]
  exact let_end 6 d f h a b _ _ _ (by rw [ez]; omega)
theorem go_7 (d f h a b : Int) : Ev (fun k => cubicleref18_Bytes.l0 k (strOfNums [7 % 256]) (asked 7) 0 7 d f h a b) (strOfNums (Giv3.byt 7 d f h a b (Giv.askh 7) (Giv.askd 7) (Giv.askf 7) (Giv.aska 7) (Giv.askb 7))) := by
  have es : asked 7 = ⟨#[100, 97]⟩ := by decide +kernel
  have ez : (⟨#[100, 97]⟩ : ByteArray).size = 2 := rfl
  have eh : Giv.askh 7 = false := by decide
  have ed : Giv.askd 7 = true := by decide
  have ef : Giv.askf 7 = false := by decide
  have ea : Giv.aska 7 = true := by decide
  have eb : Giv.askb 7 = false := by decide
  rw [es, eh, ed, ef, ea, eb]
  refine let_d 7 d f h a b _ 0 _ (by rw [ez]; omega) (by rw [ez]; omega) (by simp [Giv3.eightB]) (by decide +kernel) _ ?_
  refine let_a 7 d f h a b _ 1 _ (by rw [ez]; omega) (by rw [ez]; omega) (by simp [Giv3.eightB]) (by decide +kernel) _ ?_
  have e : (([7 % 256] ++ [d % 256]) ++ Giv3.eightB a) = Giv3.byt 7 d f h a b false true false true false := by simp [Giv3.byt, Giv3.mid, Giv3.put8]
  rw [← e]
  exact let_end 7 d f h a b _ _ _ (by rw [ez]; omega)
theorem go_8 (d f h a b : Int) : Ev (fun k => cubicleref18_Bytes.l0 k (strOfNums [8 % 256]) (asked 8) 0 8 d f h a b) (strOfNums (Giv3.byt 8 d f h a b (Giv.askh 8) (Giv.askd 8) (Giv.askf 8) (Giv.aska 8) (Giv.askb 8))) := by
  have es : asked 8 = ⟨#[100]⟩ := by decide +kernel
  have ez : (⟨#[100]⟩ : ByteArray).size = 1 := rfl
  have eh : Giv.askh 8 = false := by decide
  have ed : Giv.askd 8 = true := by decide
  have ef : Giv.askf 8 = false := by decide
  have ea : Giv.aska 8 = false := by decide
  have eb : Giv.askb 8 = false := by decide
  rw [es, eh, ed, ef, ea, eb]
  refine let_d 8 d f h a b _ 0 _ (by rw [ez]; omega) (by rw [ez]; omega) (by simp [Giv3.eightB]) (by decide +kernel) _ ?_
  have e : ([8 % 256] ++ [d % 256]) = Giv3.byt 8 d f h a b false true false false false := by simp [Giv3.byt, Giv3.mid, Giv3.put8]
  rw [← e]
  exact let_end 8 d f h a b _ _ _ (by rw [ez]; omega)
theorem go_9 (d f h a b : Int) : Ev (fun k => cubicleref18_Bytes.l0 k (strOfNums [9 % 256]) (asked 9) 0 9 d f h a b) (strOfNums (Giv3.byt 9 d f h a b (Giv.askh 9) (Giv.askd 9) (Giv.askf 9) (Giv.aska 9) (Giv.askb 9))) := by
  have es : asked 9 = ⟨#[]⟩ := by decide +kernel
  have ez : (⟨#[]⟩ : ByteArray).size = 0 := rfl
  have eh : Giv.askh 9 = false := by decide
  have ed : Giv.askd 9 = false := by decide
  have ef : Giv.askf 9 = false := by decide
  have ea : Giv.aska 9 = false := by decide
  have eb : Giv.askb 9 = false := by decide
  rw [es, eh, ed, ef, ea, eb]
  have e : [9 % 256] = Giv3.byt 9 d f h a b false false false false false := by simp [Giv3.byt, Giv3.mid, Giv3.put8]
  rw [← e]
  exact let_end 9 d f h a b _ _ _ (by rw [ez]; omega)
theorem go_10 (d f h a b : Int) : Ev (fun k => cubicleref18_Bytes.l0 k (strOfNums [10 % 256]) (asked 10) 0 10 d f h a b) (strOfNums (Giv3.byt 10 d f h a b (Giv.askh 10) (Giv.askd 10) (Giv.askf 10) (Giv.aska 10) (Giv.askb 10))) := by
  have es : asked 10 = ⟨#[100, 97, 98]⟩ := by decide +kernel
  have ez : (⟨#[100, 97, 98]⟩ : ByteArray).size = 3 := rfl
  have eh : Giv.askh 10 = false := by decide
  have ed : Giv.askd 10 = true := by decide
  have ef : Giv.askf 10 = false := by decide
  have ea : Giv.aska 10 = true := by decide
  have eb : Giv.askb 10 = true := by decide
  rw [es, eh, ed, ef, ea, eb]
  refine let_d 10 d f h a b _ 0 _ (by rw [ez]; omega) (by rw [ez]; omega) (by simp [Giv3.eightB]) (by decide +kernel) _ ?_
  refine let_a 10 d f h a b _ 1 _ (by rw [ez]; omega) (by rw [ez]; omega) (by simp [Giv3.eightB]) (by decide +kernel) _ ?_
  refine let_b 10 d f h a b _ 2 _ (by rw [ez]; omega) (by rw [ez]; omega) (by simp [Giv3.eightB]) (by decide +kernel) _ ?_
  have e : ((([10 % 256] ++ [d % 256]) ++ Giv3.eightB a) ++ Giv3.eightB b) = Giv3.byt 10 d f h a b false true false true true := by simp [Giv3.byt, Giv3.mid, Giv3.put8]
  rw [← e]
  exact let_end 10 d f h a b _ _ _ (by rw [ez]; omega)
theorem go_11 (d f h a b : Int) : Ev (fun k => cubicleref18_Bytes.l0 k (strOfNums [11 % 256]) (asked 11) 0 11 d f h a b) (strOfNums (Giv3.byt 11 d f h a b (Giv.askh 11) (Giv.askd 11) (Giv.askf 11) (Giv.aska 11) (Giv.askb 11))) := by
  have es : asked 11 = ⟨#[100, 97]⟩ := by decide +kernel
  have ez : (⟨#[100, 97]⟩ : ByteArray).size = 2 := rfl
  have eh : Giv.askh 11 = false := by decide
  have ed : Giv.askd 11 = true := by decide
  have ef : Giv.askf 11 = false := by decide
  have ea : Giv.aska 11 = true := by decide
  have eb : Giv.askb 11 = false := by decide
  rw [es, eh, ed, ef, ea, eb]
  refine let_d 11 d f h a b _ 0 _ (by rw [ez]; omega) (by rw [ez]; omega) (by simp [Giv3.eightB]) (by decide +kernel) _ ?_
  refine let_a 11 d f h a b _ 1 _ (by rw [ez]; omega) (by rw [ez]; omega) (by simp [Giv3.eightB]) (by decide +kernel) _ ?_
  have e : (([11 % 256] ++ [d % 256]) ++ Giv3.eightB a) = Giv3.byt 11 d f h a b false true false true false := by simp [Giv3.byt, Giv3.mid, Giv3.put8]
  rw [← e]
  exact let_end 11 d f h a b _ _ _ (by rw [ez]; omega)
theorem go_12 (d f h a b : Int) : Ev (fun k => cubicleref18_Bytes.l0 k (strOfNums [12 % 256]) (asked 12) 0 12 d f h a b) (strOfNums (Giv3.byt 12 d f h a b (Giv.askh 12) (Giv.askd 12) (Giv.askf 12) (Giv.aska 12) (Giv.askb 12))) := by
  have es : asked 12 = ⟨#[100, 97]⟩ := by decide +kernel
  have ez : (⟨#[100, 97]⟩ : ByteArray).size = 2 := rfl
  have eh : Giv.askh 12 = false := by decide
  have ed : Giv.askd 12 = true := by decide
  have ef : Giv.askf 12 = false := by decide
  have ea : Giv.aska 12 = true := by decide
  have eb : Giv.askb 12 = false := by decide
  rw [es, eh, ed, ef, ea, eb]
  refine let_d 12 d f h a b _ 0 _ (by rw [ez]; omega) (by rw [ez]; omega) (by simp [Giv3.eightB]) (by decide +kernel) _ ?_
  refine let_a 12 d f h a b _ 1 _ (by rw [ez]; omega) (by rw [ez]; omega) (by simp [Giv3.eightB]) (by decide +kernel) _ ?_
  have e : (([12 % 256] ++ [d % 256]) ++ Giv3.eightB a) = Giv3.byt 12 d f h a b false true false true false := by simp [Giv3.byt, Giv3.mid, Giv3.put8]
  rw [← e]
  exact let_end 12 d f h a b _ _ _ (by rw [ez]; omega)
theorem rbytes_eq (c d f h a b : Int) : Ev (fun k => cubicleref18_Bytes.f k c d f h a b) (if Giv.OpF c d f h a b then strOfNums (Giv3.byt c d f h a b (Giv.askh c) (Giv.askd c) (Giv.askf c) (Giv.aska c) (Giv.askb c)) else ⟨#[]⟩) := by
  unfold cubicleref18_Bytes.f
  refine Ev.bind (rformed_eq c d f h a b) ?_
  by_cases hF : Giv.OpF c d f h a b
  · rw [show decide (Giv.OpF c d f h a b) = true from decide_eq_true hF, if_pos hF]
    have h1 := hF.1.1
    have h2 := hF.1.2.1
    rw [asks_eq h1 h2]
    refine Ev.congr (fun k => by rw [if_pos rfl, Option.bind_some]) ?_
    clear hF
    rcases code_cases h1 h2 with rfl | rfl | rfl | rfl | rfl | rfl | rfl | rfl | rfl | rfl | rfl | rfl
    all_goals first | exact go_1 d f h a b | exact go_2 d f h a b | exact go_3 d f h a b | exact go_4 d f h a b | exact go_5 d f h a b | exact go_6 d f h a b | exact go_7 d f h a b | exact go_8 d f h a b | exact go_9 d f h a b | exact go_10 d f h a b | exact go_11 d f h a b | exact go_12 d f h a b
  · rw [show decide (Giv.OpF c d f h a b) = false from decide_eq_false hF, if_neg hF]
    exact Ev.congr (fun k => if_neg (by simp)) (Ev.now _)
end Go.Proofs.Ytdmiingneodcbaa.DDecodeOf
