/- A call that looks at blocks that nobody writes meanwhile: they may be lent as parts of the area; and what a call does not touch stays known. -/
import Derived.Test.YtpckjfncecoibaaGreatFunPrim
namespace Go.Proofs.YtpckjfncecoibaaGreat.Fun
open Go
set_option linter.unusedSimpArgs false
set_option linter.unusedVariables false
/-- The names without those that are lent; the area with their blocks. -/
def cutN (Ln : Nat → Bool) (ρ : Nat → Option Nat) : Nat → Option Nat := fun b => if Ln b then none else ρ b
def lentS (Ln : Nat → Bool) (ρ : Nat → Option Nat) (mu : Mu) (S : Nat → Prop) : Nat → Prop := fun p => S p ∨ ∃ b o d, Ln b = true ∧ ρ b = some p ∧ mu b o = some d
/-- The names that a value of one cell has. -/
def nameOf : DV → List Nat
  | .adr b _ | .vec b _ _ _ | .mref b | .cref b => [b]
  | _ => []
def flat1 : DV → Bool
  | .int _ _ | .bool _ | .str _ | .nilp | .nilf | .adr _ _ | .vec _ _ _ _ | .nils | .mref _ | .cref _ | .nilm => true
  | _ => false
theorem flat_lies {c : DV} (h : flat1 c = true) {ρ ρ' : Nat → Option Nat} {S S' : Nat → Prop} {w : World} {p off : Nat} (hn : ∀ b ∈ nameOf c, ∀ q, ρ b = some q → ρ' b = some q) (hl : Lies ρ S w p off c) : Lies ρ' S' w p off c := by
  cases c <;> simp only [flat1] at h <;> first | (cases h; done) | skip
  all_goals
    obtain ⟨hf, v, hv, ha⟩ := hl
    refine ⟨hf, v, hv, ?_⟩
    simp only [Abs] at ha ⊢
  case adr b o => obtain ⟨q, hq, h⟩ := ha; exact ⟨q, hn b (by simp [nameOf]) q hq, h⟩
  case mref b => obtain ⟨q, hq, h⟩ := ha; exact ⟨q, hn b (by simp [nameOf]) q hq, h⟩
  case cref b => obtain ⟨q, hq, h⟩ := ha; exact ⟨q, hn b (by simp [nameOf]) q hq, h⟩
  case vec b o n z => obtain ⟨a, cap, h1, h2, h3⟩ := ha; exact ⟨a, cap, h1, h2, h3.imp id fun ⟨q, hq, h⟩ => ⟨q, hn b (by simp [nameOf]) q hq, h⟩⟩
  all_goals exact ha
theorem CallOk.lend {P : Program} {f : FuncId} {ds ds' : List DV} {mu mu0 mu1 : Mu} {d : DV} {fs : List Nat} (Ln F : Nat → Bool) (h : CallOk P f ds' mu0 d mu1 false fs)
    (hF0 : ∀ b o c, mu0 b o = some c → mu b o = some c ∧ F b = true ∧ Ln b = false ∧ flat1 c = true ∧ ∀ n ∈ nameOf c, Ln n = false) (hF1 : ∀ b o c, mu1 b o = some c → F b = true ∧ flat1 c = true)
    (hF : ∀ b, F b = true → b ∈ fs ∨ ∃ o, (mu0 b o).isSome = true) (hd : ∀ (ρ ρ' : Nat → Option Nat) (S S' : Nat → Prop) (w : World) (v : Value), Abs ρ S w d v → Abs ρ' S' w d v)
    (hargs : ∀ (ρ : Nat → Option Nat) (S : Nat → Prop) (w : World) (vs : List Value), Named ρ mu w → MuOk ρ S w mu → AbsL ρ S w ds vs → AbsL (cutN Ln ρ) (lentS Ln ρ mu S) w ds' vs) :
    CallOk P f ds mu d (fun b o => if F b then mu1 b o else mu b o) false fs := ⟨h.enters, fun ρ S w vs hnm hfr sane hmu hab => by
  have hcut : ∀ b p, cutN Ln ρ b = some p → ρ b = some p ∧ Ln b = false := fun b p hb => by
    unfold cutN at hb
    split at hb
    · cases hb
    · rename_i hl; exact ⟨hb, by simpa using hl⟩
  have hdom0 : ∀ p, Dom (cutN Ln ρ) mu0 p → Dom ρ mu p := fun p ⟨b, o, c, hb, hc⟩ => ⟨b, o, c, (hcut b p hb).1, (hF0 b o c hc).1⟩
  have nm0 : Named (cutN Ln ρ) mu0 w := ⟨fun a b c o o' ha hb h1 h2 => by
    obtain ⟨x, hx⟩ := Option.isSome_iff_exists.1 h1
    obtain ⟨y, hy⟩ := Option.isSome_iff_exists.1 h2
    exact hnm.inj a b c o o' (hcut a c ha).1 (hcut b c hb).1 (by rw [(hF0 _ _ _ hx).1]; rfl) (by rw [(hF0 _ _ _ hy).1]; rfl), fun n b hb => hnm.lt n b (hcut n b hb).1⟩
  have sane0 : ∀ b, lentS Ln ρ mu S b → b < w.heap.size := fun b hb => by
    rcases hb with hb | ⟨n, _, _, _, hn, _⟩
    · exact sane b hb
    · exact hnm.lt n b hn
  have mu0ok : MuOk (cutN Ln ρ) (lentS Ln ρ mu S) w mu0 := fun b o c hc => by
    obtain ⟨hm, hf, hl, hfl, hnn⟩ := hF0 b o c hc
    obtain ⟨p, hp, hS, hL⟩ := hmu b o c hm
    refine ⟨p, by unfold cutN; rw [hl]; exact hp, fun hs => ?_, flat_lies hfl (fun n hn q hq => by unfold cutN; rw [hnn n hn]; exact hq) hL⟩
    rcases hs with hs | ⟨n, o', c', hn, hn', hc'⟩
    · exact hS hs
    · have := hnm.inj b n p o o' hp hn' (by rw [hm]; rfl) (by rw [hc']; rfl)
      subst this; rw [hl] at hn; cases hn
  refine (h.runs (cutN Ln ρ) (lentS Ln ρ mu S) w vs nm0 (fun n hn => by unfold cutN; rw [hfr n hn]; split <;> rfl) sane0 mu0ok (hargs ρ S w vs hnm hmu hab)).mono ?_
  rintro e w' ⟨v, S1, ρ1, rfl, post, nm1, ext1, back1, mu1ok, dom1, hv⟩
  let ρ2 : Nat → Option Nat := fun b => match ρ1 b with | some p => some p | none => ρ b
  have h12 : ∀ b p, ρ1 b = some p → ρ2 b = some p := fun b p hb => by show (match ρ1 b with | some p => some p | none => ρ b) = _; rw [hb]
  have hρ2 : ∀ b p, ρ b = some p → ρ2 b = some p := fun b p hb => by
    show (match ρ1 b with | some p => some p | none => ρ b) = _
    cases h1 : ρ1 b with
    | none => exact hb
    | some q =>
      rcases back1 b q h1 with h2 | h2
      · rw [(hcut b q h2).1] at hb; exact hb
      · rw [hfr b h2] at hb; cases hb
  have hback : ∀ b p, ρ2 b = some p → ρ b = some p ∨ b ∈ fs := fun b p hb => by
    change (match ρ1 b with | some p => some p | none => ρ b) = _ at hb
    cases h1 : ρ1 b with
    | none => rw [h1] at hb; exact .inl hb
    | some q =>
      rw [h1] at hb; cases hb
      rcases back1 b p h1 with h2 | h2
      · exact .inl (hcut b p h2).1
      · exact .inr h2
  have hsame : ∀ b, b < w.heap.size → ¬ Dom (cutN Ln ρ) mu0 b → w'.heap[b]? = w.heap[b]? := fun b hb hn => post.clean rfl b hb hn
  have hSame : ∀ b, S b → w'.heap[b]? = w.heap[b]? := fun b hb => hsame b (sane b hb) fun ⟨n, o, c, hn, hc⟩ => by
    obtain ⟨p, hp, hS, _⟩ := hmu n o c (hF0 n o c hc).1
    rw [(hcut n b hn).1] at hp; cases hp
    exact hS hb
  have hE : Ext ρ w ρ2 w' := fun n b hb => ⟨hρ2 n b hb, fun us e fz hu => by
    by_cases hD : Dom (cutN Ln ρ) mu0 b
    · obtain ⟨k, o, c, hk, hc⟩ := hD
      obtain ⟨_, h2⟩ := ext1 k b hk
      exact h2 us e fz hu
    · exact ⟨us, by rw [hsame b (hnm.lt n b hb) hD]; exact hu, rfl⟩⟩
  -- a known name that the call does not touch: its block stays
  have hfar : ∀ b o c, F b = false → mu b o = some c → ∀ p, ρ b = some p → ¬ Dom (cutN Ln ρ) mu0 p := fun b o c hf hc p hp ⟨n, o', c', hn, hc'⟩ => by
    obtain ⟨hm, hf', _⟩ := hF0 n o' c' hc'
    have := hnm.inj b n p o o' hp (hcut n p hn).1 (by rw [hc]; rfl) (by rw [hm]; rfl)
    subst this; rw [hf] at hf'; cases hf'
  have hmix : ∀ a b p o o' x y, F a = true → F b = false → mu1 a o = some x → mu b o' = some y → ρ2 a = some p → ρ2 b = some p → False := fun a b p o o' x y ha hb hx hy h1 h2 => by
    have hb2 : ρ b = some p := by
      rcases hback b p h2 with h | h
      · exact h
      · obtain ⟨q, hq, _⟩ := hmu b o' y hy
        rw [hfr b h] at hq; cases hq
    obtain ⟨q, hq, _, _⟩ := mu1ok a o x hx
    have : q = p := by rw [h12 a q hq] at h1; exact Option.some.inj h1
    subst this
    rcases dom1 q ⟨a, o, x, hq, hx⟩ with hD | hD
    · exact hfar b o' y hb hy q hb2 hD
    · have := hnm.lt b q hb2; omega
  have hknow : ∀ b o, ((if F b then mu1 b o else mu b o) : Option DV).isSome = true → (F b = true ∧ ∃ x, mu1 b o = some x) ∨ (F b = false ∧ ∃ x, mu b o = some x) := fun b o hs => by
    cases hf : F b with
    | true => rw [hf, if_pos rfl] at hs; exact .inl ⟨rfl, Option.isSome_iff_exists.1 hs⟩
    | false => rw [hf, if_neg (by simp)] at hs; exact .inr ⟨rfl, Option.isSome_iff_exists.1 hs⟩
  refine ⟨v, S, ρ2, rfl, ⟨post.os, post.tape, post.output, post.size, fun b hb _ hD => hsame b hb fun h0 => hD (hdom0 b h0), fun _ b hb hD => hsame b hb fun h0 => hD (hdom0 b h0), fun _ h => h, fun _ h => .inl h⟩, ⟨fun a b c o o' ha hb h1 h2 => ?_, fun n b hb => ?_⟩, hE, hback, fun b o c hc => ?_, fun p hp => ?_, hd _ _ _ _ _ _ hv⟩
  · rcases hknow a o h1 with ⟨fa, x, hx⟩ | ⟨fa, x, hx⟩ <;> rcases hknow b o' h2 with ⟨fb, y, hy⟩ | ⟨fb, y, hy⟩
    · obtain ⟨p, hp, _⟩ := mu1ok a o x hx
      obtain ⟨q, hq, _⟩ := mu1ok b o' y hy
      have e1 : p = c := by rw [h12 a p hp] at ha; exact Option.some.inj ha
      have e2 : q = c := by rw [h12 b q hq] at hb; exact Option.some.inj hb
      subst e1; subst e2
      exact nm1.inj a b q o o' hp hq (by rw [hx]; rfl) (by rw [hy]; rfl)
    · exact (hmix a b c o o' x y fa fb hx hy ha hb).elim
    · exact (hmix b a c o' o y x fb fa hy hx hb ha).elim
    · obtain ⟨p, hp, _⟩ := hmu a o x hx
      obtain ⟨q, hq, _⟩ := hmu b o' y hy
      have e1 : p = c := by rw [hρ2 a p hp] at ha; exact Option.some.inj ha
      have e2 : q = c := by rw [hρ2 b q hq] at hb; exact Option.some.inj hb
      subst e1; subst e2
      exact hnm.inj a b q o o' hp hq (by rw [hx]; rfl) (by rw [hy]; rfl)
  · change (match ρ1 n with | some p => some p | none => ρ n) = some b at hb
    cases h1 : ρ1 n with
    | none => rw [h1] at hb; have := hnm.lt n b hb; have := post.size; omega
    | some q => rw [h1] at hb; cases hb; exact nm1.lt n b h1
  · replace hc : (if F b = true then mu1 b o else mu b o) = some c := hc
    cases hf : F b with
    | true =>
      rw [hf, if_pos rfl] at hc
      obtain ⟨p, hp, hS1, hL⟩ := mu1ok b o c hc
      refine ⟨p, h12 b p hp, fun hs => ?_, flat_lies (hF1 b o c hc).2 (fun n _ q hq => h12 n q hq) hL⟩
      exact hS1 (post.up p (.inl hs))
    | false =>
      rw [hf, if_neg (by simp)] at hc
      obtain ⟨p, hp, hS, hL⟩ := hmu b o c hc
      exact ⟨p, hρ2 b p hp, hS, hL.mono hE hSame (fun _ h => h) (hsame p (hnm.lt b p hp) (hfar b o c hf hc p hp))⟩
  · obtain ⟨b, o, c, hb, hc⟩ := hp
    replace hc : (if F b = true then mu1 b o else mu b o) = some c := hc
    cases hf : F b with
    | true =>
      rw [hf, if_pos rfl] at hc
      obtain ⟨q, hq, _⟩ := mu1ok b o c hc
      have : q = p := by rw [h12 b q hq] at hb; exact Option.some.inj hb
      subst this
      rcases dom1 q ⟨b, o, c, hq, hc⟩ with hD | hD
      · exact .inl (hdom0 q hD)
      · exact .inr hD
    | false =>
      rw [hf, if_neg (by simp)] at hc
      obtain ⟨q, hq, _⟩ := hmu b o c hc
      have : q = p := by rw [hρ2 b q hq] at hb; exact Option.some.inj hb
      subst this
      exact .inl ⟨b, o, c, hq, hc⟩⟩
/-- A block that is lent; of some of its cells nothing is told. -/
theorem lent_ptr {Ln : Nat → Bool} {ρ : Nat → Option Nat} {mu : Mu} {S : Nat → Prop} {w : World} {b : Nat} {cs : List DV} {v : Value} (hmu : MuOk ρ S w mu) (hl : Ln b = true) (h0 : cs ≠ [])
    (hc : ∀ o c, cs[o]? = some c → ∃ c', mu b o = some c' ∧ c'.plain = true ∧ (c = .any ∨ c = c' ∧ flat1 c = true ∧ ∀ n ∈ nameOf c, Ln n = false)) (hv : Abs ρ S w (.adr b 0) v) : Abs (cutN Ln ρ) (lentS Ln ρ mu S) w (.ptr cs) v := by
  simp only [Abs] at hv ⊢
  obtain ⟨p, hp, rfl⟩ := hv
  have cell : ∀ o (ho : o < cs.length), ∃ u, w.cell? ⟨p, o, none⟩ = some u ∧ Abs (cutN Ln ρ) (lentS Ln ρ mu S) w cs[o] u := fun o ho => by
    obtain ⟨c', hm, hpl, hor⟩ := hc o _ (List.getElem?_eq_getElem ho)
    obtain ⟨q, hq, _, hL⟩ := hmu b o c' hm
    rw [hp] at hq; cases hq
    obtain ⟨_, u, hu, _⟩ := hL.cell hpl
    rcases hor with hany | ⟨he, hf, hn⟩
    · exact ⟨u, hu, by rw [hany]; simp only [Abs]⟩
    · rw [he] at hf hn ⊢
      have hL2 := flat_lies (ρ' := cutN Ln ρ) (S' := lentS Ln ρ mu S) hf (fun n hn' q hq => by unfold cutN; rw [hn n hn']; exact hq) hL
      obtain ⟨_, u, hu, ha⟩ := hL2.cell hpl
      exact ⟨u, hu, ha⟩
  refine ⟨p, 0, (List.finRange cs.length).map fun i => (cell i.1 i.2).choose, rfl, ?_, fun j u hu => ?_, .of_get (by simp) fun i c u hi hu => ?_⟩
  · obtain ⟨c, rest, rfl⟩ := List.exists_cons_of_ne_nil h0
    obtain ⟨c', hm, _⟩ := hc 0 c rfl
    exact .inr ⟨b, 0, c', hl, hp, hm⟩
  · rw [Nat.zero_add]
    rw [List.getElem?_map] at hu
    obtain ⟨i, hi, rfl⟩ := Option.map_eq_some_iff.1 hu
    have : i.1 = j := by
      obtain ⟨hj, he⟩ := List.getElem?_eq_some_iff.1 hi
      rw [← he]; simp
    subst this
    exact (cell i.1 i.2).choose_spec.1
  · rw [List.getElem?_map] at hu
    obtain ⟨k, hk, rfl⟩ := Option.map_eq_some_iff.1 hu
    have : k.1 = i := by
      obtain ⟨hj, he⟩ := List.getElem?_eq_some_iff.1 hk
      rw [← he]; simp
    subst this
    have hc' : cs[k.1] = c := by
      obtain ⟨_, he⟩ := List.getElem?_eq_some_iff.1 hi
      exact he
    rw [← hc']
    exact (cell k.1 k.2).choose_spec.2
end Go.Proofs.YtpckjfncecoibaaGreat.Fun
