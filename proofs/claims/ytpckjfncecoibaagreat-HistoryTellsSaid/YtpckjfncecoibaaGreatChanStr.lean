/- Boxes of strings: what is put into them, and taken out of them. -/
import Derived.Test.YtpckjfncecoibaaGreatChanOk
import Derived.Test.YtpckjfncecoibaaGreatChanPut
namespace Go.Proofs.YtpckjfncecoibaaGreat.Fun
open Go
set_option linter.unusedSimpArgs false
set_option linter.unusedVariables false
/-- A box's cell, in the world. -/
theorem box_cell {ρ : Nat → Option Nat} {S : Nat → Prop} {w : World} {m : Mu} {b c p : Nat} (hmu : MuOk ρ S w m) (h1 : m b 0 = some (.cref c)) (hp : ρ c = some p) : ∃ q, ρ b = some q ∧ w.cell? ⟨q, 0, none⟩ = some (.chan (some p)) := by
  obtain ⟨q, hq, _, _, v, hv, ha⟩ := hmu b 0 _ h1
  simp only [Abs] at ha
  obtain ⟨p', hp', rfl⟩ := ha
  rw [hp] at hp'; cases hp'
  exact ⟨q, hq, hv⟩
def isStr : DV → Bool
  | .str _ => true
  | _ => false
theorem putS : PutOk Tryz.prog 208 isStr where
  room {b c cap ds x m} hx h1 h2 hl := by
    cases x <;> simp only [isStr] at hx <;> first | (cases hx; done) | skip
    rename_i s
    refine .ofChan ⟨Tryz.f208, Tryz.func208, by kernel_rfl, by kernel_rfl⟩ h2 rfl fun ρ S w vs hmu hab p buf sq rq hp hh hds => ?_
    obtain ⟨v0, r0, rfl, hv0, hr0⟩ := hab.cons_inv
    obtain ⟨v1, r1, rfl, hv1, hr1⟩ := hr0.cons_inv
    cases hr1.nil_inv
    simp only [Abs] at hv0 hv1
    obtain ⟨q, hq, rfl⟩ := hv0
    subst hv1
    obtain ⟨q', hq', hc⟩ := box_cell hmu h1 hp
    rw [hq] at hq'; cases hq'
    have hlen := hds.length
    refine ⟨.int .i64 0, buf.push (.string s), sq + 1, rq, put_room w q 0 p cap sq rq buf s hc hh (by rw [← Array.length_toList]; omega), ?_, by simp only [Abs]⟩
    rw [Array.toList_push]
    exact hds.append (.cons (by simp only [Abs]) .nil)
  full {b c cap ds x m} hx h1 h2 hl := by
    cases x <;> simp only [isStr] at hx <;> first | (cases hx; done) | skip
    rename_i s
    refine ⟨⟨Tryz.f208, Tryz.func208, by kernel_rfl, by kernel_rfl⟩, fun ρ S w vs hnm hfr sane hmu hab => ?_⟩
    obtain ⟨v0, r0, rfl, hv0, hr0⟩ := hab.cons_inv
    obtain ⟨v1, r1, rfl, hv1, hr1⟩ := hr0.cons_inv
    cases hr1.nil_inv
    simp only [Abs] at hv0 hv1
    obtain ⟨q, hq, rfl⟩ := hv0
    subst hv1
    obtain ⟨p, hp, _, _, buf, sq, rq, hh, hds⟩ := hmu c 0 _ h2
    obtain ⟨q', hq', hc⟩ := box_cell hmu h1 hp
    rw [hq] at hq'; cases hq'
    have hlen := hds.length
    refine (put_full w q 0 p cap sq rq buf s hc hh (by rw [← Array.length_toList]; omega)).mono ?_
    rintro e w' ⟨rfl, rfl⟩
    exact ⟨_, S, ρ, rfl, ⟨rfl, rfl, rfl, Nat.le_refl _, fun _ _ _ _ => rfl, fun _ _ _ _ => rfl, fun _ h => h, fun _ h => .inl h⟩, hnm, .refl ρ _, fun _ _ h => .inl h, hmu, fun _ h => .inl h, by simp only [Abs]⟩
theorem takeS : TakeOk Tryz.prog 212 (.str ⟨#[]⟩) where
  one {b c cap d ds m} h1 h2 := by
    refine .ofChan ⟨Tryz.f212, Tryz.func212, by kernel_rfl, by kernel_rfl⟩ h2 rfl fun ρ S w vs hmu hab p buf sq rq hp hh hds => ?_
    obtain ⟨v0, r0, rfl, hv0, hr0⟩ := hab.cons_inv
    cases hr0.nil_inv
    simp only [Abs] at hv0
    obtain ⟨q, hq, rfl⟩ := hv0
    obtain ⟨q', hq', hc⟩ := box_cell hmu h1 hp
    rw [hq] at hq'; cases hq'
    have hlen := hds.length
    obtain ⟨v, rest, he, hv, hrest⟩ := hds.cons_inv
    have hsz : 0 < buf.size := by rw [← Array.length_toList, hlen]; simp
    have hx : buf.getD 0 undef = v := by
      have : buf.toList[0]? = some v := by rw [he]; rfl
      rw [Array.getElem?_toList] at this
      simp [Array.getD_eq_getD_getElem?, this]
    refine ⟨.tuple #[v, .bool true], buf.extract 1 buf.size, sq, rq + 1, take_some w q 0 p cap sq rq buf v hc hh hsz hx, ?_, ?_⟩
    · have : (buf.extract 1 buf.size).toList = rest := by
        rw [Array.toList_extract, he]
        simp
        rw [← Array.length_toList, he]; simp
      rw [this]; exact hrest
    · simp only [Abs]
      exact ⟨[v, .bool true], rfl, .cons hv (.cons (by simp only [Abs]) .nil)⟩
  non {b c cap m} h1 h2 := by
    refine ⟨⟨Tryz.f212, Tryz.func212, by kernel_rfl, by kernel_rfl⟩, fun ρ S w vs hnm hfr sane hmu hab => ?_⟩
    obtain ⟨v0, r0, rfl, hv0, hr0⟩ := hab.cons_inv
    cases hr0.nil_inv
    simp only [Abs] at hv0
    obtain ⟨q, hq, rfl⟩ := hv0
    obtain ⟨p, hp, _, _, buf, sq, rq, hh, hds⟩ := hmu c 0 _ h2
    obtain ⟨q', hq', hc⟩ := box_cell hmu h1 hp
    rw [hq] at hq'; cases hq'
    have hb : buf = #[] := by
      have := hds.nil_inv
      exact Array.toList_eq_nil_iff.1 this
    subst hb
    refine (take_none w q 0 p cap sq rq hc hh).mono ?_
    rintro e w' ⟨rfl, rfl⟩
    exact ⟨_, S, ρ, rfl, ⟨rfl, rfl, rfl, Nat.le_refl _, fun _ _ _ _ => rfl, fun _ _ _ _ => rfl, fun _ h => h, fun _ h => .inl h⟩, hnm, .refl ρ _, fun _ _ h => .inl h, hmu, fun _ h => .inl h, by simp only [Abs]; exact ⟨[.string ⟨#[]⟩, .bool false], rfl, .cons (by simp only [Abs]) (.cons (by simp only [Abs]) .nil)⟩⟩
end Go.Proofs.YtpckjfncecoibaaGreat.Fun
