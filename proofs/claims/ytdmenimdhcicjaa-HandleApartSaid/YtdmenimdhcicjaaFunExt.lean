/- From the printed contracts (a call in terms of numbers, slices of numbers) to the evaluator's. -/
import Derived.Test.YtdmenimdhcicjaaFunBody
import Derived.Test.YtdmenimdhcicjaaWWords
import Derived.Below
namespace Go.Proofs.Ytdmenimdhcicjaa.Fun
open Go Go.RowKit Go.Proofs.YtdmenimdhcicjaaW.PrintWords
set_option linter.unusedSimpArgs false
set_option linter.unusedVariables false

mutual
/-- The one value that reads so. -/
def flat : DV → Option Value
  | .int k n => some (.int k n)
  | .bool b => some (.bool b)
  | .str s => some (.string s)
  | .nilp => some (.pointer none)
  | .nilf => some .nilFunc
  | .nils => some (.slice none 0 0)
  | .agg cs => (flatL cs).map fun vs => .agg vs.toArray
  | .tup cs => (flatL cs).map fun vs => .tuple vs.toArray
  | _ => none
def flatL : List DV → Option (List Value)
  | [] => some []
  | d :: ds =>
    match flat d, flatL ds with
    | some v, some vs => some (v :: vs)
    | _, _ => none
end
mutual
theorem flat_iff {ρ : Nat → Option Nat} {S : Nat → Prop} {w : World} : ∀ (d : DV) {v : Value}, flat d = some v → ∀ u, Abs ρ S w d u ↔ u = v
  | .int k n, v, h, u => by simp only [flat, Option.some.injEq] at h; subst h; simp only [Abs]
  | .bool b, v, h, u => by simp only [flat, Option.some.injEq] at h; subst h; simp only [Abs]
  | .str b, v, h, u => by simp only [flat, Option.some.injEq] at h; subst h; simp only [Abs]
  | .nilp, v, h, u => by simp only [flat, Option.some.injEq] at h; subst h; simp only [Abs]
  | .nilf, v, h, u => by simp only [flat, Option.some.injEq] at h; subst h; simp only [Abs]
  | .nils, v, h, u => by simp only [flat, Option.some.injEq] at h; subst h; simp only [Abs]
  | .agg cs, v, h, u => by
    simp only [flat, Option.map_eq_some_iff] at h
    obtain ⟨vs, hvs, rfl⟩ := h
    simp only [Abs]
    constructor
    · rintro ⟨us, rfl, hu⟩; rw [(flatL_iff cs hvs us).1 hu]
    · rintro rfl; exact ⟨vs, rfl, (flatL_iff cs hvs vs).2 rfl⟩
  | .tup cs, v, h, u => by
    simp only [flat, Option.map_eq_some_iff] at h
    obtain ⟨vs, hvs, rfl⟩ := h
    simp only [Abs]
    constructor
    · rintro ⟨us, rfl, hu⟩; rw [(flatL_iff cs hvs us).1 hu]
    · rintro rfl; exact ⟨vs, rfl, (flatL_iff cs hvs vs).2 rfl⟩
  | .any, v, h, u => by simp [flat] at h
  | .ptr _, v, h, u => by simp [flat] at h
  | .func _ _, v, h, u => by simp [flat] at h
  | .slice _ _, v, h, u => by simp [flat] at h
  | .loc _ _, v, h, u => by simp [flat] at h
  | .adr _ _, v, h, u => by simp [flat] at h
  | .vec _ _ _ _, v, h, u => by simp [flat] at h
  | .spot, v, h, u => by simp [flat] at h
theorem flatL_iff {ρ : Nat → Option Nat} {S : Nat → Prop} {w : World} : ∀ (ds : List DV) {vs : List Value}, flatL ds = some vs → ∀ us, AbsL ρ S w ds us ↔ us = vs
  | [], vs, h, us => by simp only [flatL, Option.some.injEq] at h; subst h; simp only [AbsL]
  | d :: ds, vs, h, us => by
    simp only [flatL] at h
    split at h
    · rename_i v vs' hd hds
      cases h
      simp only [AbsL]
      constructor
      · rintro ⟨x, rest, rfl, hx, hr⟩; rw [(flat_iff d hd x).1 hx, (flatL_iff ds hds rest).1 hr]
      · rintro rfl; exact ⟨v, vs', rfl, (flat_iff d hd v).2 rfl, (flatL_iff ds hds vs').2 rfl⟩
    · cases h
end
section
variable {P : Program}
/-- What a function is. -/
def IsFn (P : Program) (f : FuncId) : Prop := ∃ fn, P.funcs[f]? = some fn ∧ (fn.name == "runtime.NumGoroutine") = false ∧ fn.body.isNone = false
/-- From a call that leaves all that was there. -/
theorem callOk_ext {f : FuncId} (hf : IsFn P f) {ds : List DV} {d : DV} {mu : Mu} {fresh : List Nat}
    (h : ∀ (ρ : Nat → Option Nat) (S : Nat → Prop) (w : World) (vs : List Value), (∀ b, S b → b < w.heap.size) → AbsL ρ S w ds vs → Calls P f vs.toArray w fun e w' => ∃ v S', e = .returned v ∧ Below w.heap.size w w' ∧
      (∀ b, S b → S' b) ∧ (∀ b, S' b → S b ∨ (w.heap.size ≤ b ∧ b < w'.heap.size)) ∧ Abs ρ S' w' d v) : CallOk P f ds mu d mu false fresh := by
  refine ⟨hf, fun ρ S w vs hn hfr sane hmu hab => (h ρ S w vs sane hab).mono ?_⟩
  rintro e w' ⟨v, S', rfl, hb, hup, hfrom, hv⟩
  have hE : Ext ρ w ρ w' := .same fun n b h => hb.block b (hn.lt n b h)
  refine ⟨v, S', ρ, rfl, ⟨hb.os, hb.tape, hb.output, hb.size, fun b hlt _ _ => hb.block b hlt, fun _ b hlt _ => hb.block b hlt, hup, hfrom⟩, hn.mono hb.size, hE, fun _ _ h => .inl h, ?_, fun b h => .inl h, hv⟩
  exact hmu.mono hE (fun b hS => hb.block b (sane b hS)) (fun b hD => hb.block b (hmu.lt hD)) hup (fun b hD hS => by
    rcases hfrom b hS with h | ⟨h, _⟩
    · exact hmu.notS hD h
    · have := hmu.lt hD; omega)
/-- Numbers in, numbers out. -/
theorem callOk_flat {f : FuncId} (hf : IsFn P f) {ds : List DV} {d : DV} {vs : List Value} {v : Value} {mu : Mu} {fresh : List Nat} (hds : flatL ds = some vs) (hd : flat d = some v)
    (h : ∀ w, Calls P f vs.toArray w fun e w' => e = .returned v ∧ Below w.heap.size w w') : CallOk P f ds mu d mu false fresh :=
  callOk_ext hf fun ρ S w us sane hab => by
    rw [(flatL_iff ds hds us).1 hab]
    refine (h w).mono ?_
    rintro e w' ⟨rfl, hb⟩
    exact ⟨v, S, rfl, hb, fun _ h => h, fun _ h => .inl h, (flat_iff d hd v).2 rfl⟩
/-- Numbers in, a slice of numbers out. -/
theorem callOk_slice {f : FuncId} (hf : IsFn P f) {ds : List DV} {vs : List Value} {mu : Mu} {fresh : List Nat} {k : IntKind} {e : Nat} {xs : List Int} (hds : flatL ds = some vs)
    (h : ∀ w, Calls P f vs.toArray w fun e' w' => ∃ v : Value, e' = .returned v ∧ Kd.R (Kd.int k) e w' w.heap.size (fun _ => True) v xs ∧ Below w.heap.size w w') :
    CallOk P f ds mu (.slice (xs.map (.int k)) xs.length) mu false fresh :=
  callOk_ext hf fun ρ S w us sane hab => by
    rw [(flatL_iff ds hds us).1 hab]
    refine (h w).mono ?_
    rintro e' w' ⟨v, rfl, ⟨_, inner, ho, hr⟩, hb⟩
    have hinner : inner = xs.map (Value.int k) := by
      have hl : inner.length = xs.length := by have := hr.1; simpa [Kd.int, Kd.scalar] using this
      apply List.ext_getElem?
      intro j
      rw [List.getElem?_map]
      cases hx : xs[j]? with
      | none => rw [List.getElem?_eq_none_iff] at hx; simpa [hl] using hx
      | some x =>
        have := hr.2 j x hx
        simp only [Kd.int, Kd.scalar, Nat.mul_one] at this
        have hj : j < inner.length := by rw [hl]; exact (List.getElem?_eq_some_iff.1 hx).1
        rw [List.getElem?_eq_getElem hj]
        have h2 : (inner.drop j).take 1 = [inner[j]] := by rw [List.drop_eq_getElem_cons hj]; rfl
        rw [h2] at this
        simpa using this
    subst hinner
    have hab2 : ∀ S', AbsL ρ S' w' (xs.map (DV.int k)) (xs.map (Value.int k)) := fun S' => .of_get (by simp) fun i d v hd hv => by
      rw [List.getElem?_map] at hd hv
      cases hx : xs[i]? with
      | none => rw [hx] at hd; cases hd
      | some x => rw [hx] at hd hv; cases hd; cases hv; simp only [Abs]
    obtain ⟨hlen, hor⟩ := ho
    rcases hor with ⟨rfl, h0⟩ | ⟨g, cap, cur, rfl, hg, hcur, hcap, _, _, htake⟩
    · exact ⟨_, S, rfl, hb, fun _ h => h, fun _ h => .inl h, by simp only [Abs]; exact ⟨none, 0, _, by rw [h0], by omega, hab2 S, .inl h0⟩⟩
    · refine ⟨_, fun b => S b ∨ b = g, rfl, hb, fun _ h => .inl h, fun b h => h.imp id (fun e => by subst e; exact ⟨hg, lt_of_block hcur⟩), ?_⟩
      simp only [Abs]
      refine ⟨some ⟨g, 0, none⟩, cap, _, rfl, hcap, hab2 _, .inr ⟨g, 0, rfl, .inr rfl, ?_⟩⟩
      intro j u hj
      rw [← htake] at hj
      have := (CellsAt.of_block hcur) j u (by
        rw [List.getElem?_take] at hj
        split at hj
        · exact hj
        · cases hj)
      simpa using this
/-- More names may be used. -/
theorem CallOk.more {f : FuncId} {ds : List DV} {mu mu' : Mu} {d : DV} {dirty : Bool} {fresh fresh' : List Nat} (h : CallOk P f ds mu d mu' dirty fresh) (hsub : ∀ n ∈ fresh, n ∈ fresh') : CallOk P f ds mu d mu' dirty fresh' :=
  ⟨h.enters, fun ρ S w vs hn hfr sane hmu hab => (h.runs ρ S w vs hn (fun n hm => hfr n (hsub n hm)) sane hmu hab).mono fun e w' ⟨v, S', ρ', h1, h2, h3, h4, h5, h6⟩ => ⟨v, S', ρ', h1, h2, h3, h4, fun n b hb => (h5 n b hb).imp id (hsub n), h6⟩⟩
/-- A call that is clean may be taken as dirty. -/
theorem CallOk.soil {f : FuncId} {ds : List DV} {mu mu' : Mu} {d : DV} {dirty : Bool} {fresh : List Nat} (h : CallOk P f ds mu d mu' dirty fresh) : CallOk P f ds mu d mu' true fresh :=
  ⟨h.enters, fun ρ S w vs hn hfr sane hmu hab => (h.runs ρ S w vs hn hfr sane hmu hab).mono fun e w' ⟨v, S', ρ', h1, h2, h3⟩ => ⟨v, S', ρ', h1, ⟨h2.os, h2.tape, h2.output, h2.size, h2.old, by simp, h2.up, h2.from_⟩, h3⟩⟩
end
end Go.Proofs.Ytdmenimdhcicjaa.Fun
