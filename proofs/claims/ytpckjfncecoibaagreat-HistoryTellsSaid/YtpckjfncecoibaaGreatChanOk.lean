/- Calls that put a thing into a channel's buffer, or take one out of it. -/
import Derived.Test.YtpckjfncecoibaaGreatFunPrim
namespace Go.Proofs.YtpckjfncecoibaaGreat.Fun
open Go
set_option linter.unusedSimpArgs false
set_option linter.unusedVariables false
theorem MonoPost.putChan {ι ρ : Nat → Option Nat} {S : Nat → Prop} {mu : Mu} {w : World} {o : Oper} {n p cap s r s' r' : Nat} {ds ds' : List DV} {buf buf' : Array Value} (hnm : Named ρ mu w) (hmu : MuOk ρ S w mu)
    (hp : ρ n = some p) (hm : mu n 0 = some (.boxd cap ds)) (hh : w.heap[p]? = some (.chan cap buf false s r false)) (hk : AbsL ρ S w ds' buf'.toList) :
    MonoPost ι ρ S mu w o .any { mu := some (updMu mu n 0 [.boxd cap ds']) } false undef { w with heap := w.heap.setIfInBounds p (.chan cap buf' false s' r' false) } ι ρ S := by
  have hlt := lt_of_block hh
  have hpD : Dom ρ mu p := ⟨n, 0, _, hp, hm⟩
  have hnS := hmu.notS hpD
  have hold : ∀ b, b ≠ p → (w.heap.setIfInBounds p (.chan cap buf' false s' r' false))[b]? = w.heap[b]? := fun b hb => by rw [Array.getElem?_setIfInBounds_ne (Ne.symm hb)]
  have hnew : (w.heap.setIfInBounds p (.chan cap buf' false s' r' false))[p]? = some (.chan cap buf' false s' r' false) := by simp [hlt]
  have hE : Ext ρ w ρ { w with heap := w.heap.setIfInBounds p (.chan cap buf' false s' r' false) } := fun m b hb => ⟨hb, fun us e fz hu => by
    by_cases hbp : b = p
    · subst hbp; rw [hh] at hu; cases hu
    · exact ⟨us, by show (w.heap.setIfInBounds p _)[b]? = _; rw [hold b hbp]; exact hu, rfl⟩⟩
  have hkS : ∀ b, S b → (w.heap.setIfInBounds p (.chan cap buf' false s' r' false))[b]? = w.heap[b]? := fun b hb => hold b (by rintro rfl; exact hnS hb)
  have hupd : ∀ k o, updMu mu n 0 [.boxd cap ds'] k o = if k = n ∧ o = 0 then some (.boxd cap ds') else mu k o := fun k o => by
    simp only [updMu]
  have hdom : ∀ b, Dom ρ (updMu mu n 0 [.boxd cap ds']) b → Dom ρ mu b := by
    rintro b ⟨k, o, d, hb, hd⟩
    rw [hupd] at hd
    split at hd
    · rename_i hc; rw [hc.1, hp] at hb; cases hb; exact hpD
    · exact ⟨k, o, d, hb, hd⟩
  have hsome : ∀ k o, (updMu mu n 0 [.boxd cap ds'] k o).isSome = true → ∃ o', (mu k o').isSome = true := fun k o h => by
    rw [hupd] at h
    split at h
    · rename_i hc; rw [hc.1]; exact ⟨0, by rw [hm]; rfl⟩
    · exact ⟨o, h⟩
  refine ⟨rfl, rfl, rfl, by simp, fun b _ _ hD => hold b (by rintro rfl; exact hD hpD), fun _ b _ hD => hold b (by rintro rfl; exact hD hpD), fun _ h => h, fun _ h => .inl h, by simp only [TAbs, Abs], fun k o d hd => ?_, fun b hb => .inl (hdom b hb), fun _ => rfl, fun _ h => by simp at h, ⟨fun a b c o o' ha hb h1 h2 => ?_, fun m b hm => ?_⟩, hE, fun _ _ h => .inl h, fun _ h => by simp at h⟩
  · replace hd : updMu mu n 0 [.boxd cap ds'] k o = some d := hd
    rw [hupd] at hd
    split at hd
    · rename_i hc
      obtain ⟨rfl, rfl⟩ := hc
      cases hd
      exact ⟨p, hp, hnS, rfl, buf', s', r', hnew, AbsL.mono hE hkS (fun _ h => h) _ _ hk⟩
    · rename_i hc
      obtain ⟨q, hq, h1, h2⟩ := hmu k o d hd
      refine ⟨q, hq, h1, ?_⟩
      by_cases hqp : q = p
      · subst hqp
        have hkn : k = n := hnm.inj k n q o 0 hq hp (by rw [hd]; rfl) (by rw [hm]; rfl)
        subst hkn
        have ho : o ≠ 0 := fun h => hc ⟨rfl, h⟩
        cases d
        case ents => exact absurd h2.1 ho
        case boxd => exact absurd h2.1 ho
        all_goals
          obtain ⟨_, v, hv', _⟩ := h2
          obtain ⟨_, _, _, hb⟩ := block_of_cell hv'
          rw [hh] at hb; cases hb
      · exact h2.mono hE hkS (fun _ h => h) (hold q hqp)
  · obtain ⟨o1, h1⟩ := hsome a o h1
    obtain ⟨o2, h2⟩ := hsome b o' h2
    exact hnm.inj a b c o1 o2 ha hb h1 h2
  · simp only [Array.size_setIfInBounds]; exact hnm.lt m b hm
/-- A call that changes a channel's buffer alone. -/
theorem CallOk.ofChan {P : Program} {f : FuncId} {args : List DV} {d : DV} {mu : Mu} {n cap : Nat} {ds ds' : List DV} (he : ∃ fn, P.funcs[f]? = some fn ∧ (fn.name == "runtime.NumGoroutine") = false ∧ fn.body.isNone = false) (hm : mu n 0 = some (.boxd cap ds)) (hd : d.plain = true)
    (h : ∀ ρ S w vs, MuOk ρ S w mu → AbsL ρ S w args vs → ∀ p buf s r, ρ n = some p → w.heap[p]? = some (.chan cap buf false s r false) → AbsL ρ S w ds buf.toList →
      ∃ v buf' s' r', Calls P f vs.toArray w (fun e w' => e = .returned v ∧ w' = { w with heap := w.heap.setIfInBounds p (.chan cap buf' false s' r' false) }) ∧ AbsL ρ S w ds' buf'.toList ∧ Abs ρ S w d v) :
    CallOk P f args mu d (updMu mu n 0 [.boxd cap ds']) false [] := ⟨he, fun ρ S w vs hnm hfr sane hmu hab => by
  obtain ⟨p, hp, hnS, h0, buf, s, r, hh, hab0⟩ := hmu n 0 _ hm
  obtain ⟨v, buf', s', r', hc, hk, hv⟩ := h ρ S w vs hmu hab p buf s r hp hh hab0
  refine hc.mono ?_
  rintro e w' ⟨rfl, rfl⟩
  have mp : MonoPost (fun _ => none) ρ S mu w ⟨none, .move (.const undef), 0, "", #[], none⟩ .any { mu := some (updMu mu n 0 [.boxd cap ds']) } false undef { w with heap := w.heap.setIfInBounds p (.chan cap buf' false s' r' false) } (fun _ => none) ρ S := .putChan hnm hmu hp hm hh hk
  have hold : ∀ b, S b → (w.heap.setIfInBounds p (.chan cap buf' false s' r' false))[b]? = w.heap[b]? := fun b hb => by rw [Array.getElem?_setIfInBounds_ne (by rintro rfl; exact hnS hb)]
  exact ⟨v, S, ρ, rfl, ⟨mp.os, mp.tape, mp.output, mp.size, mp.old, mp.clean, fun _ h => h, fun _ h => .inl h⟩, mp.named, mp.grow, fun m b h => .inl h, mp.cells, mp.dom, Abs.mono mp.grow hold (fun _ h => h) _ _ hv⟩⟩
/-- What a call that puts a thing makes of the rows; full: what it says of a full box. -/
def putA : List DV → Mem → Option (DV × Mem)
  | [.adr b 0, x], .rows h =>
    match h[b]? with
    | some [.cref c] =>
      match h[c]? with
      | some [.boxd cap ds] => if ds.length < cap then some (.int .i64 0, .rows (h.set c [.boxd cap (ds ++ [x])])) else some (.int .i64 8, .rows h)
      | _ => none
    | _ => none
  | _, _ => none
def takeA (z : DV) : List DV → Mem → Option (DV × Mem)
  | [.adr b 0], .rows h =>
    match h[b]? with
    | some [.cref c] =>
      match h[c]? with
      | some [.boxd cap (d :: ds)] => some (.tup [d, .bool true], .rows (h.set c [.boxd cap ds]))
      | some [.boxd _ []] => some (.tup [z, .bool false], .rows h)
      | _ => none
    | _ => none
  | _, _ => none
/-- What is asked of a function that puts things into boxes. -/
structure PutOk (P : Program) (f : FuncId) (good : DV → Bool) : Prop where
  room : ∀ {b c cap : Nat} {ds : List DV} {x : DV} {m : Mu}, good x = true → m b 0 = some (.cref c) → m c 0 = some (.boxd cap ds) → ds.length < cap → CallOk P f [.adr b 0, x] m (.int .i64 0) (updMu m c 0 [.boxd cap (ds ++ [x])]) false []
  full : ∀ {b c cap : Nat} {ds : List DV} {x : DV} {m : Mu}, good x = true → m b 0 = some (.cref c) → m c 0 = some (.boxd cap ds) → ¬ ds.length < cap → CallOk P f [.adr b 0, x] m (.int .i64 8) m false []
structure TakeOk (P : Program) (f : FuncId) (z : DV) : Prop where
  one : ∀ {b c cap : Nat} {d : DV} {ds : List DV} {m : Mu}, m b 0 = some (.cref c) → m c 0 = some (.boxd cap (d :: ds)) → CallOk P f [.adr b 0] m (.tup [d, .bool true]) (updMu m c 0 [.boxd cap ds]) false []
  non : ∀ {b c cap : Nat} {m : Mu}, m b 0 = some (.cref c) → m c 0 = some (.boxd cap []) → CallOk P f [.adr b 0] m (.tup [z, .bool false]) m false []
theorem rows_set1 {h : List (List DV)} {c : Nat} {d : DV} (d' : DV) (hc : h[c]? = some [d]) : rowsMu (h.set c [d']) = updMu (rowsMu h) c 0 [d'] :=
  rowsMu_store (row := [d]) (off := 0) (cs := [d']) hc (.inr (by simp))
theorem putA_ok {P : Program} {f : FuncId} {good : DV → Bool} (hf : PutOk P f good) (args : List DV) (mem : Mem) (d : DV) (mem' : Mem) (hg : ∀ b x, args = [.adr b 0, x] → good x = true) (h : putA args mem = some (d, mem')) : CallOk P f args mem.mu d mem'.mu false (names mem mem') ∧ mem.size ≤ mem'.size := by
  unfold putA at h
  split at h
  · rename_i b x rows
    split at h
    · rename_i c hb
      split at h
      · rename_i cap ds hc
        have h1 : rowsMu rows b 0 = some (.cref c) := by simp [rowsMu, hb]
        have h2 : rowsMu rows c 0 = some (.boxd cap ds) := by simp [rowsMu, hc]
        split at h
        · rename_i hl
          cases h
          refine ⟨?_, by simp [Mem.size]⟩
          rw [show names (.rows rows) (.rows (rows.set c [.boxd cap (ds ++ [x])])) = [] by simp [names, Mem.size]]
          show CallOk P f _ (rowsMu rows) _ (rowsMu (rows.set c [.boxd cap (ds ++ [x])])) false []
          rw [rows_set1 _ hc]
          exact hf.room (hg b x rfl) h1 h2 hl
        · rename_i hl
          cases h
          refine ⟨?_, Nat.le_refl _⟩
          rw [show names (.rows rows) (.rows rows) = [] by simp [names]]
          exact hf.full (hg b x rfl) h1 h2 hl
      · cases h
    · cases h
  · cases h
theorem takeA_ok {P : Program} {f : FuncId} {z : DV} (hf : TakeOk P f z) (args : List DV) (mem : Mem) (d : DV) (mem' : Mem) (h : takeA z args mem = some (d, mem')) : CallOk P f args mem.mu d mem'.mu false (names mem mem') ∧ mem.size ≤ mem'.size := by
  unfold takeA at h
  split at h
  · rename_i b rows
    split at h
    · rename_i c hb
      have h1 : rowsMu rows b 0 = some (.cref c) := by simp [rowsMu, hb]
      split at h
      · rename_i cap d0 ds hc
        have h2 : rowsMu rows c 0 = some (.boxd cap (d0 :: ds)) := by simp [rowsMu, hc]
        cases h
        refine ⟨?_, by simp [Mem.size]⟩
        rw [show names (.rows rows) (.rows (rows.set c [.boxd cap ds])) = [] by simp [names, Mem.size]]
        show CallOk P f _ (rowsMu rows) _ (rowsMu (rows.set c [.boxd cap ds])) false []
        rw [rows_set1 _ hc]
        exact hf.one h1 h2
      · rename_i cap hc
        have h2 : rowsMu rows c 0 = some (.boxd cap []) := by simp [rowsMu, hc]
        cases h
        refine ⟨?_, Nat.le_refl _⟩
        rw [show names (.rows rows) (.rows rows) = [] by simp [names]]
        exact hf.non h1 h2
      · cases h
    · cases h
  · cases h
end Go.Proofs.YtpckjfncecoibaaGreat.Fun
