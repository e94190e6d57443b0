/- The evaluator by itself, with functions of which it is told what they do. -/
import Derived.Test.YtpckjfncecoibaaGreatFunHide
namespace Go.Proofs.YtpckjfncecoibaaGreat.Fun
open Go
set_option linter.unusedSimpArgs false
set_option linter.unusedVariables false
abbrev Prims := FuncId → Option (List DV → Mem → Option (DV × Mem))
def PrimsOk (P : Program) (prims : Prims) : Prop := ∀ f g args mem d mem', prims f = some g → g args mem = some (d, mem') → CallOk P f args mem.mu d mem'.mu false (names mem mem') ∧ mem.size ≤ mem'.size
def deepP (T : TypeId → Option TI) (fns : Fns) (prims : Prims) (rounds : Nat) : Nat → Orc
  | 0 => fun _ _ _ _ => none
  | n + 1 => fun f args mem sc =>
    match (prims f).bind fun g => g args mem with
    | some r => some (r.1, r.2, false, true, [], sc)
    | none =>
      match fns f with
      | some (fn, nms) => runBodyA T (deepP T fns prims rounds n) rounds fn nms args mem sc
      | none => none
theorem deepP_ok {P : Program} {T : TypeId → Option TI} (hT : ∀ t ti, T t = some ti → tiOf P t = some ti) (hm : P.follows .mixedOrders = true) {fns : Fns} (hfns : FnsOk P fns) {prims : Prims} (hp : PrimsOk P prims) (rounds : Nat) : ∀ n, OrcOk P (deepP T fns prims rounds n)
  | 0 => fun f args mem sc d mem' dirty wrote obs sc' h _ => by simp [deepP] at h
  | n + 1 => fun f args mem sc d mem' dirty wrote obs sc' h hob => by
    simp only [deepP] at h
    split at h
    · rename_i r hr
      simp only [Option.bind_eq_some_iff] at hr
      obtain ⟨g, hg, hr⟩ := hr
      obtain ⟨d1, m1⟩ := r
      simp only [Option.some.injEq, Prod.mk.injEq] at h
      obtain ⟨rfl, rfl, rfl, rfl, rfl, rfl⟩ := h
      obtain ⟨c, hs⟩ := hp _ _ _ _ _ _ hg hr
      exact ⟨c, hs, fun h => by cases h⟩
    · split at h
      · rename_i fn nms hf
        obtain ⟨h1, h2⟩ := hfns f _ hf
        exact runBodyA_sound hT hm (deepP_ok hT hm hfns hp rounds n) h1 h2 h hob
      · cases h
/-- A call that makes one new block, and returns it. -/
theorem CallOk.ofNew {P : Program} {f : FuncId} {ds : List DV} {d : DV} {mu mu' : Mu} {n : Nat} (he : ∃ fn, P.funcs[f]? = some fn ∧ (fn.name == "runtime.NumGoroutine") = false ∧ fn.body.isNone = false)
    (h : ∀ ρ S w vs, Named ρ mu w → ρ n = none → (∀ b, S b → b < w.heap.size) → MuOk ρ S w mu → AbsL ρ S w ds vs → ∃ (obj : Obj) (v : Value), Calls P f vs.toArray w (fun e w' => e = .returned v ∧ w' = { w with heap := w.heap.push obj }) ∧
      (∀ b o, b ≠ n → mu' b o = mu b o ∨ mu' b o = none) ∧ (∀ o d, mu' n o = some d → Lies (fun m => if m = n then some w.heap.size else ρ m) S { w with heap := w.heap.push obj } w.heap.size o d) ∧ Abs (fun m => if m = n then some w.heap.size else ρ m) S { w with heap := w.heap.push obj } d v) :
    CallOk P f ds mu d mu' false [n] := ⟨he, fun ρ S w vs hnm hfr sane hmu hab => by
  have hn : ρ n = none := hfr n (by simp)
  obtain ⟨obj, v, hc, hkeep, hlies, hv⟩ := h ρ S w vs hnm hn sane hmu hab
  refine hc.mono ?_
  rintro e w' ⟨rfl, rfl⟩
  have mp : MonoPost (fun _ => none) ρ S mu w ⟨none, .move (.const undef), 0, "", #[], none⟩ d { mu := some mu', use := [n] } false v { w with heap := w.heap.push obj } (fun _ => none) (fun m => if m = n then some w.heap.size else ρ m) S := .ofNew hnm hmu sane hn (obj := obj) rfl rfl rfl rfl hkeep hlies hv
  refine ⟨v, S, _, rfl, ⟨mp.os, mp.tape, mp.output, mp.size, mp.old, mp.clean, fun _ h => h, fun _ h => .inl h⟩, mp.named, mp.grow, fun m b hm => ?_, mp.cells, mp.dom, hv⟩
  have hm' : (if m = n then some w.heap.size else ρ m) = some b := hm
  by_cases hmn : m = n
  · exact .inr (by simp [hmn])
  · rw [if_neg hmn] at hm'; exact .inl hm'⟩
/-- A call that changes nothing of what there was. -/
theorem CallOk.ofPure {P : Program} {f : FuncId} {ds : List DV} {d : DV} {mu : Mu} (he : ∃ fn, P.funcs[f]? = some fn ∧ (fn.name == "runtime.NumGoroutine") = false ∧ fn.body.isNone = false)
    (h : ∀ ρ S w vs, AbsL ρ S w ds vs → Calls P f vs.toArray w (fun e w' => ∃ v, e = .returned v ∧ (w' = w ∨ ∃ o, w' = { w with heap := w.heap.push o }) ∧ Abs ρ S w' d v)) : CallOk P f ds mu d mu false [] := ⟨he, fun ρ S w vs hnm hfr sane hmu hab => by
  refine (h ρ S w vs hab).mono ?_
  rintro e w' ⟨v, rfl, hw, hv⟩
  rcases hw with rfl | ⟨o, rfl⟩
  · exact ⟨v, S, ρ, rfl, ⟨rfl, rfl, rfl, Nat.le_refl _, fun _ _ _ _ => rfl, fun _ _ _ _ => rfl, fun _ h => h, fun _ h => .inl h⟩, hnm, .refl ρ _, fun _ _ h => .inl h, hmu, fun _ h => .inl h, hv⟩
  · have hold : ∀ b, b < w.heap.size → (w.heap.push o)[b]? = w.heap[b]? := fun b hb => by rw [Array.getElem?_push, if_neg (by omega)]
    have hE : Ext ρ w ρ { w with heap := w.heap.push o } := .same fun n b hn => hold b (hnm.lt n b hn)
    exact ⟨v, S, ρ, rfl, ⟨rfl, rfl, rfl, by simp, fun b hb _ _ => hold b hb, fun _ b hb _ => hold b hb, fun _ h => h, fun _ h => .inl h⟩, hnm.mono (by simp), hE, fun _ _ h => .inl h, hmu.mono hE (fun b hb => hold b (sane b hb)) (fun b hb => hold b (hmu.lt hb)) (fun _ h => h) (fun b hb => hmu.notS hb), fun _ h => .inl h, hv⟩⟩
end Go.Proofs.YtpckjfncecoibaaGreat.Fun
