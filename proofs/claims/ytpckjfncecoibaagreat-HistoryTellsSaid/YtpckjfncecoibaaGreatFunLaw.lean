/- From the evaluator's word on a law's call to what its row asks: it returns true and leaves what was there. -/
import Derived.Test.YtpckjfncecoibaaGreatFunBody
import Derived.Below
namespace Go.Proofs.YtpckjfncecoibaaGreat.Fun
open Go Go.RowKit
/-- Nothing is known of others' cells. -/
def noMu : Mu := fun _ _ => none
theorem calls_of_ok {P : Program} {f : FuncId} {ds : List DV} {b : Bool} {mu' : Mu} {fresh : List Nat} (h : CallOk P f ds noMu (.bool b) mu' false fresh) {w : World} {vs : List Value}
    (hab : AbsL (fun _ => none) (fun b => b < w.heap.size) w ds vs) : Calls P f vs.toArray w fun e w' => e = .returned (.bool b) ∧ Below w.heap.size w w' := by
  refine (h.runs (fun _ => none) (fun b => b < w.heap.size) w vs ⟨fun _ _ _ _ _ h => (by cases h), fun _ _ h => (by cases h)⟩ (fun _ _ => rfl) (fun _ h => h) (fun _ _ _ h => (by cases h)) hab).mono ?_
  rintro e w' ⟨v, S', ρ', rfl, hp, _, _, _, _, _, hv⟩
  simp only [Abs] at hv
  subst hv
  refine ⟨rfl, hp.os, hp.tape, hp.output, hp.size, fun k hk => hp.clean rfl k hk ?_⟩
  rintro ⟨_, _, _, h, _⟩
  cases h
end Go.Proofs.YtpckjfncecoibaaGreat.Fun
