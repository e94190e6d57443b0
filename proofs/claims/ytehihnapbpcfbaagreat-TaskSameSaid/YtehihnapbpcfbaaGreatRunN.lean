/- Run of a program with fuel enough isn't cut. -/
import Derived.Test.YtehihnapbpcfbaaGreatRunI
import Derived.Test.YtehihnapbpcfbaaGreatNoCut
namespace Go.Proofs.YtehihnapbpcfbaaGreat.Fun
open Go
set_option linter.unusedVariables false
theorem NC.run {R : Type} (rn : Nat) : ∀ {k : Nat} {t : LP R} {w : Nat → Int}, NC k t → (LP.run rn k t w).1.isCut = false
  | 0, .done _, _, _ => rfl
  | 0, .acc _ _ _ _ _, _, _ => rfl
  | 0, .cut, _, h => h.elim
  | k + 1, .done _, _, _ => rfl
  | k + 1, .cut, _, h => h.elim
  | k + 1, .acc op a x y f, w, h => by
    simp only [LP.run]
    cases accW rn w op a x y with
    | none => rfl
    | some vw => exact NC.run rn (h vw.1)
end Go.Proofs.YtehihnapbpcfbaaGreat.Fun
