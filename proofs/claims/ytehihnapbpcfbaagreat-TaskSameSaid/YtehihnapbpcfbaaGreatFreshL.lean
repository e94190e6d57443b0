/- free.Fresh, as a tree. -/
import Derived.Test.YtehihnapbpcfbaaGreatFreshW
import Derived.Test.YtehihnapbpcfbaaGreatNoCut
namespace Go.Proofs.YtehihnapbpcfbaaGreat.Fun
open Go
set_option linter.unusedVariables false
section
variable (p : Pl)
def freshL : Nat → Int → LP Non
  | 0, _ => .cut
  | n + 1, k => cond (k == p.qNodes) (.acc 1 (headG p) 1 0 fun _ => .done ⟨⟩) (.acc 1 (nextG p k) (cond (w6 (k + 1) == p.qNodes) 0 (wu (w6 (w6 (k + 1) + 1)))) 0 fun _ => freshL n (w6 (k + 1)))
theorem den_freshk : ∀ n k, DenC kN (freshL p n k) n_free_fresh [.agg p.cs, I k] []
  | 0, k => by
    cases e : (k == p.qNodes)
    · cases e1 : (w6 (k + 1) == p.qNodes)
      · exact .cutS fun _ => w_free_fresh_1 e e1
      · exact .cutS fun _ => w_free_fresh_2 e e1
    · exact .cutS fun _ => w_free_fresh_3 e
  | n + 1, k => .ite (fun e => .acc (fun _ => w_free_fresh_3 e) fun _ => stN (.done fun _ => w_prog_Set_c1_1)) fun e => by
    cases e1 : (w6 (k + 1) == p.qNodes)
    · exact .acc (fun _ => w_free_fresh_1 e e1) fun _ => stN ((den_freshk n _).pass fun _ => w_free_fresh_c1_1)
    · exact .acc (fun _ => w_free_fresh_2 e e1) fun _ => stN ((den_freshk n _).pass fun _ => w_free_fresh_c1_1)
theorem den_fresh (n : Nat) : DenC kN (freshL p n 0) n_free_Fresh [.agg p.cs] [] := (den_freshk p n 0).pass fun _ => w_free_Fresh_1
theorem nc_fresh : ∀ {n k : Nat} {i : Int}, k + 1 ≤ n → NC k (freshL p n i)
  | 0, _, _, h => by omega
  | n + 1, k, i, h => .ite (fun _ => .acc fun _ _ => .done) fun _ => .acc fun _ _ => nc_fresh (by omega)
end
end Go.Proofs.YtehihnapbpcfbaaGreat.Fun
