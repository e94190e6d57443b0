/- An array of whole numbers by value, opened to its cells. -/
import Derived.ProofKit
import Derived.OpenShut
import Derived.Lib.SmallJoins
namespace Go.Proofs.Ytdmenimdhcicjaa.LawArr
open Go Go.RowKit Go.ChangeShapes Go.WideShapes Go.Deep
theorem okWide_array {P : Program} {w : World} {r : Reach} {base : Nat} {t e : TypeId} {n : Nat} {v : Value} (ht : P.underlying t = some (.array n e)) (h : Value.okWide P w r base t v) : ∃ cs, v = .agg cs ∧ cs.size = P.cellsOf t := by
  simp only [Value.okWide, ht] at h
  obtain ⟨cs, h1, h2, _⟩ := h
  exact ⟨cs, h1, h2⟩
theorem open_arr {H : Type} {enc : TypeId × Value → H} {P : Program} {w : World} {base : Nat} {spare : Nat → Bool} {held : Bool} {r : Reach} {b0 : Nat} {t e : TypeId} {n : Nat} {k : IntKind} {v : Value} {d : DataW H} {p : List MemPlace}
    (hs : P.underlying t = some (.array n e)) (he : P.underlying e = some (.int k)) (hce : P.cellsOf e = 1) (hct : P.cellsOf t = n) (hv : Value.okWide P w r b0 t v) (h : DataW.Trod enc P w base spare held t v d p) :
    ∃ zs : List Int, v = .agg ⟨zs.map (Value.int k)⟩ ∧ zs.length = n ∧ ∀ z ∈ zs, (Lit.int k z).wf = true := by
  obtain ⟨⟨cs⟩, rfl, hsz⟩ := okWide_array hs hv
  obtain ⟨fuel, hf⟩ := h
  obtain ⟨xs, m, _, _, hl, hlen, hg⟩ := DataW.trod_array hs hf
  have hl : cs.length = n := by simpa [hct] using hsz
  have key : ∀ (cs : List Value), (∀ (i : Nat) (v : Value), cs[i]? = some v → ∃ z, v = Value.int k z ∧ (Lit.int k z).wf = true) → ∃ zs : List Int, cs = zs.map (Value.int k) ∧ ∀ z ∈ zs, (Lit.int k z).wf = true := by
    intro cs
    induction cs with
    | nil => intro _; exact ⟨[], rfl, by simp⟩
    | cons c cs ih =>
      intro h
      obtain ⟨z, rfl, hz⟩ := h 0 c rfl
      obtain ⟨zs, rfl, hzs⟩ := ih fun i v hi => h (i + 1) v (by simpa using hi)
      exact ⟨z :: zs, rfl, fun y hy => by rcases List.mem_cons.1 hy with rfl | hy; exact hz; exact hzs y hy⟩
  obtain ⟨zs, rfl, hz⟩ := key cs (fun i v hi => by
    have hlt := (List.getElem?_eq_some_iff.1 hi).1
    have := hg i (by omega)
    rw [hce, Nat.mul_one, show (Value.agg ⟨cs⟩).cells.toList = cs from rfl] at this
    have e1 : (cs.drop i).take 1 = [v] := by
      obtain ⟨hjl, rfl⟩ := List.getElem?_eq_some_iff.1 hi
      rw [List.drop_eq_getElem_cons hjl]
      rfl
    rw [e1] at this
    have hx : xs[i]? = some xs[i] := List.getElem?_eq_getElem (by omega)
    rw [hx] at this
    obtain ⟨a, ea, _, wa⟩ := DataW.trod_int he this
    simp at ea
    exact ⟨a, ea, wa⟩)
  exact ⟨zs, rfl, by simpa using hl, hz⟩
end Go.Proofs.Ytdmenimdhcicjaa.LawArr
