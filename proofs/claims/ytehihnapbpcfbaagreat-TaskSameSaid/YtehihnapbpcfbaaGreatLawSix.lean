/- A struct of six one-cell fields by value, opened to its cells. -/
import Derived.ProofKit
import Derived.Lib.SmallJoins
namespace Go.Proofs.YtehihnapbpcfbaaGreat.LawSix
open Go Go.RowKit Go.ChangeShapes Go.WideShapes Go.Deep
/-- A struct of one-cell fields by value, whatever their number: its cells and each one's reading. -/
theorem open_fields {H : Type} {enc : TypeId × Value → H} {P : Program} {w : World} {base : Nat} {spare : Nat → Bool} {held : Bool} {r : Reach} {b0 : Nat} {t : TypeId} {fs : Array Field} {v : Value} {d : DataW H} {p : List MemPlace}
    (hs : P.underlying t = some (.struct fs)) (hone : Go.Deep.oneCellFields P fs = true) (hC : P.cellsOf t = fs.size) (hv : Value.okWide P w r b0 t v) (h : DataW.Trod enc P w base spare held t v d p) :
    ∃ (cs : List Value) (ys : List (DataW H × List MemPlace)) (n : Nat), v = .agg ⟨cs⟩ ∧ d = .agg (ys.map (·.1)) ∧ p = ys.flatMap (·.2) ∧ cs.length = fs.size ∧ ys.length = fs.size ∧
      ∀ (j : Nat) (f : Field) (c : Value), fs[j]? = some f → cs[j]? = some c → DataW.trod enc P w base spare held n f.type [c] = ys[j]? := by
  obtain ⟨⟨cs⟩, rfl, hsz⟩ := Go.WideShapes.okWide_struct hs hv
  obtain ⟨fuel, hf⟩ := h
  obtain ⟨ys, n, _, hx, _, hlen, hg⟩ := DataW.trod_struct hs hf
  simp only [Prod.mk.injEq] at hx
  have hl : cs.length = fs.size := hsz.trans hC
  refine ⟨cs, ys, n, rfl, hx.1, hx.2, hl, hlen, fun j f c hj hc => ?_⟩
  obtain ⟨ho, hk⟩ := Go.Deep.hone_of hone j f hj
  have e : (cs.drop j).take 1 = [c] := by
    obtain ⟨hjl, rfl⟩ := List.getElem?_eq_some_iff.1 hc
    rw [List.drop_eq_getElem_cons hjl]
    rfl
  have := hg j f hj
  rwa [ho, hk, show (Value.agg ⟨cs⟩).cells.toList = cs from rfl, e] at this
theorem open_six {H : Type} {enc : TypeId × Value → H} {P : Program} {w : World} {base : Nat} {spare : Nat → Bool} {held : Bool} {r : Reach} {b0 : Nat} {t : TypeId} {f0 f1 f2 f3 f4 f5 : Field} {v : Value} {d : DataW H} {p : List MemPlace}
    (hs : P.underlying t = some (.struct #[f0, f1, f2, f3, f4, f5])) (hone : Go.Deep.oneCellFields P #[f0, f1, f2, f3, f4, f5] = true) (hC : P.cellsOf t = 6) (hv : Value.okWide P w r b0 t v) (h : DataW.Trod enc P w base spare held t v d p) :
    ∃ (c0 c1 c2 c3 c4 c5 : Value) (y0 y1 y2 y3 y4 y5 : DataW H × List MemPlace) (n : Nat), v = .agg #[c0, c1, c2, c3, c4, c5] ∧ d = .agg [y0.1, y1.1, y2.1, y3.1, y4.1, y5.1] ∧ p = y0.2 ++ (y1.2 ++ (y2.2 ++ (y3.2 ++ (y4.2 ++ y5.2)))) ∧
      DataW.trod enc P w base spare held n f0.type [c0] = some y0 ∧ DataW.trod enc P w base spare held n f1.type [c1] = some y1 ∧ DataW.trod enc P w base spare held n f2.type [c2] = some y2 ∧
      DataW.trod enc P w base spare held n f3.type [c3] = some y3 ∧ DataW.trod enc P w base spare held n f4.type [c4] = some y4 ∧ DataW.trod enc P w base spare held n f5.type [c5] = some y5 := by
  obtain ⟨cs, ys, n, rfl, rfl, rfl, hl, hy, hg⟩ := open_fields hs hone hC hv h
  match cs, ys, hl, hy with
  | [c0, c1, c2, c3, c4, c5], [y0, y1, y2, y3, y4, y5], _, _ => exact ⟨c0, c1, c2, c3, c4, c5, y0, y1, y2, y3, y4, y5, n, rfl, rfl, by simp, hg 0 _ _ rfl rfl, hg 1 _ _ rfl rfl, hg 2 _ _ rfl rfl, hg 3 _ _ rfl rfl, hg 4 _ _ rfl rfl, hg 5 _ _ rfl rfl⟩
/-- The like at a row's element. -/
theorem trod_fields {H : Type} {enc : TypeId × Value → H} {P : Program} {w : World} {base : Nat} {spare : Nat → Bool} {held : Bool} {t : TypeId} {fs : Array Field} {fuel : Nat} {cs : List Value} {x : DataW H × List MemPlace}
    (hs : P.underlying t = some (.struct fs)) (hone : Go.Deep.oneCellFields P fs = true) (_hl : cs.length = fs.size) (h : DataW.trod enc P w base spare held fuel t cs = some x) :
    ∃ (ys : List (DataW H × List MemPlace)) (n : Nat), ys.length = fs.size ∧ ∀ (j : Nat) (f : Field) (c : Value), fs[j]? = some f → cs[j]? = some c → DataW.trod enc P w base spare held n f.type [c] = ys[j]? := by
  obtain ⟨ys, n, _, hx, _, hlen, hg⟩ := DataW.trod_struct hs h
  refine ⟨ys, n, hlen, fun j f c hj hc => ?_⟩
  obtain ⟨ho, hk⟩ := Go.Deep.hone_of hone j f hj
  have e : (cs.drop j).take 1 = [c] := by
    obtain ⟨hjl, rfl⟩ := List.getElem?_eq_some_iff.1 hc
    rw [List.drop_eq_getElem_cons hjl]
    rfl
  have := hg j f hj
  rwa [ho, hk, e] at this
theorem trod_six {H : Type} {enc : TypeId × Value → H} {P : Program} {w : World} {base : Nat} {spare : Nat → Bool} {held : Bool} {t : TypeId} {f0 f1 f2 f3 f4 f5 : Field} {fuel : Nat} {cs : List Value} {x : DataW H × List MemPlace}
    (hs : P.underlying t = some (.struct #[f0, f1, f2, f3, f4, f5])) (hone : Go.Deep.oneCellFields P #[f0, f1, f2, f3, f4, f5] = true) (hl : cs.length = 6) (h : DataW.trod enc P w base spare held fuel t cs = some x) :
    ∃ (c0 c1 c2 c3 c4 c5 : Value) (y0 y1 y2 y3 y4 y5 : DataW H × List MemPlace) (n : Nat), cs = [c0, c1, c2, c3, c4, c5] ∧
      DataW.trod enc P w base spare held n f0.type [c0] = some y0 ∧ DataW.trod enc P w base spare held n f1.type [c1] = some y1 ∧ DataW.trod enc P w base spare held n f2.type [c2] = some y2 ∧
      DataW.trod enc P w base spare held n f3.type [c3] = some y3 ∧ DataW.trod enc P w base spare held n f4.type [c4] = some y4 ∧ DataW.trod enc P w base spare held n f5.type [c5] = some y5 := by
  obtain ⟨ys, n, hy, hg⟩ := trod_fields hs hone hl h
  match cs, ys, hl, hy with
  | [c0, c1, c2, c3, c4, c5], [y0, y1, y2, y3, y4, y5], _, _ => exact ⟨c0, c1, c2, c3, c4, c5, y0, y1, y2, y3, y4, y5, n, rfl, hg 0 _ _ rfl rfl, hg 1 _ _ rfl rfl, hg 2 _ _ rfl rfl, hg 3 _ _ rfl rfl, hg 4 _ _ rfl rfl, hg 5 _ _ rfl rfl⟩
end Go.Proofs.YtehihnapbpcfbaaGreat.LawSix
