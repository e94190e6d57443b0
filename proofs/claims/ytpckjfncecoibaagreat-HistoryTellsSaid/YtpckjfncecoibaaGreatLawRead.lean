/- What came in, as the evaluator reads it: whole numbers, Booleans, strings, structs and arrays of such, rows of such, however deep. -/
import Derived.Test.YtpckjfncecoibaaGreatFunOps
import Derived.Deep.Slices
import Derived.ChangeSame
import Derived.OpenShut
import Derived.ProofKit
namespace Go.Proofs.YtpckjfncecoibaaGreat.Fun
open Go Go.RowKit Go.ChangeShapes Go.WideShapes Go.Deep
/-- A cell's form; a row: of elements whose cells have these forms. -/
inductive Lf where
  | int (k : IntKind)
  | bool
  | str
  | row (e : List Lf)
def leavesRow (P : Program) (g : TypeId → Option (List Lf)) : List Field → Nat → Option (List Lf)
  | [], _ => some []
  | f :: fs, n =>
    match g f.type with
    | some l => if f.offset = n ∧ P.cellsOf f.type = l.length then (leavesRow P g fs (n + l.length)).map (l ++ ·) else none
    | none => none
/-- The forms of a type's cells. -/
def leavesOf (P : Program) : Nat → TypeId → Option (List Lf)
  | 0, _ => none
  | d + 1, t =>
    match P.underlying t with
    | some (.int k) => some [.int k]
    | some .bool => some [.bool]
    | some .string => some [.str]
    | some (.slice e) => (match leavesOf P d e with | some l => if 0 < l.length ∧ P.cellsOf e = l.length then some [.row l] else none | none => none)
    | some (.struct fs) => (match leavesRow P (leavesOf P d) fs.toList 0 with | some l => if P.cellsOf t = l.length then some l else none | none => none)
    | some (.array n e) => (match leavesOf P d e with | some l => if P.cellsOf e = l.length ∧ P.cellsOf t = n * l.length then some (List.replicate n l).flatten else none | none => none)
    | _ => none
mutual
def LfHas : Lf → DV → Prop
  | .int k, d => ∃ n, d = .int k n ∧ (Lit.int k n).wf = true
  | .bool, d => ∃ b, d = .bool b
  | .str, d => ∃ s, d = .str s ∧ s.size ≤ maxLen
  | .row l, d => ∃ rows : List (List DV), (∀ r ∈ rows, LfsHas l r) ∧ d = .slice rows.flatten rows.length ∧ rows.length ≤ maxLen
def LfsHas : List Lf → List DV → Prop
  | [], ds => ds = []
  | l :: ls, ds => ∃ d rest, ds = d :: rest ∧ LfHas l d ∧ LfsHas ls rest
end
theorem LfsHas.length : ∀ {ls : List Lf} {ds : List DV}, LfsHas ls ds → ds.length = ls.length
  | [], _, h => by simp only [LfsHas] at h; rw [h]; rfl
  | l :: ls, _, h => by
    simp only [LfsHas] at h
    obtain ⟨d, rest, rfl, _, h⟩ := h
    simp [LfsHas.length h]
theorem LfsHas.append : ∀ {ls ks : List Lf} {ds es : List DV}, LfsHas ls ds → LfsHas ks es → LfsHas (ls ++ ks) (ds ++ es)
  | [], _, _, _, h, k => by simp only [LfsHas] at h; rw [h]; exact k
  | l :: ls, _, _, _, h, k => by
    simp only [LfsHas] at h
    obtain ⟨d, rest, rfl, h1, h⟩ := h
    simp only [List.cons_append, LfsHas]
    exact ⟨d, _, rfl, h1, LfsHas.append h k⟩
theorem LfsHas.one {l : Lf} {d : DV} (h : LfHas l d) : LfsHas [l] [d] := by
  simp only [LfsHas]; exact ⟨d, [], rfl, h, rfl⟩
section
variable {H : Type} {enc : TypeId × Value → H} {P : Program} {w : World} {base : Nat} {spare : Nat → Bool} {held : Bool}
/-- A row's elements, one by one. -/
theorem row_reads {l : List Lf} {e : TypeId} {fuel : Nat} {t : TypeId} {cs : List Value} {x : DataW H × List MemPlace} (ht : P.underlying t = some (.slice e)) (hC : P.cellsOf e = l.length) (hsz : 0 < l.length)
    (hel : ∀ n cs x, cs.length = l.length → DataW.trod enc P w base spare held n e cs = some x → ∃ ds, LfsHas l ds ∧ AbsL (fun _ => none) (fun b => b < w.heap.size) w ds cs) (h : DataW.trod enc P w base spare held fuel t cs = some x) :
    ∃ ds, LfsHas [.row l] ds ∧ AbsL (fun _ => none) (fun b => b < w.heap.size) w ds cs := by
  rcases open_slice ht h with ⟨rfl, _⟩ | ⟨a, len, cap, m, n, D, Pl, rfl, hb, hl, hm, hmm, hx, hi⟩
  · refine ⟨[.slice [] 0], LfsHas.one ?_, .cons ?_ .nil⟩
    · simp only [LfHas]
      exact ⟨[], fun r h => by simp at h, rfl, by simp⟩
    · simp only [Abs]
      exact ⟨none, 0, [], rfl, Nat.le_refl _, .nil, .inl trivial⟩
  · have hmle : len ≤ m := by rw [hmm]; split <;> omega
    have key : ∀ i, i < len → ∃ ds c, c.length = l.length ∧ LfsHas l ds ∧ AbsL (fun _ => none) (fun b => b < w.heap.size) w ds c ∧ ∀ j u, c[j]? = some u → w.cell? (a.add (i * l.length + j)) = some u := by
      intro i hlt
      obtain ⟨cs', hc, htr⟩ := hi i (by omega)
      rw [hC] at hc
      obtain ⟨_, hcl, hat⟩ := World.cells?_some hc
      obtain ⟨ds, h1, h2⟩ := hel n cs' _ hcl htr
      refine ⟨ds, cs', hcl, h1, h2, fun j u hu => ?_⟩
      have hj : j < l.length := by rw [← hcl]; exact (List.getElem?_eq_some_iff.1 hu).1
      rw [← Go.Deep.add_add, hat j hj, hu]
    have build : ∀ k, k ≤ len → ∃ (rows : List (List DV)) (vs : List Value), rows.length = k ∧ vs.length = k * l.length ∧ AbsL (fun _ => none) (fun b => b < w.heap.size) w rows.flatten vs ∧ (∀ j u, vs[j]? = some u → w.cell? (a.add j) = some u) ∧ ∀ r ∈ rows, LfsHas l r := by
      intro k
      induction k with
      | zero => intro _; exact ⟨[], [], rfl, by simp, .nil, fun i x h => by simp at h, by simp⟩
      | succ k ih =>
        intro hk
        obtain ⟨rows, vs, h1, h2, h3, h4, h5⟩ := ih (by omega)
        obtain ⟨ds, c, q1, q2, q3, q4⟩ := key k (by omega)
        refine ⟨rows ++ [ds], vs ++ c, by simp [h1], by simp [h2, q1, Nat.add_mul], ?_, fun j u hj => ?_, fun y hy => ?_⟩
        · rw [List.flatten_append, List.flatten_cons, List.flatten_nil, List.append_nil]
          exact AbsL.append h3 q3
        · by_cases hlt : j < k * l.length
          · rw [List.getElem?_append_left (by omega)] at hj
            exact h4 j u hj
          · rw [List.getElem?_append_right (by omega), h2] at hj
            have := q4 (j - k * l.length) u hj
            rwa [show k * l.length + (j - k * l.length) = j by omega] at this
        · rcases List.mem_append.1 hy with hy | hy
          · exact h5 y hy
          · simp at hy; subst hy; exact q2
    obtain ⟨rows, vs, h1, h2, h3, h4, h5⟩ := build len (Nat.le_refl _)
    subst h1
    refine ⟨[.slice rows.flatten rows.length], LfsHas.one ?_, .cons ?_ .nil⟩
    · simp only [LfHas]
      exact ⟨rows, h5, rfl, Nat.le_trans hl hm⟩
    · simp only [Abs]
      refine ⟨some a, cap, vs, rfl, hl, h3, ?_⟩
      by_cases hz : rows.length = 0
      · exact .inl hz
      · right
        have hlen : 0 < vs.length := by rw [h2]; exact Nat.mul_pos (by omega) hsz
        have hc0 := h4 0 vs[0] (List.getElem?_eq_getElem hlen)
        have ea : a.add 0 = a := by simp [Addr.add]
        rw [ea] at hc0
        have hspot : a.spot = none := by
          unfold World.cell? at hc0
          split at hc0
          · split at hc0
            · cases hc0
            · rename_i hs; simpa using hs
          · cases hc0
        obtain ⟨b, off, sp⟩ := a
        simp only at hspot
        subst hspot
        exact ⟨b, off, rfl, lt_of_cell hc0, fun j u hj => by rw [← addr_add]; exact h4 j u hj⟩
theorem fields_read {g : TypeId → Option (List Lf)} {cs : List Value} {nn : Nat}
    (hg : ∀ t ls, g t = some ls → ∀ n c x, c.length = ls.length → DataW.trod enc P w base spare held n t c = some x → ∃ ds, LfsHas ls ds ∧ AbsL (fun _ => none) (fun b => b < w.heap.size) w ds c) :
    ∀ (fs : List Field) (off : Nat) (ls : List Lf), leavesRow P g fs off = some ls → cs.length = off + ls.length → (∀ (j : Nat) (f : Field), fs[j]? = some f → ∃ x, DataW.trod enc P w base spare held nn f.type ((cs.drop f.offset).take (P.cellsOf f.type)) = some x) →
      ∃ ds, LfsHas ls ds ∧ AbsL (fun _ => none) (fun b => b < w.heap.size) w ds (cs.drop off)
  | [], off, ls, h, hl, _ => by
    simp only [leavesRow, Option.some.injEq] at h
    subst h
    refine ⟨[], by simp [LfsHas], ?_⟩
    rw [List.drop_eq_nil_of_le (by simp at hl; omega)]
    exact .nil
  | f :: fs, off, ls, h, hl, ht => by
    simp only [leavesRow] at h
    split at h
    · rename_i l hf
      split at h
      · rename_i hc
        simp only [Option.map_eq_some_iff] at h
        obtain ⟨rest, hr, rfl⟩ := h
        rw [List.length_append] at hl
        obtain ⟨x, hx⟩ := ht 0 f rfl
        rw [hc.1, hc.2] at hx
        have hlen : ((cs.drop off).take l.length).length = l.length := by simp; omega
        obtain ⟨ds, h1, h2⟩ := hg _ _ hf _ _ _ hlen hx
        obtain ⟨es, k1, k2⟩ := fields_read hg fs (off + l.length) rest hr (by omega) (fun j f' hj => ht (j + 1) f' hj)
        refine ⟨ds ++ es, h1.append k1, ?_⟩
        rw [← List.take_append_drop l.length (cs.drop off), List.drop_drop]
        exact AbsL.append h2 k2
      · cases h
    · cases h
theorem array_read {l : List Lf} {cs : List Value} {nn : Nat} {e : TypeId}
    (hel : ∀ n c x, c.length = l.length → DataW.trod enc P w base spare held n e c = some x → ∃ ds, LfsHas l ds ∧ AbsL (fun _ => none) (fun b => b < w.heap.size) w ds c) :
    ∀ (k i : Nat), cs.length = (i + k) * l.length → (∀ j, j < i + k → ∃ x, DataW.trod enc P w base spare held nn e ((cs.drop (j * l.length)).take l.length) = some x) →
      ∃ ds, LfsHas (List.replicate k l).flatten ds ∧ AbsL (fun _ => none) (fun b => b < w.heap.size) w ds (cs.drop (i * l.length))
  | 0, i, hl, _ => by
    refine ⟨[], by simp [LfsHas], ?_⟩
    rw [List.drop_eq_nil_of_le (by simp at hl; omega)]
    exact .nil
  | k + 1, i, hl, ht => by
    obtain ⟨x, hx⟩ := ht i (by omega)
    have hm : (i + (k + 1)) * l.length = i * l.length + (l.length + k * l.length) := by rw [Nat.add_mul, Nat.add_mul]; omega
    have hlen : ((cs.drop (i * l.length)).take l.length).length = l.length := by simp; omega
    obtain ⟨ds, h1, h2⟩ := hel _ _ _ hlen hx
    obtain ⟨es, k1, k2⟩ := array_read hel k (i + 1) (by rw [hl]; congr 1; omega) (fun j hj => ht j (by omega))
    refine ⟨ds ++ es, ?_, ?_⟩
    · rw [List.replicate_succ, List.flatten_cons]
      exact h1.append k1
    · rw [← List.take_append_drop l.length (cs.drop (i * l.length)), List.drop_drop]
      rw [show i * l.length + l.length = (i + 1) * l.length by rw [Nat.add_mul]; omega]
      exact AbsL.append h2 k2
/-- What is read of a type reads as its forms say. -/
theorem reads : ∀ (d : Nat) (t : TypeId) (ls : List Lf), leavesOf P d t = some ls → ∀ (n : Nat) (cs : List Value) (x : DataW H × List MemPlace), cs.length = ls.length → DataW.trod enc P w base spare held n t cs = some x →
    ∃ ds, LfsHas ls ds ∧ AbsL (fun _ => none) (fun b => b < w.heap.size) w ds cs
  | 0, _, _, h => by simp [leavesOf] at h
  | d + 1, t, ls, h => by
    intro n cs x hlen htr
    simp only [leavesOf] at h
    split at h
    · rename_i k hu
      cases h
      obtain ⟨v, rfl, _, hw⟩ := DataW.trod_int hu htr
      exact ⟨[.int k v], LfsHas.one (by simp only [LfHas]; exact ⟨v, rfl, hw⟩), .cons (by simp only [Abs]) .nil⟩
    · rename_i hu
      cases h
      obtain ⟨b, rfl, _⟩ := DataW.trod_bool hu htr
      exact ⟨[.bool b], LfsHas.one (by simp only [LfHas]; exact ⟨b, rfl⟩), .cons (by simp only [Abs]) .nil⟩
    · rename_i hu
      cases h
      obtain ⟨s, rfl, _, hs⟩ := DataW.trod_string hu htr
      exact ⟨[.str s], LfsHas.one (by simp only [LfHas]; exact ⟨s, rfl, hs⟩), .cons (by simp only [Abs]) .nil⟩
    · rename_i e hu
      split at h
      · rename_i l hl
        split at h
        · rename_i hc
          cases h
          exact row_reads hu hc.2 hc.1 (fun n cs x hcl hx => reads d e l hl n cs x hcl hx) htr
        · cases h
      · cases h
    · rename_i fs hu
      split at h
      · rename_i l hl
        split at h
        · rename_i hc
          cases h
          obtain ⟨xs, nn, _, _, hcl, hxl, hg⟩ := DataW.trod_struct hu htr
          obtain ⟨ds, h1, h2⟩ := fields_read (cs := cs) (nn := nn) (fun t ls ht n c x hcl hx => reads d t ls ht n c x hcl hx) fs.toList 0 ls hl (by omega) (fun j f hj => by
            have hj' : fs[j]? = some f := by simpa using hj
            have := hg j f hj'
            have hlt : j < xs.length := by rw [hxl]; exact (Array.getElem?_eq_some_iff.1 hj').1
            exact ⟨xs[j], this.trans (List.getElem?_eq_getElem hlt)⟩)
          exact ⟨ds, h1, by simpa using h2⟩
        · cases h
      · cases h
    · rename_i k e hu
      split at h
      · rename_i l hl
        split at h
        · rename_i hc
          cases h
          obtain ⟨xs, nn, _, _, hcl, hxl, hg⟩ := DataW.trod_array hu htr
          obtain ⟨ds, h1, h2⟩ := array_read (cs := cs) (nn := nn) (e := e) (l := l) (fun n c x hcl hx => reads d e l hl n c x hcl hx) k 0 (by rw [Nat.zero_add, hcl, hc.2]) (fun j hj => by
            have := hg j (by omega)
            rw [hc.1] at this
            exact ⟨xs[j]'(by omega), this.trans (List.getElem?_eq_getElem (by omega))⟩)
          exact ⟨ds, h1, by simpa using h2⟩
        · cases h
      · cases h
    · cases h
end
end Go.Proofs.YtpckjfncecoibaaGreat.Fun
