/- What a value reads as stays what it reads as, while the blocks of its area stay. -/
import Derived.Test.YtpckjfncecoibaaGreatFunDefs
namespace Go.Proofs.YtpckjfncecoibaaGreat.Fun
open Go
theorem CellsAt.mono {w w' : World} {b off : Nat} {vs : List Value} (h : CellsAt w b off vs) (hb : w'.heap[b]? = w.heap[b]?) : CellsAt w' b off vs := by
  intro j u hj
  have := h j u hj
  unfold World.cell? at this ⊢
  simpa only [hb] using this
/-- Names stay, and the named blocks stay as large as they are. -/
def Ext (ρ : Nat → Option Nat) (w : World) (ρ' : Nat → Option Nat) (w' : World) : Prop := ∀ n b, ρ n = some b → ρ' n = some b ∧ ∀ vs e fz, w.heap[b]? = some (.cells vs e fz) → ∃ vs', w'.heap[b]? = some (.cells vs' e fz) ∧ vs'.size = vs.size
theorem Ext.refl (ρ : Nat → Option Nat) (w : World) : Ext ρ w ρ w := fun _ _ h => ⟨h, fun vs _ _ h => ⟨vs, h, rfl⟩⟩
theorem Ext.trans {ρ ρ' ρ'' : Nat → Option Nat} {w w' w'' : World} (h : Ext ρ w ρ' w') (k : Ext ρ' w' ρ'' w'') : Ext ρ w ρ'' w'' := fun n b hn => by
  obtain ⟨h1, h2⟩ := h n b hn
  obtain ⟨k1, k2⟩ := k n b h1
  refine ⟨k1, fun vs e fz hb => ?_⟩
  obtain ⟨vs', hb', hs⟩ := h2 vs e fz hb
  obtain ⟨vs'', hb'', hs'⟩ := k2 vs' e fz hb'
  exact ⟨vs'', hb'', hs'.trans hs⟩
theorem Ext.same {ρ : Nat → Option Nat} {w w' : World} (h : ∀ n b, ρ n = some b → w'.heap[b]? = w.heap[b]?) : Ext ρ w ρ w' := fun n b hn => ⟨hn, fun vs e fz hb => ⟨vs, by rw [h n b hn]; exact hb, rfl⟩⟩
mutual
theorem Abs.mono {ρ ρ' : Nat → Option Nat} {S S' : Nat → Prop} {w w' : World} (hρ : Ext ρ w ρ' w') (hw : ∀ b, S b → w'.heap[b]? = w.heap[b]?) (hS : ∀ b, S b → S' b) : ∀ (d : DV) (v : Value), Abs ρ S w d v → Abs ρ' S' w' d v
  | .any, _, _ => by simp only [Abs]
  | .int _ _, _, h => by simpa only [Abs] using h
  | .bool _, _, h => by simpa only [Abs] using h
  | .str _, _, h => by simpa only [Abs] using h
  | .nilp, _, h => by simpa only [Abs] using h
  | .nilf, _, h => by simpa only [Abs] using h
  | .agg cs, _, h => by
    simp only [Abs] at h ⊢
    obtain ⟨vs, rfl, h⟩ := h
    exact ⟨vs, rfl, AbsL.mono hρ hw hS cs vs h⟩
  | .tup cs, _, h => by
    simp only [Abs] at h ⊢
    obtain ⟨vs, rfl, h⟩ := h
    exact ⟨vs, rfl, AbsL.mono hρ hw hS cs vs h⟩
  | .ptr cs, _, h => by
    simp only [Abs] at h ⊢
    obtain ⟨b, off, vs, rfl, hb, hc, h⟩ := h
    exact ⟨b, off, vs, rfl, hS b hb, CellsAt.mono hc (hw b hb), AbsL.mono hρ hw hS cs vs h⟩
  | .func f caps, _, h => by
    simp only [Abs] at h ⊢
    obtain ⟨vs, rfl, h⟩ := h
    exact ⟨vs, rfl, AbsL.mono hρ hw hS caps vs h⟩
  | .slice cs n, _, h => by
    simp only [Abs] at h ⊢
    obtain ⟨a, cap, vs, rfl, hn, h, hc⟩ := h
    refine ⟨a, cap, vs, rfl, hn, AbsL.mono hρ hw hS cs vs h, hc.imp id ?_⟩
    rintro ⟨b, off, rfl, hb, hc⟩
    exact ⟨b, off, rfl, hS b hb, CellsAt.mono hc (hw b hb)⟩
  | .loc _ _, _, h => by simp only [Abs] at h
  | .adr _ _, _, h => by
    simp only [Abs] at h ⊢
    obtain ⟨p, hp, h⟩ := h
    exact ⟨p, (hρ _ _ hp).1, h⟩
  | .vec _ _ _ _, _, h => by
    simp only [Abs] at h ⊢
    obtain ⟨a, cap, rfl, hn, hor⟩ := h
    refine ⟨a, cap, rfl, hn, hor.imp id fun ⟨p, hp, ha, vs, e, hb, hle⟩ => ?_⟩
    obtain ⟨h1, h2⟩ := hρ _ _ hp
    obtain ⟨vs', hb', hs⟩ := h2 _ _ _ hb
    exact ⟨p, h1, ha, vs', e, hb', by omega⟩
  | .spot, _, h => by simpa only [Abs] using h
  | .nils, _, h => by simpa only [Abs] using h
  | .bnd _ cs, _, h => by
    simp only [Abs] at h ⊢
    obtain ⟨vs, rfl, h⟩ := h
    exact ⟨vs, rfl, AbsL.mono hρ hw hS cs vs h⟩
  | .ents _ _, _, h => by simp only [Abs] at h
  | .boxd _ _, _, h => by simp only [Abs] at h
  | .mref _, _, h => by
    simp only [Abs] at h ⊢
    obtain ⟨p, hp, h⟩ := h
    exact ⟨p, (hρ _ _ hp).1, h⟩
  | .cref _, _, h => by
    simp only [Abs] at h ⊢
    obtain ⟨p, hp, h⟩ := h
    exact ⟨p, (hρ _ _ hp).1, h⟩
  | .nilm, _, h => by simpa only [Abs] using h
  | .emap, _, h => by
    simp only [Abs] at h ⊢
    obtain ⟨p, h, hp, hm⟩ := h
    exact ⟨p, h, hS p hp, (hw p hp).trans hm⟩
  | .miter, _, h => by
    simp only [Abs] at h ⊢
    obtain ⟨b, p, s, l, h, hb, hm, hp, hq⟩ := h
    exact ⟨b, p, s, l, h, hS b hb, (hw b hb).trans hm, hS p hp, (hw p hp).trans hq⟩
theorem AbsL.mono {ρ ρ' : Nat → Option Nat} {S S' : Nat → Prop} {w w' : World} (hρ : Ext ρ w ρ' w') (hw : ∀ b, S b → w'.heap[b]? = w.heap[b]?) (hS : ∀ b, S b → S' b) : ∀ (ds : List DV) (vs : List Value), AbsL ρ S w ds vs → AbsL ρ' S' w' ds vs
  | [], _, h => by simpa only [AbsL] using h
  | d :: ds, _, h => by
    simp only [AbsL] at h ⊢
    obtain ⟨v, rest, rfl, h, hr⟩ := h
    exact ⟨v, rest, rfl, Abs.mono hρ hw hS d v h, AbsL.mono hρ hw hS ds rest hr⟩
end

section
variable {ρ : Nat → Option Nat} {S : Nat → Prop} {w : World}
theorem AbsL.nil : AbsL ρ S w [] [] := by simp only [AbsL]
theorem AbsL.cons {d : DV} {ds : List DV} {v : Value} {vs : List Value} (h : Abs ρ S w d v) (hs : AbsL ρ S w ds vs) : AbsL ρ S w (d :: ds) (v :: vs) := by
  simp only [AbsL]; exact ⟨v, vs, rfl, h, hs⟩
theorem AbsL.cons_inv {d : DV} {ds : List DV} {vs : List Value} (h : AbsL ρ S w (d :: ds) vs) : ∃ v rest, vs = v :: rest ∧ Abs ρ S w d v ∧ AbsL ρ S w ds rest := by
  simpa only [AbsL] using h
theorem AbsL.nil_inv {vs : List Value} (h : AbsL ρ S w [] vs) : vs = [] := by simpa only [AbsL] using h
theorem AbsL.length : ∀ {ds : List DV} {vs : List Value}, AbsL ρ S w ds vs → vs.length = ds.length
  | [], _, h => by rw [h.nil_inv]; rfl
  | d :: ds, _, h => by obtain ⟨v, rest, rfl, _, hr⟩ := h.cons_inv; simp [AbsL.length hr]
theorem AbsL.get : ∀ {ds : List DV} {vs : List Value}, AbsL ρ S w ds vs → ∀ {i : Nat} {d : DV}, ds[i]? = some d → ∃ v, vs[i]? = some v ∧ Abs ρ S w d v
  | [], _, _, _, _, h => by simp at h
  | d :: ds, _, h, 0, e, he => by
    obtain ⟨v, rest, rfl, hv, hr⟩ := h.cons_inv
    simp at he; subst he
    exact ⟨v, rfl, hv⟩
  | d :: ds, _, h, i + 1, e, he => by
    obtain ⟨v, rest, rfl, hv, hr⟩ := h.cons_inv
    exact AbsL.get hr (by simpa using he)
theorem AbsL.of_get {ds : List DV} {vs : List Value} (hl : vs.length = ds.length) (h : ∀ (i : Nat) (d : DV) (v : Value), ds[i]? = some d → vs[i]? = some v → Abs ρ S w d v) : AbsL ρ S w ds vs := by
  induction ds generalizing vs with
  | nil => cases vs with
    | nil => exact .nil
    | cons => simp at hl
  | cons d ds ih => cases vs with
    | nil => simp at hl
    | cons v vs => exact .cons (h 0 d v rfl rfl) (ih (by simpa using hl) fun i d v hd hv => h (i + 1) d v (by simpa using hd) (by simpa using hv))
theorem AbsL.drop {ds : List DV} {vs : List Value} (h : AbsL ρ S w ds vs) (n : Nat) : AbsL ρ S w (ds.drop n) (vs.drop n) :=
  .of_get (by simp [h.length]) fun i d v hd hv => by
    rw [List.getElem?_drop] at hd hv
    obtain ⟨u, hu, ha⟩ := h.get hd
    rw [hv] at hu; cases hu; exact ha
theorem AbsL.take {ds : List DV} {vs : List Value} (h : AbsL ρ S w ds vs) (n : Nat) : AbsL ρ S w (ds.take n) (vs.take n) :=
  .of_get (by simp [h.length]) fun i d v hd hv => by
    rw [List.getElem?_take] at hd hv
    split at hd
    · rename_i hlt
      rw [if_pos hlt] at hv
      obtain ⟨u, hu, ha⟩ := h.get hd
      rw [hv] at hu; cases hu; exact ha
    · cases hd
theorem AbsL.append {ds es : List DV} {vs us : List Value} (h : AbsL ρ S w ds vs) (k : AbsL ρ S w es us) : AbsL ρ S w (ds ++ es) (vs ++ us) := by
  induction ds generalizing vs with
  | nil => rw [h.nil_inv]; simpa using k
  | cons d ds ih => obtain ⟨v, rest, rfl, hv, hr⟩ := h.cons_inv; exact .cons hv (ih hr)
theorem AbsL.set {ds : List DV} {vs : List Value} (h : AbsL ρ S w ds vs) {i : Nat} {d : DV} {v : Value} (hv : Abs ρ S w d v) : AbsL ρ S w (ds.set i d) (vs.set i v) :=
  .of_get (by simp [h.length]) fun j e u he hu => by
    rw [List.getElem?_set] at he hu
    split at he
    · rename_i hij
      rw [if_pos hij] at hu
      split at he
      · rename_i hlt
        rw [if_pos (by rw [h.length]; exact hlt)] at hu
        cases he; cases hu; exact hv
      · cases he
    · rename_i hij
      rw [if_neg hij] at hu
      obtain ⟨x, hx, ha⟩ := h.get he
      rw [hu] at hx; cases hx; exact ha
theorem AbsL.fill {es : List DV} {us : List Value} (k : AbsL ρ S w es us) : ∀ {ds : List DV} {vs : List Value} {off : Nat}, AbsL ρ S w ds vs →
    AbsL ρ S w (fillAt ds off es) ((us.zipIdx off).foldl (fun cs (c, j) => cs.set j c) vs) := by
  induction es generalizing us with
  | nil => intro ds vs off h; rw [k.nil_inv]; simpa [fillAt] using h
  | cons e es ih =>
    intro ds vs off h
    obtain ⟨u, rest, rfl, hu, hr⟩ := k.cons_inv
    simp only [fillAt, List.zipIdx_cons, List.foldl_cons]
    exact ih hr (h.set hu)
/-- The cells of a value. -/
theorem Abs.cells {d : DV} {v : Value} (h : Abs ρ S w d v) (hd : d ≠ .any) : AbsL ρ S w d.cells v.cells.toList := by
  cases d <;> simp only [Abs] at h <;> try (exact absurd rfl hd)
  case agg cs => obtain ⟨vs, rfl, h⟩ := h; simpa [DV.cells, Value.cells] using h
  case tup cs => obtain ⟨vs, rfl, h⟩ := h; exact .cons (by simp only [Abs]; exact ⟨vs, rfl, h⟩) .nil
  case ptr cs => obtain ⟨b, off, vs, rfl, h⟩ := h; exact .cons (by simp only [Abs]; exact ⟨b, off, vs, rfl, h⟩) .nil
  case func f cs => obtain ⟨vs, rfl, h⟩ := h; exact .cons (by simp only [Abs]; exact ⟨vs, rfl, h⟩) .nil
  case bnd f cs => obtain ⟨vs, rfl, h⟩ := h; exact .cons (by simp only [Abs]; exact ⟨vs, rfl, h⟩) .nil
  case slice cs n => obtain ⟨a, cap, vs, rfl, h⟩ := h; exact .cons (by simp only [Abs]; exact ⟨a, cap, vs, rfl, h⟩) .nil
  case spot => obtain ⟨a, rfl⟩ := h; exact .cons (by simp only [Abs]; exact ⟨a, rfl⟩) .nil
  case nils => obtain ⟨a, rfl⟩ := h; exact .cons (by simp only [Abs]; exact ⟨a, rfl⟩) .nil
  case vec b off n z => obtain ⟨p, cap, rfl, h⟩ := h; exact .cons (by simp only [Abs]; exact ⟨p, cap, rfl, h⟩) .nil
  case adr b off => obtain ⟨p, hp, rfl⟩ := h; exact .cons (by simp only [Abs]; exact ⟨p, hp, rfl⟩) .nil
  case emap => obtain ⟨p, rfl, h⟩ := h; exact .cons (by simp only [Abs]; exact ⟨p, rfl, h⟩) .nil
  case miter => obtain ⟨b, p, s, l, rfl, h⟩ := h; exact .cons (by simp only [Abs]; exact ⟨b, p, s, l, rfl, h⟩) .nil
  case mref b => obtain ⟨p, hp, rfl⟩ := h; exact .cons (by simp only [Abs]; exact ⟨p, hp, rfl⟩) .nil
  case cref b => obtain ⟨p, hp, rfl⟩ := h; exact .cons (by simp only [Abs]; exact ⟨p, hp, rfl⟩) .nil
  all_goals (subst h; exact .cons (by simp only [Abs]) .nil)
end
end Go.Proofs.YtpckjfncecoibaaGreat.Fun
