/- What a drain's stores keep: what a drain from the beginning leaves. -/
import Derived.Test.YtkhjkfbgcpjphaaGreatRD22
namespace Go.Proofs.YtkhjkfbgcpjphaaGreat.Fun
open Go
set_option linter.unusedVariables false
theorem chain_memP (nx : Nat → Nat) (gone : Nat → Bool) : ∀ (k : Nat) (word cnt : Int), 0 ∈ (chainU nx gone k word cnt).1.map (·.1) ∧ ∀ q, q < k → nx q ∈ (chainU nx gone k word cnt).1.map (·.1)
  | 0, word, cnt => ⟨by simp [chainU], fun q hq => by omega⟩
  | k + 1, word, cnt => by
    simp only [chainU]
    split
    all_goals
      refine ⟨?_, fun q hq => ?_⟩
      · simp only [List.map_cons]
        exact List.mem_cons_of_mem _ (chain_memP nx gone k _ _).1
      · simp only [List.map_cons]
        by_cases hk : q = k
        · subst hk; exact List.mem_cons_self ..
        · exact List.mem_cons_of_mem _ ((chain_memP nx gone k _ _).2 q (by omega))
section
variable {n t r d b g : Int} (h : PF n t r d b g)
include h
omit h in
/-- What a drain leaves hangs on the states' words, and on the words that it doesn't touch. -/
theorem drn_congr {w v : Nat → Int} (hs : ∀ q : Nat, (q : Int) < n → stS g (v (ndP t r d b + q * 5).toNat) = stS g (w (ndP t r d b + q * 5).toNat))
    (ho : ∀ o, v o = w o ∨ o ∈ (drainU n t r d b (goneW (ndP t r d b) g w) (XW (ndP t r d b) g w)).map (·.1)) : drnW n t r d b g v = drnW n t r d b g w := by
  have hX : ∀ q : Nat, (q : Int) < n → XW (ndP t r d b) g v q = XW (ndP t r d b) g w q ∧ goneW (ndP t r d b) g v q = goneW (ndP t r d b) g w q := fun q hq => by
    unfold XW goneW stW
    rw [hs q hq]
    exact ⟨rfl, rfl⟩
  have e1 : nodesU (ndP t r d b) (XW (ndP t r d b) g v) (List.range' 0 n.toNat) = nodesU (ndP t r d b) (XW (ndP t r d b) g w) (List.range' 0 n.toNat) := by
    unfold nodesU
    have : ∀ l : List Nat, (∀ q ∈ l, (q : Int) < n) → l.flatMap (nodeU (ndP t r d b) (XW (ndP t r d b) g v)) = l.flatMap (nodeU (ndP t r d b) (XW (ndP t r d b) g w)) := by
      intro l
      induction l with
      | nil => intro _; rfl
      | cons q l ih =>
        intro hl
        rw [List.flatMap_cons, List.flatMap_cons, ih (fun p hp => hl p (by simp [hp]))]
        simp only [nodeU, (hX q (hl q (by simp))).1]
    exact this _ (fun q hq => by simp only [List.mem_range'_1] at hq; omega)
  have e2 : chainU (nxOf (ndP t r d b)) (goneW (ndP t r d b) g v) n.toNat 0 0 = chainU (nxOf (ndP t r d b)) (goneW (ndP t r d b) g w) n.toNat 0 0 := chain_gone _ _ _ _ _ _ fun q hq => (hX q (by omega)).2
  have e3 : drainU n t r d b (goneW (ndP t r d b) g v) (XW (ndP t r d b) g v) = drainU n t r d b (goneW (ndP t r d b) g w) (XW (ndP t r d b) g w) := by
    unfold drainU; rw [e1, e2]
  unfold drnW
  rw [drain_ups, drain_ups, e3, e2]
  congr 1
  funext o
  exact ups_congr _ _ _ o (ho o)
omit h in
theorem in_plcs (gone : Nat → Bool) (X : Nat → Int) {p : Nat} (hp : p ∈ plcs t r d b) : p ∈ (drainU n t r d b gone X).map (·.1) := by
  unfold drainU
  rw [List.map_append, List.mem_append]
  left
  unfold zerosU
  rw [List.map_map]
  exact List.mem_map.2 ⟨p, hp, rfl⟩
omit h in
theorem in_nodes (gone : Nat → Bool) (X : Nat → Int) {q : Nat} (hq : (q : Int) < n) {c : Int} (hc : c = 0 ∨ c = 2 ∨ c = 3 ∨ c = 4) : (ndP t r d b + q * 5 + c).toNat ∈ (drainU n t r d b gone X).map (·.1) := by
  unfold drainU
  rw [List.map_append, List.mem_append, List.map_append, List.mem_append]
  right; left
  unfold nodesU
  rw [List.map_flatMap, List.mem_flatMap]
  refine ⟨q, by simp only [List.mem_range'_1]; omega, ?_⟩
  simp only [nodeU, List.map_cons, List.map_nil, List.mem_cons, List.not_mem_nil, or_false]
  rcases hc with rfl | rfl | rfl | rfl
  · right; right; right; rw [Int.add_zero]
  · left; rfl
  · right; left; rfl
  · right; right; left; rfl
omit h in
theorem in_chain (gone : Nat → Bool) (X : Nat → Int) : 0 ∈ (drainU n t r d b gone X).map (·.1) ∧ ∀ q : Nat, (q : Int) < n → (ndP t r d b + q * 5 + 1).toNat ∈ (drainU n t r d b gone X).map (·.1) := by
  have hm := chain_memP (nxOf (ndP t r d b)) gone n.toNat 0 0
  unfold drainU
  rw [List.map_append, List.map_append]
  refine ⟨?_, fun q hq => ?_⟩
  · rw [List.mem_append, List.mem_append]; exact .inr (.inr hm.1)
  · rw [List.mem_append, List.mem_append]; exact .inr (.inr (hm.2 q (by omega)))
/-- The words from which a drain leaves the same. -/
def DD (n t r d b g : Int) (w v : Nat → Int) : Prop := drnW n t r d b g v = drnW n t r d b g w ∧ ∀ o, Wd (v o)
omit h in
theorem upd_wd {v : Nat → Int} (hv : ∀ o, Wd (v o)) {p : Nat} {x : Int} (hx : Wd x) : ∀ o, Wd (upd v p x o) := fun o => by
  unfold upd; split
  · exact hx
  · exact hv o
omit h in
/-- A store at a place that is no state's and that a drain writes. -/
theorem drn_upd {w : Nat → Int} {p : Nat} {x : Int} (hp : ∀ q : Nat, (q : Int) < n → p ≠ (ndP t r d b + q * 5).toNat) (hm : p ∈ (drainU n t r d b (goneW (ndP t r d b) g w) (XW (ndP t r d b) g w)).map (·.1)) : drnW n t r d b g (upd w p x) = drnW n t r d b g w := by
  refine drn_congr (fun q hq => ?_) (fun o => ?_)
  · unfold upd; rw [if_neg (fun e => hp q hq e.symm)]
  · unfold upd
    by_cases e : o = p
    · right; rw [e]; exact hm
    · left; rw [if_neg e]
/-- A drain's stores keep what a drain leaves. -/
theorem dc_drn {w : Nat → Int} (hw : ∀ o, Wd (w o)) : DC n t r d b (XW (ndP t r d b) g w) (DD n t r d b g w) := by
  have hn := h.hn; have hnd := h.nd; have hct := h.ct; have hhz := h.hz
  refine ⟨fun x v hx hv => ?_, fun q hq x v hx hv => ?_, fun q hq c hc v hv => ?_, fun q hq v hv => ?_⟩
  · exact ⟨(drn_upd (fun q _ => by omega) (in_chain _ _).1).trans hv.1, upd_wd hv.2 hx⟩
  · exact ⟨(drn_upd (fun q' _ => by omega) ((in_chain _ _).2 q hq)).trans hv.1, upd_wd hv.2 hx⟩
  · refine ⟨(drn_upd (fun q' _ => ?_) (in_nodes _ _ hq (.inr hc))).trans hv.1, upd_wd hv.2 ⟨by omega, by omega⟩⟩
    omega
  · have hst : (drnW n t r d b g v).1 (ndP t r d b + q * 5).toNat = stW g (v (ndP t r d b + q * 5).toNat) := drain_state h _ _ v q hq
    have hst2 : (drnW n t r d b g w).1 (ndP t r d b + q * 5).toNat = stW g (w (ndP t r d b + q * 5).toNat) := drain_state h _ _ w q hq
    rw [hv.1, hst2] at hst
    have ha := stW_again (g := g) (w := v (ndP t r d b + q * 5).toNat) h.hg
    have eX : XW (ndP t r d b) g w q = stW g (v (ndP t r d b + q * 5).toNat) := hst
    refine ⟨(drn_congr (fun q' hq' => ?_) (fun o => ?_)).trans hv.1, upd_wd hv.2 (by rw [eX]; exact ha.2)⟩
    · unfold upd
      by_cases e : (ndP t r d b + q' * 5).toNat = (ndP t r d b + q * 5).toNat
      · rw [if_pos e, e, eX, ha.1]
      · rw [if_neg e]
    · unfold upd
      by_cases e : o = (ndP t r d b + q * 5).toNat
      · right
        rw [e]
        have := in_nodes (n := n) (t := t) (r := r) (d := d) (b := b) (goneW (ndP t r d b) g v) (XW (ndP t r d b) g v) hq (c := 0) (.inl rfl)
        rwa [Int.add_zero] at this
      · left; rw [if_neg e]
theorem dz_drn {w : Nat → Int} : ∀ p ∈ plcs t r d b, ∀ v, DD n t r d b g w v → DD n t r d b g w (upd v p 0) := by
  have hn := h.hn; have hnd := h.nd; have hct := h.ct; have hhz := h.hz
  intro p hp v hv
  have hlt := plcs_lt h hp
  exact ⟨(drn_upd (fun q _ => by omega) (in_plcs _ _ hp)).trans hv.1, upd_wd hv.2 ⟨by omega, by omega⟩⟩
end
end Go.Proofs.YtkhjkfbgcpjphaaGreat.Fun
