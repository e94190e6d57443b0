/- What a drain leaves, as a row of updates; a drain of what is drained. -/
import Derived.Test.YtkhjkfbgcpjphaaGreatRD19
namespace Go.Proofs.YtkhjkfbgcpjphaaGreat.Fun
open Go
set_option linter.unusedVariables false
/-- Updates, one behind the other. -/
def ups : List (Nat × Int) → (Nat → Int) → (Nat → Int)
  | [], w => w
  | u :: l, w => ups l (upd w u.1 u.2)
theorem ups_append : ∀ (l k : List (Nat × Int)) (w : Nat → Int), ups (l ++ k) w = ups k (ups l w)
  | [], _, _ => rfl
  | u :: l, k, w => ups_append l k _
theorem ups_congr : ∀ (l : List (Nat × Int)) (w v : Nat → Int) (o : Nat), (w o = v o ∨ o ∈ l.map (·.1)) → ups l w o = ups l v o
  | [], w, v, o, h => by
    rcases h with h | h
    · exact h
    · simp at h
  | u :: l, w, v, o, h => by
    refine ups_congr l _ _ o ?_
    by_cases ho : o = u.1
    · left; simp [upd, ho]
    · rcases h with h | h
      · left; simp only [upd, if_neg ho]; exact h
      · right
        rcases List.mem_cons.1 h with h | h
        · exact absurd h ho
        · exact h
theorem ups_other : ∀ (l : List (Nat × Int)) (w : Nat → Int) (o : Nat), o ∉ l.map (·.1) → ups l w o = w o
  | [], _, _, _ => rfl
  | u :: l, w, o, h => by
    simp only [List.map_cons, List.mem_cons, not_or] at h
    show ups l (upd w u.1 u.2) o = w o
    rw [ups_other l _ o h.2]
    simp only [upd, if_neg h.1]
theorem ups_again (l : List (Nat × Int)) (w : Nat → Int) : ups l (ups l w) = ups l w := by
  funext o
  by_cases h : o ∈ l.map (·.1)
  · exact ups_congr l _ _ o (.inr h)
  · rw [ups_other l _ o h]
theorem ups_wd : ∀ (l : List (Nat × Int)) (w : Nat → Int), (∀ o, Wd (w o)) → (∀ u ∈ l, Wd u.2) → ∀ o, Wd (ups l w o)
  | [], w, h, _, o => h o
  | u :: l, w, h, hu, o => ups_wd l _ (fun o => by
      simp only [upd]
      split
      · exact hu u (by simp)
      · exact h o) (fun v hv => hu v (by simp [hv])) o
def zerosU (l : List Nat) : List (Nat × Int) := l.map fun p => (p, 0)
theorem zeros_ups : ∀ (l : List Nat) (w : Nat → Int), l.foldl (fun w p => upd w p 0) w = ups (zerosU l) w
  | [], _ => rfl
  | p :: l, w => zeros_ups l _
def nodeU (nd : Int) (X : Nat → Int) (q : Nat) : List (Nat × Int) := [((nd + q * 5 + 2).toNat, 0), ((nd + q * 5 + 3).toNat, 0), ((nd + q * 5 + 4).toNat, 0), ((nd + q * 5).toNat, X q)]
def nodesU (nd : Int) (X : Nat → Int) (l : List Nat) : List (Nat × Int) := l.flatMap (nodeU nd X)
theorem nodes_ups (nd : Int) (X : Nat → Int) : ∀ (l : List Nat) (w : Nat → Int), l.foldl (nodeW nd X) w = ups (nodesU nd X l) w
  | [], _ => rfl
  | q :: l, w => by
    rw [nodesU, List.flatMap_cons, ups_append]
    exact nodes_ups nd X l _
/-- The chain's updates, and its number. -/
def chainU (nx : Nat → Nat) (gone : Nat → Bool) : Nat → Int → Int → List (Nat × Int) × Int
  | 0, word, cnt => ([(0, word)], cnt)
  | k + 1, word, cnt => if gone k then ((nx k, 0) :: (chainU nx gone k word cnt).1, (chainU nx gone k word cnt).2) else ((nx k, word) :: (chainU nx gone k (IntKind.u64.wrap (IntKind.i64.wrap ((k : Int) + 1))) (IntKind.i64.wrap (cnt + 1))).1, (chainU nx gone k (IntKind.u64.wrap (IntKind.i64.wrap ((k : Int) + 1))) (IntKind.i64.wrap (cnt + 1))).2)
theorem chain_ups (nx : Nat → Nat) (gone : Nat → Bool) : ∀ (k : Nat) (word cnt : Int) (w : Nat → Int), chainW nx gone k word cnt w = (ups (chainU nx gone k word cnt).1 w, (chainU nx gone k word cnt).2)
  | 0, _, _, _ => rfl
  | k + 1, word, cnt, w => by
    simp only [chainW, chainU]
    split
    · rw [chain_ups nx gone k]; rfl
    · rw [chain_ups nx gone k]; rfl
theorem chain_gone (nx : Nat → Nat) (g1 g2 : Nat → Bool) : ∀ (k : Nat) (word cnt : Int), (∀ q, q < k → g1 q = g2 q) → chainU nx g1 k word cnt = chainU nx g2 k word cnt
  | 0, _, _, _ => rfl
  | k + 1, word, cnt, h => by
    simp only [chainU, h k (by omega)]
    rw [chain_gone nx g1 g2 k word cnt (fun q hq => h q (by omega)), chain_gone nx g1 g2 k _ _ (fun q hq => h q (by omega))]
theorem chain_wd (nx : Nat → Nat) (gone : Nat → Bool) : ∀ (k : Nat) (word cnt : Int), Wd word → ∀ u ∈ (chainU nx gone k word cnt).1, Wd u.2
  | 0, word, cnt, h, u, hu => by simp [chainU] at hu; subst hu; exact h
  | k + 1, word, cnt, h, u, hu => by
    simp only [chainU] at hu
    split at hu
    · rcases List.mem_cons.1 hu with rfl | hu
      · exact ⟨by simp, by simp⟩
      · exact chain_wd nx gone k word cnt h u hu
    · rcases List.mem_cons.1 hu with rfl | hu
      · exact h
      · exact chain_wd nx gone k _ _ (wd_u64 _) u hu
theorem chain_places (nx : Nat → Nat) (gone : Nat → Bool) : ∀ (k : Nat) (word cnt : Int) (o : Nat), o ∈ (chainU nx gone k word cnt).1.map (·.1) → o = 0 ∨ ∃ q, q < k ∧ o = nx q
  | 0, word, cnt, o, h => by simp [chainU] at h; exact .inl h
  | k + 1, word, cnt, o, h => by
    simp only [chainU] at h
    split at h
    all_goals
      simp only [List.map_cons, List.mem_cons] at h
      rcases h with h | h
      · exact .inr ⟨k, by omega, h⟩
      · rcases chain_places nx gone k _ _ o h with h | ⟨q, hq, h⟩
        · exact .inl h
        · exact .inr ⟨q, by omega, h⟩
/-- All updates of a drain. -/
def drainU (n t r d b : Int) (gone : Nat → Bool) (X : Nat → Int) : List (Nat × Int) := zerosU (plcs t r d b) ++ (nodesU (ndP t r d b) X (List.range' 0 n.toNat) ++ (chainU (nxOf (ndP t r d b)) gone n.toNat 0 0).1)
theorem drain_ups (n t r d b : Int) (gone : Nat → Bool) (X : Nat → Int) (w : Nat → Int) : drainW n t r d b gone X w = (ups (drainU n t r d b gone X) w, (chainU (nxOf (ndP t r d b)) gone n.toNat 0 0).2) := by
  unfold drainW drainU
  rw [chain_ups, ups_append, ups_append, zeros_ups, nodes_ups]
section
variable {n t r d b g : Int} (h : PF n t r d b g)
include h
theorem nodesU_get (X : Nat → Int) : ∀ (l : List Nat) (w : Nat → Int) (q : Nat), l.Nodup → ups (nodesU (ndP t r d b) X l) w (ndP t r d b + q * 5).toNat = if q ∈ l then X q else w (ndP t r d b + q * 5).toNat
  | [], w, q, _ => by simp [nodesU, ups]
  | p :: l, w, q, hl => by
    have hnd := h.nd; have hct := h.ct; have hhz := h.hz
    rw [nodesU, List.flatMap_cons, ups_append]
    show ups (nodesU (ndP t r d b) X l) _ _ = _
    rw [nodesU_get X l _ q (List.nodup_cons.1 hl).2]
    by_cases hq : q ∈ l
    · rw [if_pos hq, if_pos (List.mem_cons_of_mem _ hq)]
    · rw [if_neg hq]
      by_cases hp : q = p
      · subst hp
        rw [if_pos (by simp)]
        simp only [nodeU, ups, upd, if_true]
      · rw [if_neg (by simp [hp, hq])]
        simp only [nodeU, ups, upd]
        rw [if_neg (by omega), if_neg (by omega), if_neg (by omega), if_neg (by omega)]
/-- A node's state's word behind a drain. -/
theorem drain_state (gone : Nat → Bool) (X : Nat → Int) (w : Nat → Int) (q : Nat) (hq : (q : Int) < n) : (drainW n t r d b gone X w).1 (ndP t r d b + q * 5).toNat = X q := by
  have hnd := h.nd; have hct := h.ct; have hhz := h.hz
  rw [drain_ups]
  show ups (drainU n t r d b gone X) w _ = _
  unfold drainU
  rw [ups_append, ups_append, ups_other _ _ _ (fun hm => by
    rcases chain_places _ _ _ _ _ _ hm with hm | ⟨p, _, hm⟩
    · omega
    · simp only [nxOf] at hm; omega), nodesU_get h X _ _ q (List.nodup_range' (step := 1)), if_pos (by simp only [List.mem_range'_1]; omega)]
/-- The states' words, as a drain makes them; which nodes are gone. -/
def XW (nd g : Int) (w : Nat → Int) : Nat → Int := fun q => stW g (w (nd + q * 5).toNat)
def goneW (nd g : Int) (w : Nat → Int) : Nat → Bool := fun q => (stS g (w (nd + q * 5).toNat)).2.1 == 3
/-- A drain of a region, whatever its words. -/
def drnW (n t r d b g : Int) (w : Nat → Int) : (Nat → Int) × Int := drainW n t r d b (goneW (ndP t r d b) g w) (XW (ndP t r d b) g w) w
theorem drn_wd (w : Nat → Int) (hw : ∀ o, Wd (w o)) : ∀ o, Wd ((drnW n t r d b g w).1 o) := by
  unfold drnW
  rw [drain_ups]
  refine ups_wd _ _ hw fun u hu => ?_
  unfold drainU at hu
  rcases List.mem_append.1 hu with hu | hu
  · simp only [zerosU, List.mem_map] at hu
    obtain ⟨_, _, rfl⟩ := hu
    exact ⟨by simp, by simp⟩
  rcases List.mem_append.1 hu with hu | hu
  · simp only [nodesU, List.mem_flatMap] at hu
    obtain ⟨q, _, hu⟩ := hu
    simp only [nodeU, List.mem_cons, List.not_mem_nil, or_false] at hu
    rcases hu with rfl | rfl | rfl | rfl
    · exact ⟨by simp, by simp⟩
    · exact ⟨by simp, by simp⟩
    · exact ⟨by simp, by simp⟩
    · exact (stW_again h.hg).2
  · exact chain_wd _ _ _ _ _ ⟨by simp, by simp⟩ u hu
/-- A drain of what is drained changes nothing, and tells as many nodes. -/
theorem drn_again (w : Nat → Int) : drnW n t r d b g (drnW n t r d b g w).1 = drnW n t r d b g w := by
  have hX : ∀ q : Nat, (q : Int) < n → XW (ndP t r d b) g (drnW n t r d b g w).1 q = XW (ndP t r d b) g w q ∧ goneW (ndP t r d b) g (drnW n t r d b g w).1 q = goneW (ndP t r d b) g w q := fun q hq => by
    have e : (drnW n t r d b g w).1 (ndP t r d b + q * 5).toNat = stW g (w (ndP t r d b + q * 5).toNat) := drain_state h _ _ w q hq
    have ha := stW_again (g := g) (w := w (ndP t r d b + q * 5).toNat) h.hg
    unfold XW goneW
    rw [e, ha.1]
    exact ⟨congrArg (fun s : Int × Int × Int => s.1 + s.2.1 * 1073741824 + s.2.2 * 4294967296) ha.1, rfl⟩
  have e1 : nodesU (ndP t r d b) (XW (ndP t r d b) g (drnW n t r d b g w).1) (List.range' 0 n.toNat) = nodesU (ndP t r d b) (XW (ndP t r d b) g w) (List.range' 0 n.toNat) := by
    unfold nodesU
    have : ∀ l : List Nat, (∀ q ∈ l, (q : Int) < n) → l.flatMap (nodeU (ndP t r d b) (XW (ndP t r d b) g (drnW n t r d b g w).1)) = l.flatMap (nodeU (ndP t r d b) (XW (ndP t r d b) g w)) := by
      intro l
      induction l with
      | nil => intro _; rfl
      | cons q l ih =>
        intro hl
        rw [List.flatMap_cons, List.flatMap_cons, ih (fun p hp => hl p (by simp [hp]))]
        simp only [nodeU, (hX q (hl q (by simp))).1]
    exact this _ (fun q hq => by simp only [List.mem_range'_1] at hq; omega)
  have e2 : chainU (nxOf (ndP t r d b)) (goneW (ndP t r d b) g (drnW n t r d b g w).1) n.toNat 0 0 = chainU (nxOf (ndP t r d b)) (goneW (ndP t r d b) g w) n.toNat 0 0 := chain_gone _ _ _ _ _ _ fun q hq => (hX q (by omega)).2
  have e3 : drainU n t r d b (goneW (ndP t r d b) g (drnW n t r d b g w).1) (XW (ndP t r d b) g (drnW n t r d b g w).1) = drainU n t r d b (goneW (ndP t r d b) g w) (XW (ndP t r d b) g w) := by
    unfold drainU; rw [e1, e2]
  have e4 : (drnW n t r d b g w).1 = ups (drainU n t r d b (goneW (ndP t r d b) g w) (XW (ndP t r d b) g w)) w := by
    unfold drnW; rw [drain_ups]
  rw [show drnW n t r d b g (drnW n t r d b g w).1 = drainW n t r d b (goneW (ndP t r d b) g (drnW n t r d b g w).1) (XW (ndP t r d b) g (drnW n t r d b g w).1) (drnW n t r d b g w).1 from rfl, drain_ups, e3, e2, e4, ups_again]
  unfold drnW; rw [drain_ups]
end
end Go.Proofs.YtkhjkfbgcpjphaaGreat.Fun
