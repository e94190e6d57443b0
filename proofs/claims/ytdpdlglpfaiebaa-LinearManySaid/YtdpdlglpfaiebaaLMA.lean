/- awake25, and what the law is evaluated with (printed by wip/lmany.py). -/
import Derived.Test.YtdpdlglpfaiebaaMapPrim
import Derived.Test.YtdpdlglpfaiebaaFunTabs
import Derived.Test.YtdpdlglpfaiebaaFunLaw
import Derived.Test.YtdpdlglpfaiebaaFunCut
import Derived.KernelRfl
namespace Go.Proofs.Ytdpdlglpfaiebaa.Fun
open Go
set_option linter.unusedVariables false
theorem obN : ∀ x ∈ ([] : List Ob), x.ok Try.prog := by simp
theorem obE {a b : Bool} {l : List Ob} (h : a = b) (t : ∀ x ∈ l, x.ok Try.prog) : ∀ x ∈ (Ob.eq a b :: l), x.ok Try.prog := fun x hx => by
  rcases List.mem_cons.1 hx with rfl | hx
  · exact h
  · exact t x hx
theorem awake_ok (m : Mu) : CallOk Try.prog 19 [] m (.bool true) m false [] :=
  callOk_sdeep (deepF_ok Auto.tabOk Auto.mixed Auto.fnsOk primsOk 3000 60) (sc := []) (obs := []) (by kernel_rfl) (by simp) rfl rfl m
def awakeA : List DV → Mem → Option (DV × Mem)
  | [], m => some (.bool true, m)
  | _, _ => none
theorem formed_ok (m : Mu) : CallOk Try.prog 28 [.agg [.int .i64 8, .int .i64 0, .int .i64 0, .int .u64 0, .int .u64 0, .int .u64 0]] m (.bool true) m false [] :=
  callOk_sdeep (deepF_ok Auto.tabOk Auto.mixed Auto.fnsOk primsOk 3000 60) (sc := []) (obs := []) (by kernel_rfl) (by simp) rfl rfl m
def formedA : List DV → Mem → Option (DV × Mem)
  | [.agg [.int .i64 8, .int .i64 0, .int .i64 0, .int .u64 0, .int .u64 0, .int .u64 0]], m => some (.bool true, m)
  | _, _ => none
theorem ahead_t {a0 a1 a2 a3 a4 a5 a6 a7 a8 a9 a10 b0 b1 b2 b3 b4 b5 b6 b7 b8 b9 b10 : Int} (h : (a8 != -1) = true) (m : Mu) : CallOk Try.prog 79 [.agg [.int .i64 a0, .int .i64 a1, .int .i64 a2, .int .i64 a3, .int .u64 a4, .int .u64 a5, .int .u64 a6, .int .i64 a7, .int .i64 a8, .int .i64 a9, .int .u64 a10], .agg [.int .i64 b0, .int .i64 b1, .int .i64 b2, .int .i64 b3, .int .u64 b4, .int .u64 b5, .int .u64 b6, .int .i64 b7, .int .i64 b8, .int .i64 b9, .int .u64 b10]] m (.bool (decide (a8 < b7))) m false [] :=
  callOk_sdeep (deepF_ok Auto.tabOk Auto.mixed Auto.fnsOk primsOk 3000 60) (sc := [.way true, .way true, .way true, .way true, .way true, .way true]) (by kernel_rfl) (obE h (obE h (obE h (obE h (obE h (obE h obN)))))) rfl rfl m
theorem ahead_f {a0 a1 a2 a3 a4 a5 a6 a7 a8 a9 a10 b0 b1 b2 b3 b4 b5 b6 b7 b8 b9 b10 : Int} (h : (a8 != -1) = false) (m : Mu) : CallOk Try.prog 79 [.agg [.int .i64 a0, .int .i64 a1, .int .i64 a2, .int .i64 a3, .int .u64 a4, .int .u64 a5, .int .u64 a6, .int .i64 a7, .int .i64 a8, .int .i64 a9, .int .u64 a10], .agg [.int .i64 b0, .int .i64 b1, .int .i64 b2, .int .i64 b3, .int .u64 b4, .int .u64 b5, .int .u64 b6, .int .i64 b7, .int .i64 b8, .int .i64 b9, .int .u64 b10]] m (.bool false) m false [] :=
  callOk_sdeep (deepF_ok Auto.tabOk Auto.mixed Auto.fnsOk primsOk 3000 60) (sc := [.way false, .way false, .way false, .way false, .way false, .way false]) (by kernel_rfl) (obE h (obE h (obE h (obE h (obE h (obE h obN)))))) rfl rfl m
theorem ahead_ok {a0 a1 a2 a3 a4 a5 a6 a7 a8 a9 a10 b0 b1 b2 b3 b4 b5 b6 b7 b8 b9 b10 : Int} (m : Mu) : CallOk Try.prog 79 [.agg [.int .i64 a0, .int .i64 a1, .int .i64 a2, .int .i64 a3, .int .u64 a4, .int .u64 a5, .int .u64 a6, .int .i64 a7, .int .i64 a8, .int .i64 a9, .int .u64 a10], .agg [.int .i64 b0, .int .i64 b1, .int .i64 b2, .int .i64 b3, .int .u64 b4, .int .u64 b5, .int .u64 b6, .int .i64 b7, .int .i64 b8, .int .i64 b9, .int .u64 b10]] m (.bool ((a8 != -1) && decide (a8 < b7))) m false [] := by
  cases h : (a8 != -1) with
  | true => exact ahead_t h m
  | false => exact ahead_f h m
def aheadA : List DV → Mem → Option (DV × Mem)
  | [.agg [.int .i64 a0, .int .i64 a1, .int .i64 a2, .int .i64 a3, .int .u64 a4, .int .u64 a5, .int .u64 a6, .int .i64 a7, .int .i64 a8, .int .i64 a9, .int .u64 a10], .agg [.int .i64 b0, .int .i64 b1, .int .i64 b2, .int .i64 b3, .int .u64 b4, .int .u64 b5, .int .u64 b6, .int .i64 b7, .int .i64 b8, .int .i64 b9, .int .u64 b10]], m => some (.bool ((a8 != -1) && decide (a8 < b7)), m)
  | _, _ => none
def primsL : Prims := fun f => if f = 19 then some awakeA else if f = 28 then some formedA else if f = 79 then some aheadA else prims f
theorem primsL_ok : PrimsOk Try.prog primsL := fun f g args mem d mem' hf hg => by
  unfold primsL at hf
  split at hf
  · rename_i h
    subst h; cases hf
    unfold awakeA at hg
    split at hg
    · cases hg
      exact ⟨by rw [show names mem mem = [] by simp [names]]; exact awake_ok mem.mu, Nat.le_refl _⟩
    · cases hg
  · split at hf
    · rename_i h
      subst h; cases hf
      unfold formedA at hg
      split at hg
      · cases hg
        exact ⟨by rw [show names mem mem = [] by simp [names]]; exact formed_ok mem.mu, Nat.le_refl _⟩
      · cases hg
    · split at hf
      · rename_i h
        subst h; cases hf
        unfold aheadA at hg
        split at hg
        · cases hg
          exact ⟨by rw [show names mem mem = [] by simp [names]]; exact ahead_ok mem.mu, Nat.le_refl _⟩
        · cases hg
      · exact primsOk f g args mem d mem' hf hg
theorem orcL : OrcOk Try.prog (deepF Auto.tab Auto.fns primsL 3000 60) := deepF_ok Auto.tabOk Auto.mixed Auto.fnsOk primsL_ok 3000 60
def callC (i : Nat) : List DV := [.int .i64 0, .int .i64 8, .int .i64 0, .int .i64 0, .int .u64 0, .int .u64 0, .int .u64 0, .int .i64 (2 * i), .int .i64 (2 * i + 1), .int .i64 6, .int .u64 0]
def oddC : List DV := [.int .i64 0, .int .i64 8, .int .i64 0, .int .i64 0, .int .u64 0, .int .u64 0, .int .u64 0, .int .i64 100, .int .i64 101, .int .i64 0, .int .u64 1]
def cellsC (r : Nat) (odd : Bool) : List DV := (List.range r).flatMap callC ++ if odd then oddC else []
/-- Others' cells when the search of n calls stands at level j; the last row of its order is m long. -/
def rowsT (r : Nat) (odd : Bool) (j m : Nat) : List (List DV) :=
  let n := if odd then r + 1 else r
  List.replicate (n - 1) [] ++ [cellsC r odd, [.ents [.int .i64 0] [.agg (if odd then oddC else callC (r - 1))]], List.replicate j (.bool true) ++ List.replicate (n - j) (.bool false), [.vec (n - 1) 0 n 11, .vec (n + 1) 0 n 1, if m = 0 then .nils else .vec (n + 3 + m) 0 j 1], []] ++ (if m = 0 then [] else List.replicate (m - 1) [] ++ [(List.range m).map fun i => .int .i64 i])
def argsT (r : Nat) (odd : Bool) : List DV :=
  let n := if odd then r + 1 else r
  [.adr (n + 2) 0, .agg [.int .i64 2, .int .i64 1, .int .i64 4, .int .i64 0, .int .i64 1, .int .i64 1, .int .i64 0, .emap, .emap, .vec (n + 3) 0 0 3, .int .i64 0]]
section
variable {n how r c : Int} (hn : IntKind.i64.wrap (n.tmod 30) = r) (hh : how.tmod 4 = c)
include hn in
theorem cT (i : Int) (h : i < r) : decide (i < IntKind.i64.wrap (n.tmod 30)) = true := decide_eq_true (by rw [hn]; exact h)
include hn in
theorem cF (i : Int) (h : ¬ i < r) : decide (i < IntKind.i64.wrap (n.tmod 30)) = false := decide_eq_false (by rw [hn]; exact h)
include hh in
theorem eT (i : Int) (h : c = i) : (how.tmod 4 == i) = true := by rw [hh, h]; exact beq_self_eq_true _
include hh in
theorem eF (i : Int) (h : c ≠ i) : (how.tmod 4 == i) = false := by rw [hh]; exact beq_eq_false_iff_ne.2 h
end
end Go.Proofs.Ytdpdlglpfaiebaa.Fun
