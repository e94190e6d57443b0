/- cubiclelaw23.awake. (208, 212, 125, 63: numbers.) -/
import Derived.Test.YtpckjfncecoibaaGreatFunFast
import Derived.Test.YtpckjfncecoibaaGreatChanStr
import Derived.Test.YtpckjfncecoibaaGreatNoteOk
namespace Go.Proofs.YtpckjfncecoibaaGreat.Fun
open Go
set_option linter.unusedVariables false
def putSA : List DV → Mem → Option (DV × Mem)
  | [b, .str x], mem => putA [b, .str x] mem
  | _, _ => none
theorem putSA_ok (args : List DV) (mem : Mem) (d : DV) (mem' : Mem) (h : putSA args mem = some (d, mem')) : CallOk Tryz.prog 208 args mem.mu d mem'.mu false (names mem mem') ∧ mem.size ≤ mem'.size := by
  unfold putSA at h
  split at h
  · exact putA_ok putS _ _ _ _ (fun b x e => by
      simp only [List.cons.injEq, and_true] at e
      rw [← e.2]; rfl) h
  · cases h
def primsB : Prims := fun f => if f = 208 then some putSA else if f = 212 then some (takeA (.str ⟨#[]⟩)) else if f = 125 then some noteA else none
theorem primsB_ok : PrimsOk Tryz.prog primsB := fun f g args mem d mem' hf hg => by
  unfold primsB at hf
  split at hf
  · rename_i e; subst e; cases hf; exact putSA_ok _ _ _ _ hg
  · split at hf
    · rename_i e; subst e; cases hf; exact takeA_ok takeS _ _ _ _ hg
    · split at hf
      · rename_i e; subst e; cases hf; exact noteA_ok _ _ _ _ hg
      · cases hf
theorem orcB : OrcOk Tryz.prog (deepF Auto.tab Auto.fns primsB 3000 60) := deepF_ok Auto.tabOk (by kernel_rfl) Auto.fnsOk primsB_ok 3000 60
theorem awakeH_ok (m : Mu) : CallOk Tryz.prog 63 [] m (.bool true) m false [] :=
  callOk_sdeep orcB (sc := []) (obs := []) (by kernel_rfl) (by simp) rfl rfl m
end Go.Proofs.YtpckjfncecoibaaGreat.Fun
