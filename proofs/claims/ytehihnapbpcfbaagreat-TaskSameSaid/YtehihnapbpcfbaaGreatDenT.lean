/- Lists, maps, domains, operations: their programs, as trees, and that they are. -/
import Derived.Test.YtehihnapbpcfbaaGreatDenW
namespace Go.Proofs.YtehihnapbpcfbaaGreat.Fun
open Go
set_option linter.unusedVariables false
section
variable (s : Se)
def leaveL (r : Re) : LP Re := (clearL s.qP s.qThread).bind fun _ => .done r
def putL (cell k nd : Int) : Nat → LP Re
  | 0 => .cut
  | n + 1 => (findL s cell k n).bind fun f => cond f.qthere ((clearL s.qP s.qThread).bind fun _ => (reclaimL s.qP n nd).bind fun _ => .done ⟨7, 0⟩)
      (.acc 1 (fieldG s.qP nd 2) f.qcur 0 fun _ => .acc 2 f.qplace f.qcur (lword nd) fun x => cond (!(x == f.qcur)) (putL cell k nd n) (leaveL s ⟨0, 0⟩))
def laddL (cell k v : Int) (n : Nat) : LP Re := (anewL s.qP n s.qThread 2).bind fun g => cond (g.qE != 0) (.done ⟨g.qE, 0⟩) (.acc 1 (fieldG s.qP g.qNode 0) k 0 fun _ => .acc 1 (fieldG s.qP g.qNode 1) v 0 fun _ => putL s cell k g.qNode n)
def lgetL (cell k : Int) (n : Nat) : LP Re := (findL s cell k n).bind fun f => cond (!f.qthere) (leaveL s ⟨6, 0⟩) (.acc 0 (fieldG s.qP (lnode f.qcur) 1) 0 0 fun v => leaveL s ⟨0, v⟩)
def ldelL (cell k : Int) : Nat → LP Re
  | 0 => .cut
  | n + 1 => (findL s cell k n).bind fun f => cond (!f.qthere) (leaveL s ⟨6, 0⟩) (.acc 0 (fieldG s.qP (lnode f.qcur) 1) 0 0 fun v => .acc 2 (fieldG s.qP (lnode f.qcur) 2) f.qnext (remark f.qnext) fun x => cond (!(x == f.qnext)) (ldelL cell k n)
      (.acc 2 f.qplace f.qcur f.qnext fun y => cond (y == f.qcur) ((aretireL s.qP n s.qThread (lnode f.qcur)).bind fun _ => leaveL s ⟨0, v⟩) ((walkL n false f).bind fun _ => leaveL s ⟨0, v⟩)))
theorem den_leave (r : Re) : DenC kR (leaveL s r) n_list_leave [.agg s.cs, .agg r.cs] [] := .then_ tNR (den_Clear _ _) (fun _ => .done fun _ => w_list_leave_c1_1 (a0 := ⟨⟩)) fun _ h => w_list_leave_1 h
theorem put_dup (n : Nat) (nd cell k : Int) (f : Wk) (e : f.qthere = true) : DenC kR ((clearL s.qP s.qThread).bind fun _ => (reclaimL s.qP n nd).bind fun _ => .done ⟨7, 0⟩) n_list_put_c1 [.agg f.cs, .ptr s.cs, .ptr [I nd], .ptr [I cell], .ptr [U k]] [] :=
  .then_ tNR (den_Clear _ _) (fun _ => .then_ tIR (den_Reclaim _ _ _) (fun _ => .done fun _ => w_list_put_c1_c1_c1_1) fun _ h => w_list_put_c1_c1_1 (a0 := ⟨⟩) h) fun _ h => w_list_put_c1_2 e h
theorem den_put (cell k nd : Int) : ∀ n, DenC kR (putL s cell k nd n) n_list_put [.agg s.cs, I cell, U k, I nd] []
  | 0 => DenC.cut (DenC.then_ tWR (φ := fun _ => .cut) (den_find s cell k 0) (fun f => by
      cases e : f.qthere
      · exact .cutS fun _ => w_list_put_c1_1 e
      · exact DenC.cut (put_dup s 0 nd cell k f e)) fun _ h => w_list_put_1 h)
  | n + 1 => .then_ tWR (den_find s cell k n) (fun f => .ite (fun e => put_dup s n nd cell k f e) fun e => .acc (fun _ => w_list_put_c1_1 e) fun _ => stR (.acc (fun _ => w_list_put_c1_c2_1) fun x =>
      swR (.ite (fun e => (den_put cell k nd n).pass fun _ => w_list_put_c1_c2_c1_2 e) fun e => (den_leave s _).pass fun _ => w_list_put_c1_c2_c1_1 e))) fun _ h => w_list_put_1 h
theorem den_ladd (cell k v : Int) (n : Nat) : DenC kR (laddL s cell k v n) n_list_Add [.agg s.cs, I cell, U k, U v] [] :=
  .then_ tGR (den_anew _ _ _ _) (fun g => .ite (fun e => .done fun _ => w_list_Add_c1_2 e) fun e => .acc (fun _ => w_list_Add_c1_1 e) fun _ => stR (.acc (fun _ => w_list_Add_c1_c1_1) fun _ => stR ((den_put s cell k _ n).pass fun _ => w_list_Add_c1_c1_c1_1))) fun _ h => w_list_Add_1 h
theorem den_lget (cell k : Int) (n : Nat) : DenC kR (lgetL s cell k n) n_list_Get [.agg s.cs, I cell, U k] [] :=
  .then_ tWR (den_find s cell k n) (fun f => .ite (fun e => (den_leave s _).pass fun _ => w_list_Get_c1_2 e) fun e => .acc (fun _ => w_list_Get_c1_1 e) fun v => (den_leave s _).pass fun _ => w_list_Get_c1_c1_1) fun _ h => w_list_Get_1 h
theorem den_ldel (cell k : Int) : ∀ n, DenC kR (ldelL s cell k n) n_list_Del [.agg s.cs, I cell, U k] []
  | 0 => DenC.cut (DenC.then_ tWR (φ := fun _ => .cut) (den_find s cell k 0) (fun f => by
      cases e : (!f.qthere)
      · exact .cutS fun _ => w_list_Del_c1_1 e
      · exact DenC.cut ((den_leave s _).pass fun _ => w_list_Del_c1_2 e)) fun _ h => w_list_Del_1 h)
  | n + 1 => .then_ tWR (den_find s cell k n) (fun f => .ite (fun e => (den_leave s _).pass fun _ => w_list_Del_c1_2 e) fun e => .acc (fun _ => w_list_Del_c1_1 e) fun v => .acc (fun _ => w_list_Del_c1_c1_1) fun x =>
      swR (.ite (fun e => (den_ldel cell k n).pass fun _ => w_list_Del_c1_c1_c1_2 e) fun e =>
        have dl : DenC kR _ n_list_deleted [.agg s.cs, .agg f.cs, U v] [] := .acc (fun _ => w_list_deleted_1) fun y => swR (.ite (fun e => .then_ tIR (den_aretire _ _ _ _) (fun r => (den_leave s ⟨0, v⟩).pass fun _ => w_list_deleted_c1_c1_1) fun _ h => w_list_deleted_c1_2 e h) fun e =>
          .then_ tWR (((walk_den n).2 f).pass fun _ => w_list_walk_anew_1) (fun r => (den_leave s ⟨0, v⟩).pass fun _ => w_list_deleted_c1_c2_1) fun _ h => w_list_deleted_c1_1 e h)
        dl.pass fun _ => w_list_Del_c1_c1_c1_1 e)) fun _ h => w_list_Del_1 h
/-! #### dict -/
theorem formed_b {p : Pl} (h : formedG p = true) : 1 ≤ p.qBuckets ∧ p.qBuckets ≤ 256 := by
  unfold formedG at h
  simp only [Bool.cond_eq_ite] at h
  repeat' split at h
  all_goals first | (cases h; done) | skip
  all_goals simp_all
  all_goals omega
theorem formed_ne {p : Pl} (h : (!(formedG p)) = false) : decide (wu p.qBuckets ≠ 0) = true := by
  have hb := formed_b (p := p) (by simpa using h)
  refine decide_eq_true ?_
  have : wu p.qBuckets = p.qBuckets := by
    show IntKind.u64.wrap p.qBuckets = _
    simp only [IntKind.wrap, IntKind.signed, IntKind.bits]
    simp
    omega
  omega
def dcell (d k : Int) : Int := cond (!(formedG s.qP)) (-1) (cellG s.qP d (w6 (Int.tmod k (wu s.qP.qBuckets))))
theorem den_dadd (d k v : Int) (n : Nat) : DenC kR (laddL s (dcell s d k) k v n) n_dict_Add [.agg s.cs, I d, U k, U v] [] := by
  unfold dcell
  cases e : (!(formedG s.qP))
  · exact (den_ladd s _ k v n).pass fun _ => w_dict_Add_1 e (formed_ne e)
  · exact (den_ladd s _ k v n).pass fun _ => w_dict_Add_2 e
theorem den_dget (d k : Int) (n : Nat) : DenC kR (lgetL s (dcell s d k) k n) n_dict_Get [.agg s.cs, I d, U k] [] := by
  unfold dcell
  cases e : (!(formedG s.qP))
  · exact (den_lget s _ k n).pass fun _ => w_dict_Get_1 e (formed_ne e)
  · exact (den_lget s _ k n).pass fun _ => w_dict_Get_2 e
theorem den_ddel (d k : Int) (n : Nat) : DenC kR (ldelL s (dcell s d k) k n) n_dict_Del [.agg s.cs, I d, U k] [] := by
  unfold dcell
  cases e : (!(formedG s.qP))
  · exact (den_ldel s _ k n).pass fun _ => w_dict_Del_1 e (formed_ne e)
  · exact (den_ldel s _ k n).pass fun _ => w_dict_Del_2 e
/-! #### domain -/
def namedL (kind d : Int) : LP Re := .acc 1 (kindG s.qP d) (wu kind) 0 fun _ => .done ⟨0, wu d⟩
def claimL (kind : Int) : Nat → Int → LP Re
  | 0, _ => .cut
  | n + 1, d => cond (d == s.qP.qDomains) (.done ⟨8, 0⟩) (.acc 0 (kindG s.qP d) 0 0 fun w => cond (w != 0) (claimL kind n (w6 (d + 1))) (.acc 2 (kindG s.qP d) 0 3 fun x => cond (!(x == 0)) (claimL kind n (w6 (d + 1)))
      (cond (kind == 2) (namedL s kind d) ((qmakeL (whereL s d) n).bind fun r => cond (r.qE != 0) (.acc 1 (kindG s.qP d) 0 0 fun _ => .done ⟨r.qE, 0⟩) (namedL s kind d)))))
theorem den_named (kind d : Int) : DenC kR (namedL s kind d) n_domain_named [.agg s.cs, I kind, I d] [] := .acc (fun _ => w_domain_named_1) fun _ => stR (.done fun _ => w_domain_named_c1_1)
theorem den_claim (kind : Int) : ∀ n d, DenC kR (claimL s kind n d) n_domain_claim [.agg s.cs, I kind, I d] []
  | 0, d => by
    cases e : (d == s.qP.qDomains)
    · exact .cutS fun _ => w_domain_claim_1 e
    · exact DenC.cut (.done fun _ => w_domain_claim_2 e)
  | n + 1, d => .ite (fun e => .done fun _ => w_domain_claim_2 e) fun e => .acc (fun _ => w_domain_claim_1 e) fun w => .ite (fun e => (den_claim kind n _).pass fun _ => w_domain_claim_c1_2 e) fun e => .acc (fun _ => w_domain_claim_c1_1 e) fun x =>
      swR (.ite (fun e => (den_claim kind n _).pass fun _ => w_domain_claim_c1_c1_3 e) fun e => .ite (fun e1 => (den_named s kind d).pass fun _ => w_domain_claim_c1_c1_2 e e1) fun e1 => .then_ tRR (den_qmake s d n) (fun r => .ite (fun e => .acc (fun _ => w_domain_claim_c1_c1_c1_2 e) fun _ => stR (.done fun _ => w_domain_claim_c1_c1_c1_c1_1))
        fun e => (den_named s kind d).pass fun _ => w_domain_claim_c1_c1_c1_1 e) fun _ h => w_domain_claim_c1_c1_1 e e1 h)
theorem den_make1 (n : Nat) : DenC kR (claimL s 1 n 0) n_domain_Make [.agg s.cs, I 1] [] := (den_claim s 1 n 0).pass fun _ => w_domain_Make_1 rfl
theorem den_make2 (n : Nat) : DenC kR (claimL s 2 n 0) n_domain_Make [.agg s.cs, I 2] [] := (den_claim s 2 n 0).pass fun _ => w_domain_Make_2 rfl rfl
def use1 (d kind : Int) (p : LP Re) : LP Re := cond (kindG s.qP d == -1) (.done ⟨6, 0⟩) (.acc 0 (kindG s.qP d) 0 0 fun w => cond (w != wu kind) (.done ⟨6, 0⟩) p)
def useL (o : Ope) (n : Nat) : LP Re :=
  cond (o.qCode == 7) (use1 s o.qD 1 (enqL (whereL s o.qD) n o.qA)) (cond (o.qCode == 8) (use1 s o.qD 1 (takeL (whereL s o.qD) n)) (cond (o.qCode == 10) (use1 s o.qD 2 (laddL s (dcell s o.qD o.qA) o.qA o.qB n))
    (cond (o.qCode == 11) (use1 s o.qD 2 (lgetL s (dcell s o.qD o.qA) o.qA n)) (cond (o.qCode == 12) (use1 s o.qD 2 (ldelL s (dcell s o.qD o.qA) o.qA n)) (.done ⟨2, 0⟩)))))
theorem use_c {kind w : Int} {p : LP Re} {f : FuncId} {c : List DV} (h : DenC kR p f c []) : DenC kR (cond (w != wu kind) (.done ⟨6, 0⟩) p) n_domain_Use_c1 [U w, .ptr [I kind], .ptr [.func f c]] [] :=
  .ite (fun e => .done fun _ => w_domain_Use_c1_2 e) fun e => h.pass fun _ => w_domain_Use_c1_1 e
theorem den_use (o : Ope) (n : Nat) : DenC kR (useL s o n) n_domain_Use [.agg s.cs, .agg o.cs] [] :=
  .ite (fun e7 => .ite (fun e => .done fun _ => w_domain_Use_11 e7 e) fun e => .acc (fun _ => w_domain_Use_10 e7 e) fun w => use_c ((den_enq s o.qD o.qA n).pass fun _ => w_domain_asked_c1_1)) fun e7 =>
  .ite (fun e8 => .ite (fun e => .done fun _ => w_domain_Use_9 e7 e8 e) fun e => .acc (fun _ => w_domain_Use_8 e7 e8 e) fun w => use_c ((den_deq s o.qD n).pass fun _ => w_domain_asked_c2_1)) fun e8 =>
  .ite (fun e10 => .ite (fun e => .done fun _ => w_domain_Use_7 e7 e8 e10 e) fun e => .acc (fun _ => w_domain_Use_6 e7 e8 e10 e) fun w => use_c ((den_dadd s o.qD o.qA o.qB n).pass fun _ => w_domain_asked_c3_1)) fun e10 =>
  .ite (fun e11 => .ite (fun e => .done fun _ => w_domain_Use_5 e7 e8 e10 e11 e) fun e => .acc (fun _ => w_domain_Use_4 e7 e8 e10 e11 e) fun w => use_c ((den_dget s o.qD o.qA n).pass fun _ => w_domain_asked_c4_1)) fun e11 =>
  .ite (fun e12 => .ite (fun e => .done fun _ => w_domain_Use_3 e7 e8 e10 e11 e12 e) fun e => .acc (fun _ => w_domain_Use_2 e7 e8 e10 e11 e12 e) fun w => use_c ((den_ddel s o.qD o.qA n).pass fun _ => w_domain_asked_c5_1)) fun e12 =>
  .done fun _ => w_domain_Use_1 e7 e8 e10 e11 e12
/-! #### task -/
def doL (o : Ope) (n : Nat) : LP Re :=
  cond (!(opG o)) (.done ⟨2, 0⟩) (cond (o.qCode == 1) (newL s n) (cond (o.qCode == 2) (dropL s n o.qH) (cond (o.qCode == 3) (readL s o.qH o.qF) (cond (o.qCode == 4) (writeL s o.qH o.qF o.qA) (cond (o.qCode == 5) (swapL s o.qH o.qF o.qA o.qB)
    (cond (o.qCode == 6) (claimL s 1 n 0) (cond (o.qCode == 9) (claimL s 2 n 0) (useL s o n))))))))
theorem den_do (o : Ope) (n : Nat) : DenC kR (doL s o n) n_task_Do [.agg s.cs, .agg o.cs] [] :=
  .ite (fun e => .done fun _ => w_task_Do_9 e) fun e => .ite (fun e1 => (den_New s n).pass fun _ => w_task_Do_8 e e1) fun e1 => .ite (fun e2 => (den_Drop s n o.qH).pass fun _ => w_task_Do_7 e e1 e2) fun e2 =>
  .ite (fun e3 => (den_Read s o.qH o.qF).pass fun _ => w_task_Do_6 e e1 e2 e3) fun e3 => .ite (fun e4 => (den_Write s o.qH o.qF o.qA).pass fun _ => w_task_Do_5 e e1 e2 e3 e4) fun e4 => .ite (fun e5 => (den_Swap s o.qH o.qF o.qA o.qB).pass fun _ => w_task_Do_4 e e1 e2 e3 e4 e5) fun e5 =>
  .ite (fun e6 => (den_make1 s n).pass fun _ => w_task_Do_3 e e1 e2 e3 e4 e5 e6) fun e6 => .ite (fun e9 => (den_make2 s n).pass fun _ => w_task_Do_2 e e1 e2 e3 e4 e5 e6 e9) fun e9 => (den_use s o n).pass fun _ => w_task_Do_1 e e1 e2 e3 e4 e5 e6 e9
end
end Go.Proofs.YtehihnapbpcfbaaGreat.Fun
