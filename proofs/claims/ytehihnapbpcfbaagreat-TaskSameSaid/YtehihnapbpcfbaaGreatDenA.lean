/- The programs of the layers 9 to 13 are those trees. -/
import Derived.Test.YtehihnapbpcfbaaGreatLPs
namespace Go.Proofs.YtehihnapbpcfbaaGreat.Fun
open Go
set_option linter.unusedVariables false
theorem tIG : ThenOk kI kG n_prog_Then_int_alloc_Grant n_prog_Then_int_alloc_Grant_c1 := ⟨w_prog_Then_int_alloc_Grant_1, w_prog_Then_int_alloc_Grant_2, fun h => w_prog_Then_int_alloc_Grant_c1_1 h⟩
theorem tGR : ThenOk kG kR n_prog_Then_alloc_Grant_api_Res n_prog_Then_alloc_Grant_api_Res_c1 := ⟨w_prog_Then_alloc_Grant_api_Res_1, w_prog_Then_alloc_Grant_api_Res_2, fun h => w_prog_Then_alloc_Grant_api_Res_c1_1 h⟩
theorem tIR : ThenOk kI kR n_prog_Then_int_api_Res n_prog_Then_int_api_Res_c1 := ⟨w_prog_Then_int_api_Res_1, w_prog_Then_int_api_Res_2, fun h => w_prog_Then_int_api_Res_c1_1 h⟩
theorem tII : ThenOk kI kI n_prog_Then_int_int n_prog_Then_int_int_c1 := ⟨w_prog_Then_int_int_1, w_prog_Then_int_int_2, fun h => w_prog_Then_int_int_c1_1 h⟩
theorem tNR : ThenOk kN kR n_prog_Then_prog_None_api_Res n_prog_Then_prog_None_api_Res_c1 := ⟨w_prog_Then_prog_None_api_Res_1 (a0 := ⟨⟩), w_prog_Then_prog_None_api_Res_2, fun h => w_prog_Then_prog_None_api_Res_c1_1 h⟩
theorem tRR : ThenOk kR kR n_prog_Then_api_Res_api_Res n_prog_Then_api_Res_api_Res_c1 := ⟨w_prog_Then_api_Res_api_Res_1, w_prog_Then_api_Res_api_Res_2, fun h => w_prog_Then_api_Res_api_Res_c1_1 h⟩
theorem tBI : ThenOk kB kI n_prog_Then_bool_int n_prog_Then_bool_int_c1 := ⟨w_prog_Then_bool_int_1, w_prog_Then_bool_int_2, fun h => w_prog_Then_bool_int_c1_1 h⟩
theorem tUR : ThenOk kU kR n_prog_Then_uint64_api_Res n_prog_Then_uint64_api_Res_c1 := ⟨w_prog_Then_uint64_api_Res_1, w_prog_Then_uint64_api_Res_2, fun h => w_prog_Then_uint64_api_Res_c1_1 h⟩
theorem tWR : ThenOk kW kR n_prog_Then_list_walk_api_Res n_prog_Then_list_walk_api_Res_c1 := ⟨w_prog_Then_list_walk_api_Res_1, w_prog_Then_list_walk_api_Res_2, fun h => w_prog_Then_list_walk_api_Res_c1_1 h⟩
theorem tUW : ThenOk kU kW n_prog_Then_uint64_list_walk n_prog_Then_uint64_list_walk_c1 := ⟨w_prog_Then_uint64_list_walk_1, w_prog_Then_uint64_list_walk_2, fun h => w_prog_Then_uint64_list_walk_c1_1 h⟩
theorem tNU : ThenOk kN kU n_prog_Then_prog_None_uint64 n_prog_Then_prog_None_uint64_c1 := ⟨w_prog_Then_prog_None_uint64_1 (a0 := ⟨⟩), w_prog_Then_prog_None_uint64_2, fun h => w_prog_Then_prog_None_uint64_c1_1 h⟩
theorem tNN : ThenOk kN kN n_prog_Then_prog_None_prog_None n_prog_Then_prog_None_prog_None_c1 := ⟨w_prog_Then_prog_None_prog_None_1 (a0 := ⟨⟩), w_prog_Then_prog_None_prog_None_2, fun h => w_prog_Then_prog_None_prog_None_c1_1 h⟩
theorem tNW : ThenOk kN kW n_prog_Then_prog_None_list_walk n_prog_Then_prog_None_list_walk_c1 := ⟨w_prog_Then_prog_None_list_walk_1 (a0 := ⟨⟩), w_prog_Then_prog_None_list_walk_2, fun h => w_prog_Then_prog_None_list_walk_c1_1 h⟩
theorem tIW : ThenOk kI kW n_prog_Then_int_list_walk n_prog_Then_int_list_walk_c1 := ⟨w_prog_Then_int_list_walk_1, w_prog_Then_int_list_walk_2, fun h => w_prog_Then_int_list_walk_c1_1 h⟩
theorem stI {t : LP Int} {f : FuncId} {c : List DV} {own : Ows} {w : Int} (d : DenC kI t f c own) : DenC kI t n_prog_Store_int_c1 [U w, .ptr [.func f c]] own := d.pass fun _ => w_prog_Store_int_c1_1
theorem stR {t : LP Re} {f : FuncId} {c : List DV} {own : Ows} {w : Int} (d : DenC kR t f c own) : DenC kR t n_prog_Store_api_Res_c1 [U w, .ptr [.func f c]] own := d.pass fun _ => w_prog_Store_api_Res_c1_1
theorem stN {t : LP Non} {f : FuncId} {c : List DV} {own : Ows} {w : Int} (d : DenC kN t f c own) : DenC kN t n_prog_Store_prog_None_c1 [U w, .ptr [.func f c]] own := d.pass fun _ => w_prog_Store_prog_None_c1_1
theorem stG {t : LP Gr} {f : FuncId} {c : List DV} {own : Ows} {w : Int} (d : DenC kG t f c own) : DenC kG t n_prog_Store_alloc_Grant_c1 [U w, .ptr [.func f c]] own := d.pass fun _ => w_prog_Store_alloc_Grant_c1_1
theorem swI {t : LP Int} {f : FuncId} {c : List DV} {own : Ows} {x b : Int} (d : DenC kI t f (.bool (x == b) :: c) own) : DenC kI t n_prog_Swap_int_c1 [U x, .ptr [.func f c], .ptr [U b]] own := d.pass fun _ => w_prog_Swap_int_c1_1
theorem swR {t : LP Re} {f : FuncId} {c : List DV} {own : Ows} {x b : Int} (d : DenC kR t f (.bool (x == b) :: c) own) : DenC kR t n_prog_Swap_api_Res_c1 [U x, .ptr [.func f c], .ptr [U b]] own := d.pass fun _ => w_prog_Swap_api_Res_c1_1
theorem swW {t : LP Wk} {f : FuncId} {c : List DV} {own : Ows} {x b : Int} (d : DenC kW t f (.bool (x == b) :: c) own) : DenC kW t n_prog_Swap_list_walk_c1 [U x, .ptr [.func f c], .ptr [U b]] own := d.pass fun _ => w_prog_Swap_list_walk_c1_1
theorem den_Pop (p : Pl) : ∀ n, DenC kI (popL p n) n_free_Pop [.agg p.cs] []
  | 0 => .cutS fun _ => w_free_Pop_1
  | n + 1 => .acc (fun _ => w_free_Pop_1) fun h => .ite (fun e => .done fun _ => w_free_Pop_c1_2 e) fun e => .acc (fun _ => w_free_Pop_c1_1 e) fun nx => .acc (fun _ => w_free_Pop_c1_c1_1) fun x =>
      swI (.ite (fun e => (den_Pop p n).pass fun _ => w_free_Pop_c1_c1_c1_2 e) fun e => .done fun _ => w_free_Pop_c1_c1_c1_1 e)
theorem den_Push (p : Pl) (k : Int) : ∀ n, DenC kI (pushL p k n) n_free_Push [.agg p.cs, I k] []
  | 0 => by
    cases e : (nextG p k == (-1))
    · exact .cutS fun _ => w_free_Push_1 e
    · exact DenC.cut (.done fun _ => w_free_Push_2 e)
  | n + 1 => .ite (fun e => .done fun _ => w_free_Push_2 e) fun e => .acc (fun _ => w_free_Push_1 e) fun h => .acc (fun _ => w_free_Push_c1_1) fun _ => stI (.acc (fun _ => w_free_Push_c1_c1_1) fun x =>
      swI (.ite (fun e => (den_Push p k n).pass fun _ => w_free_Push_c1_c1_c1_2 e) fun e => .done fun _ => w_free_Push_c1_c1_c1_1 e))
/-- The value of hazard.Set's program. -/
abbrev hsetV (p : Pl) (t i x : Int) : DV := pS kN 1 (hazardG p t i) x 0 n_prog_Store_prog_None_c1 [.ptr [.func n_prog_Set_c1 []]]
theorem den_hset (p : Pl) (t i x : Int) : Den kN (hset p t i x) (hsetV p t i x) [] := ⟨_, _, rfl, fun w => stN (.done fun _ => w_prog_Set_c1_1)⟩
theorem clr0 {a0 : Non} {b0 : Pl} {b1 : Int} {m : Mu} {n : Nat} : PasM kN m n n_hazard_clear [.agg b0.cs, I b1, I 1] m n n_hazard_clear_c1 [.agg (⟨⟩ : Non).cs, .ptr b0.cs, .ptr [I b1], .ptr [I 0]] := w_hazard_clear_c1_1 (a0 := a0) (b2 := 0)
theorem clr1 {a0 : Non} {b0 : Pl} {b1 : Int} {m : Mu} {n : Nat} : PasM kN m n n_hazard_clear [.agg b0.cs, I b1, I 2] m n n_hazard_clear_c1 [.agg (⟨⟩ : Non).cs, .ptr b0.cs, .ptr [I b1], .ptr [I 1]] := w_hazard_clear_c1_1 (a0 := a0) (b2 := 1)
theorem clr2 {a0 : Non} {b0 : Pl} {b1 : Int} {m : Mu} {n : Nat} : PasM kN m n n_hazard_clear [.agg b0.cs, I b1, I 3] m n n_hazard_clear_c1 [.agg (⟨⟩ : Non).cs, .ptr b0.cs, .ptr [I b1], .ptr [I 2]] := w_hazard_clear_c1_1 (a0 := a0) (b2 := 2)
theorem den_Clear (p : Pl) (t : Int) : DenC kN (clearL p t) n_hazard_Clear [.agg p.cs, I t] [] := by
  have h3 : DenC kN (.done ⟨⟩) n_hazard_clear [.agg p.cs, I t, I 3] [] := .done fun _ => w_hazard_clear_2 rfl
  have h2 : DenC kN ((hset p t 2 0).bind fun _ => .done ⟨⟩) n_hazard_clear [.agg p.cs, I t, I 2] [] := .thenS tNN (den_hset ..) (fun r => h3.pass fun _ => clr2 (a0 := ⟨⟩)) fun _ => w_hazard_clear_1 rfl
  have h1 : DenC kN ((hset p t 1 0).bind fun _ => (hset p t 2 0).bind fun _ => .done ⟨⟩) n_hazard_clear [.agg p.cs, I t, I 1] [] := .thenS tNN (den_hset ..) (fun r => h2.pass fun _ => clr1 (a0 := ⟨⟩)) fun _ => w_hazard_clear_1 rfl
  exact DenC.pass (.thenS tNN (den_hset ..) (fun r => h1.pass fun _ => clr0 (a0 := ⟨⟩)) fun _ => w_hazard_clear_1 rfl) fun _ => w_hazard_Clear_1
theorem den_held (p : Pl) (k : Int) : ∀ n i, DenC kB (heldL p k n i) n_hazard_held [.agg p.cs, I k, I i] []
  | 0, i => by
    cases e : (i == w6 (p.qThreads * 3))
    · exact .cutS fun _ => w_hazard_held_1 e
    · exact DenC.cut (.done fun _ => w_hazard_held_2 e)
  | n + 1, i => .ite (fun e => .done fun _ => w_hazard_held_2 e) fun e => .acc (fun _ => w_hazard_held_1 e) fun w => .ite (fun e => .done fun _ => w_hazard_held_c1_2 e) fun e => (den_held p k n _).pass fun _ => w_hazard_held_c1_1 e
theorem den_Held (p : Pl) (k : Int) (n : Nat) : DenC kB (heldL p k n 0) n_hazard_Held [.agg p.cs, I k] [] := (den_held p k n 0).pass fun _ => w_hazard_Held_1
theorem den_guard0 (p : Pl) (t i at_ : Int) : ∀ n w, DenC kU (guardedL p t i at_ 0 n w) n_hazard_guard [.agg p.cs, I t, I i, I at_, I 0, U w] []
  | 0, w => by
    cases e : decide (gnode 0 w < 0)
    · exact DenC.cut (.thenS tNU (φ := fun _ => .cut) (den_hset ..) (fun r => .cutS fun _ => w_hazard_guard_c1_1 (a0 := ⟨⟩)) fun _ => w_hazard_guards0_1 e)
    · exact DenC.cut (.done fun _ => w_hazard_guards0_2 e)
  | n + 1, w => .ite (fun e => .done fun _ => w_hazard_guards0_2 e) fun e => .thenS tNU (den_hset ..) (fun r => .acc (fun _ => w_hazard_guard_c1_1 (a0 := ⟨⟩)) fun again => .ite (fun e => .done fun _ => w_hazard_guard_c1_c1_2 e) fun e => (den_guard0 p t i at_ n again).pass fun _ => w_hazard_guard_c1_c1_1 e) fun _ => w_hazard_guards0_1 e
theorem den_guard1 (p : Pl) (t i at_ : Int) : ∀ n w, DenC kU (guardedL p t i at_ 1 n w) n_hazard_guard [.agg p.cs, I t, I i, I at_, I 1, U w] []
  | 0, w => by
    cases e : decide (gnode 1 w < 0)
    · exact DenC.cut (.thenS tNU (φ := fun _ => .cut) (den_hset ..) (fun r => .cutS fun _ => w_hazard_guard_c1_1 (a0 := ⟨⟩)) fun _ => w_hazard_guards1_1 e)
    · exact DenC.cut (.done fun _ => w_hazard_guards1_2 e)
  | n + 1, w => .ite (fun e => .done fun _ => w_hazard_guards1_2 e) fun e => .thenS tNU (den_hset ..) (fun r => .acc (fun _ => w_hazard_guard_c1_1 (a0 := ⟨⟩)) fun again => .ite (fun e => .done fun _ => w_hazard_guard_c1_c1_2 e) fun e => (den_guard1 p t i at_ n again).pass fun _ => w_hazard_guard_c1_c1_1 e) fun _ => w_hazard_guards1_1 e
theorem den_Guard0 (p : Pl) (t i at_ : Int) (n : Nat) : DenC kU (guardL p t i at_ 0 n) n_hazard_Guard [.agg p.cs, I t, I i, I at_, I 0] [] := .acc (fun _ => w_hazard_Guards0_1) fun w => (den_guard0 p t i at_ n w).pass fun _ => w_hazard_Guard_c1_1
theorem den_Guard1 (p : Pl) (t i at_ : Int) (n : Nat) : DenC kU (guardL p t i at_ 1 n) n_hazard_Guard [.agg p.cs, I t, I i, I at_, I 1] [] := .acc (fun _ => w_hazard_Guards1_1) fun w => (den_guard1 p t i at_ n w).pass fun _ => w_hazard_Guard_c1_1
theorem den_Put (p : Pl) (t k : Int) : DenC kI (rputL p t k) n_retire_Put [.agg p.cs, I t, I k] [] := .acc (fun _ => w_retire_Put_1) fun c => .ite (fun e => .done fun _ => w_retire_Put_c1_2 e) fun e =>
  .acc (fun _ => w_retire_Put_c1_1 e) fun _ => stI (.acc (fun _ => w_retire_Put_c1_c1_1) fun _ => stI (.done fun _ => w_retire_Put_c1_c1_c1_1))
theorem zr0 {b0 : Pl} {b1 : Int} {f : FuncId} {c : List DV} {m : Mu} {n : Nat} : PasM kI m n n_retire_zero [.agg b0.cs, I b1, I 1, .func f c] m n n_retire_zero_c1 [.ptr b0.cs, .ptr [I b1], .ptr [I 0], .ptr [.func f c]] := w_retire_zero_c1_1 (b2 := 0)
theorem zr1 {b0 : Pl} {b1 : Int} {f : FuncId} {c : List DV} {m : Mu} {n : Nat} : PasM kI m n n_retire_zero [.agg b0.cs, I b1, I 2, .func f c] m n n_retire_zero_c1 [.ptr b0.cs, .ptr [I b1], .ptr [I 1], .ptr [.func f c]] := w_retire_zero_c1_1 (b2 := 1)
theorem zr2 {b0 : Pl} {b1 : Int} {f : FuncId} {c : List DV} {m : Mu} {n : Nat} : PasM kI m n n_retire_zero [.agg b0.cs, I b1, I 3, .func f c] m n n_retire_zero_c1 [.ptr b0.cs, .ptr [I b1], .ptr [I 2], .ptr [.func f c]] := w_retire_zero_c1_1 (b2 := 2)
theorem den_Reclaim (p : Pl) (n : Nat) (k : Int) : DenC kI (reclaimL p n k) n_retire_Reclaim [.agg p.cs, I k] [] := by
  have hc : DenC kI (.acc 0 (stateG p k) 0 0 fun w => .acc 1 (stateG p k) (stWordG (freedG (stOfG w).1 p.qGen)) 0 fun _ => cond ((freedG (stOfG w).1 p.qGen).qMode == 3) (.done (-1)) (pushL p k n)) n_retire_Reclaim_c1 [.ptr p.cs, .ptr [I k]] [] :=
    .acc (fun _ => w_retire_Reclaim_c1_1) fun w => .acc (fun _ => w_retire_Reclaim_c1_c1_1) fun _ => stI (.ite (fun e => .done fun _ => w_retire_Reclaim_c1_c1_c1_2 e) fun e => (den_Push p k n).pass fun _ => w_retire_Reclaim_c1_c1_c1_1 e)
  have h3 := DenC.pass hc (f := n_retire_zero) (args := [.agg p.cs, I k, I 3, .func n_retire_Reclaim_c1 [.ptr p.cs, .ptr [I k]]]) fun _ => w_retire_zero_2 rfl
  have h2 : DenC kI _ n_retire_zero [.agg p.cs, I k, I 2, .func n_retire_Reclaim_c1 [.ptr p.cs, .ptr [I k]]] [] := .acc (fun _ => w_retire_zero_1 rfl) fun _ => stI (h3.pass fun _ => zr2)
  have h1 : DenC kI _ n_retire_zero [.agg p.cs, I k, I 1, .func n_retire_Reclaim_c1 [.ptr p.cs, .ptr [I k]]] [] := .acc (fun _ => w_retire_zero_1 rfl) fun _ => stI (h2.pass fun _ => zr1)
  exact DenC.pass (.acc (fun _ => w_retire_zero_1 rfl) fun _ => stI (h1.pass fun _ => zr0)) fun _ => w_retire_Reclaim_1
theorem den_scanned (p : Pl) (t : Int) : ∀ n (s : Scn), DenC kI (scannedL p t n s) n_retire_scanned [.agg p.cs, I t, .agg s.cs] []
  | 0, s => by
    cases e : decide (s.qat < 0)
    · exact .cutS fun _ => w_retire_scanned_1 e
    · exact DenC.cut (.done fun _ => w_retire_scanned_2 e)
  | n + 1, s => .ite (fun e => .done fun _ => w_retire_scanned_2 e) fun e => .acc (fun _ => w_retire_scanned_1 e) fun w => .ite (fun e => (den_scanned p t n _).pass fun _ => w_retire_scanned_c1_3 e) fun e1 =>
      .ite (fun e2 => (den_scanned p t n _).pass fun _ => w_retire_scanned_c1_2 e1 e2) fun e2 => .then_ tBI (den_Held _ _ _) (fun h => .ite (fun e => (den_scanned p t n _).pass fun _ => w_retire_scanned_c1_c1_2 e) fun e =>
        have gone : DenC kI (goneL p t (w6 (s.qleft - 1)) (reclaimL p n (w6 (w6 w - 1))) (scannedL p t n ⟨w6 (s.qat - 1), w6 (s.qleft - 1), w6 (s.qdone + 1)⟩)) n_retire_removed_c1 [.ptr p.cs, .ptr [I t], .ptr [I (w6 (s.qleft - 1))], .ptr [I (w6 (w6 w - 1))], .ptr s.cs] [] :=
          .acc (fun _ => w_retire_removed_c1_1) fun _ => stI (.then_ tII (den_Reclaim _ _ _) (fun r => (den_scanned p t n _).pass fun _ => w_retire_removed_c1_c1_c1_1) fun _ h => w_retire_removed_c1_c1_1 h)
        have rem : DenC kI _ n_retire_removed [.agg p.cs, I t, .agg s.cs, I (w6 (w6 w - 1))] [] := .ite (fun e => gone.pass fun _ => w_retire_removed_2 e) fun e => .acc (fun _ => w_retire_removed_1 e) fun x => .acc (fun _ => w_retire_removed_c2_1) fun _ => stI gone
        rem.pass fun _ => w_retire_scanned_c1_c1_1 e) fun _ h => w_retire_scanned_c1_1 e1 e2 h
theorem den_Scan (p : Pl) (n : Nat) (t : Int) : DenC kI (scanL p n t) n_retire_Scan [.agg p.cs, I t] [] := .acc (fun _ => w_retire_Scan_1) fun c => (den_scanned p t n _).pass fun _ => w_retire_Scan_c1_1
theorem den_grant (p : Pl) (k kind : Int) : DenC kG (grantL p k kind) n_alloc_grant [.agg p.cs, I k, I kind] [] := .acc (fun _ => w_alloc_grant_1) fun w => .acc (fun _ => w_alloc_grant_c1_1) fun _ => stG (.done fun _ => w_alloc_grant_c1_c1_1)
theorem den_anew (p : Pl) (n : Nat) (t kind : Int) : DenC kG (anewL p n t kind) n_alloc_New [.agg p.cs, I t, I kind] [] :=
  .then_ tIG (den_Pop p n) (fun k => .ite (fun e => (den_grant p k kind).pass fun _ => w_alloc_New_c2_2 e) fun e => .then_ tIG (den_Scan p n t) (fun r => .then_ tIG (den_Pop p n) (fun k => .ite (fun e => .done fun _ => w_alloc_New_c1_2 e) fun e => (den_grant p k kind).pass fun _ => w_alloc_New_c1_1 e) fun _ h => w_alloc_New_c2_c1_1 h)
    fun _ h => w_alloc_New_c2_1 e h) fun _ h => w_alloc_New_1 h
theorem den_Stash (p : Pl) (n : Nat) (t k : Int) : DenC kI (stashL p n t k) n_alloc_Stash [.agg p.cs, I t, I k] [] :=
  .then_ tII (den_Put p t k) (fun r => .ite (fun e => .done fun _ => w_alloc_Stash_c2_2 e) fun e => .then_ tII (den_Scan p n t) (fun r => .then_ tII (den_Put p t k) (fun r => .ite (fun e => .done fun _ => w_alloc_Stash_c1_2 e) fun e => .done fun _ => w_alloc_Stash_c1_1 e) fun _ h => w_alloc_Stash_c2_c1_1 h)
    fun _ h => w_alloc_Stash_c2_1 e h) fun _ h => w_alloc_Stash_1 h
theorem den_aretire (p : Pl) (n : Nat) (t k : Int) : DenC kI (aretireL p n t k) n_alloc_Retire [.agg p.cs, I t, I k] [] := .acc (fun _ => w_alloc_Retire_1) fun w => .acc (fun _ => w_alloc_Retire_c1_1) fun _ => stI ((den_Stash p n t k).pass fun _ => w_alloc_Retire_c1_c1_1)
section
variable (s : Se)
theorem den_New (n : Nat) : DenC kR (newL s n) n_check_New [.agg s.cs] [] := .ite (fun e => .done fun _ => w_check_New_2 e) fun e => .then_ tGR (den_anew _ _ _ _) (fun g => .ite (fun e => .done fun _ => w_check_New_c1_2 e) fun e => .done fun _ => w_check_New_c1_1 e) fun _ h => w_check_New_1 e h
theorem den_Drop (n : Nat) (w : Int) : DenC kR (dropL s n w) n_check_Drop [.agg s.cs, U w] [] := .ite (fun e => .done fun _ => w_check_Drop_3 e) fun e => .ite (fun e1 => .done fun _ => w_check_Drop_2 e e1) fun e1 => .acc (fun _ => w_check_Drop_1 e e1) fun x =>
  .ite (fun e => .done fun _ => w_check_Drop_c1_2 e) fun e => .acc (fun _ => w_check_Drop_c1_1 e) fun y => swR (.ite (fun e => .done fun _ => w_check_Drop_c1_c1_2 e) fun e => .then_ tIR (den_Stash _ _ _ _) (fun r => .done fun _ => w_check_Drop_c1_c1_c1_1) fun _ h => w_check_Drop_c1_c1_1 e h)
theorem den_hleave (r : Re) : DenC kR (hleaveL s r) n_check_look_c1 [.agg r.cs, .ptr s.cs] [] := .thenS tNR (den_hset ..) (fun _ => .done fun _ => w_check_look_c1_c1_1 (a0 := ⟨⟩)) fun _ => w_check_look_c1_1
theorem den_look (w f : Int) (go : Int → (Int → LP Re) → LP Re) {g : FuncId} {c : List DV} (hgo : ∀ (a : Int) (next : Int → LP Re) (f' : FuncId) (c' : List DV), (∀ v, DenC kR (next v) f' (U v :: c') []) → DenC kR (go a next) g (I a :: .func f' c' :: c) []) :
    DenC kR (lookL s w f go) n_check_look [.agg s.cs, U w, I f, .func g c] [] :=
  .ite (fun e => .done fun _ => w_check_look_5 e) fun e => .ite (fun e1 => .done fun _ => w_check_look_4 e e1) fun e1 => .ite (fun e2 => .done fun _ => w_check_look_3 e e1 e2) fun e2 => .ite (fun e3 => .done fun _ => w_check_look_2 e e1 e2 e3) fun e3 =>
  .acc (fun _ => w_check_look_1 e e1 e2 e3) fun x => .ite (fun e => .done fun _ => w_check_look_c2_2 e) fun e => .thenS tNR (den_hset ..) (fun _ => .acc (fun _ => w_check_look_c2_c1_1 (a0 := ⟨⟩)) fun x =>
    .ite (fun e => (den_hleave s ⟨3, 0⟩).pass fun _ => w_check_look_c2_c1_c1_2 e) fun e => (hgo _ _ n_check_look_c2_c1_c1_c1 [.ptr [.func n_check_look_c1 [.ptr s.cs]]] fun v => (den_hleave s ⟨0, v⟩).pass fun _ => w_check_look_c2_c1_c1_c1_1).pass fun _ => w_check_look_c2_c1_c1_1 e) fun _ => w_check_look_c2_1 e
theorem den_Read (w f : Int) : DenC kR (readL s w f) n_check_Read [.agg s.cs, U w, I f] [] := (den_look s w f _ fun a next f' c' h => .acc (fun _ => w_check_Read_c1_1) h).pass fun _ => w_check_Read_1
theorem den_Write (w f v : Int) : DenC kR (writeL s w f v) n_check_Write [.agg s.cs, U w, I f, U v] [] := (den_look s w f _ fun a next f' c' h => .acc (fun _ => w_check_Write_c1_1) fun _ => stR ((h 0).pass fun _ => w_check_Write_c1_c1_1)).pass fun _ => w_check_Write_1
theorem den_Swap (w f was v : Int) : DenC kR (swapL s w f was v) n_check_Swap [.agg s.cs, U w, I f, U was, U v] [] := (den_look s w f _ fun a next f' c' h => .acc (fun _ => w_check_Swap_c1_1) fun x => swR (.ite (fun e => (h 1).pass fun _ => w_check_Swap_c1_c1_2 e) fun e => (h 0).pass fun _ => w_check_Swap_c1_c1_1 e)).pass fun _ => w_check_Swap_1
end
end Go.Proofs.YtehihnapbpcfbaaGreat.Fun
