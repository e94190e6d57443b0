/- The walk of a find, with the blocks that it has for itself. -/
import Derived.Test.YtehihnapbpcfbaaGreatDenB
namespace Go.Proofs.YtehihnapbpcfbaaGreat.Fun
open Go
set_option linter.unusedVariables false
section
variable {R : Type} {K : Kn R}
theorem DC.new {Q : DV → Ows → Prop} {f : FuncId} {args : List DV} (pv : Nat → DV) (M : Mu → Nat → Mu) (h : ∀ {m n}, Cm f args m n (pv n) (M m n) (n + 1)) (hk : ∀ m n b, b < n → ∀ o, M m n b o = m b o) (hq : ∀ n, Q (pv n) []) : DC Q f args [] :=
  fun n hn => ⟨pv n, [], n + 1, by omega, .nil, fun x hx => (by cases hx), fun m hm => ⟨_, h, fun x hx => (by cases hx), fun b hb ho o => hk m n b hb o⟩, hq n⟩
theorem DC.chg {Q : DV → Ows → Prop} {f : FuncId} {args : List DV} {own : Ows} {pv : DV} (M : Mu → Mu) (h : ∀ {m n}, own.at m → Cm f args m n pv (M m) n) (hk : ∀ m b, (∀ x ∈ own, x.1 ≠ b) → ∀ o, M m b o = m b o) (hq : Q pv []) : DC Q f args own :=
  fun n hn => ⟨pv, [], n, Nat.le_refl _, .nil, fun x hx => (by cases hx), fun m hm => ⟨_, h hm, fun x hx => (by cases hx), fun b hb ho o => hk m b ho o⟩, hq⟩
end
theorem one_has {g : Nat} {cs : List DV} {m : Mu} (h : Ows.at [(g, cs)] m) : Has m g cs := h _ (List.mem_singleton.2 rfl)
theorem one_keep {g : Nat} {cs : List DV} (k : Nat) (ds : List DV) (m : Mu) (b : Nat) (h : ∀ x ∈ [(g, cs)], x.1 ≠ b) (o : Nat) : updMu m g k ds b o = m b o := by
  rw [updMu_get, if_neg (fun q => h _ (List.mem_singleton.2 rfl) q.1.symm)]
theorem none_at (m : Mu) : Ows.at [] m := fun x hx => by cases hx
theorem new_keep (ds : List DV) (k : Nat) (m : Mu) (n b : Nat) (hb : b < n) (o : Nat) : updMu m n k ds b o = m b o := by
  rw [updMu_get, if_neg (fun q => by omega)]
theorem den_lset (f : Wk) (i k : Int) {next : LP Wk} {g : FuncId} {c : List DV} {own : Ows} (h : DenC kW next g c own) : DenC kW (lsetL f i (hw k) next) n_list_walk_set [.agg f.cs, I i, I k, .func g c] own :=
  .thenS tNW (den_hset ..) (fun _ => h.pass fun _ => w_list_walk_set_c1_1 (a0 := ⟨⟩)) fun _ => w_list_walk_set_1
theorem den_lset_b (f : Wk) (i k : Int) {next : LP Wk} {g : FuncId} {c : List DV} {own : Ows} (h : DenC kW next g (c ++ []) own) : DenC kW (lsetL f i (hw k) next) n_list_walk_set [.agg f.cs, I i, I k, .bnd g c] own :=
  .thenS tNW (den_hset ..) (fun _ => h.pass fun _ => w_list_walk_set_c1_b_1 (a0 := ⟨⟩)) fun _ => w_list_walk_set_b_1
theorem stepCut (f : Wk) : DenC kW .cut n_list_walk_step [.agg f.cs] [] := by
  cases e : decide (lnode f.qcur < 0)
  · exact DC.new _ (fun m n => updMu m n 0 f.cs) (w_list_walk_step_1 e) (fun m n b hb o => new_keep _ _ _ _ _ hb _) fun n => .inr ⟨_, _, _, _, _, _, rfl⟩
  · exact DC.new (fun _ => _) (fun m n => updMu (updMu m n 0 f.cs) n 13 [.bool false]) (w_list_walk_step_2 e) (fun m n b hb o => by rw [new_keep _ _ _ _ _ hb, new_keep _ _ _ _ _ hb]) fun n => .inl ⟨_, rfl⟩
theorem findCut (f : Wk) : DenC kW .cut n_list_find [.agg f.qSeat.cs, I f.qcell, U f.qk] [] :=
  DenC.cut (DenC.then_ tUW (φ := fun _ => .cut) (den_Guard1 f.p f.t 1 f.qcell 0) (fun w => (stepCut _).pass fun _ => w_list_find_c1_1) fun _ h => w_list_find_1 h)
theorem walk_den : ∀ n, (∀ f : Wk, DenC kW (walkL n true f) n_list_walk_step [.agg f.cs] []) ∧ (∀ f : Wk, DenC kW (walkL n false f) n_list_find [.agg f.qSeat.cs, I f.qcell, U f.qk] [])
  | 0 => ⟨stepCut, findCut⟩
  | n + 1 => by
    obtain ⟨ihs, ihf⟩ := walk_den n
    refine ⟨fun f => ?_, fun f => DenC.then_ tUW (den_Guard1 f.p f.t 1 f.qcell n) (fun w => (ihs _).pass fun _ => w_list_find_c1_1) fun _ h => w_list_find_1 h⟩
    have anew : ∀ f : Wk, DenC kW (walkL n false f) n_list_walk_anew [.agg f.cs] [] := fun f => (ihf f).pass fun _ => w_list_walk_anew_1
    have anewO : ∀ (f : Wk) (g : Nat) (cs : List DV), DenC kW (walkL n false f) n_list_walk_anew [.agg f.cs] [(g, cs)] := fun f g cs => DC.more (anew f) (fun x hx => by cases hx)
    have on : ∀ (f : Wk) (k : Int), DenC kW (lsetL f 2 (hw k) (lsetL f 1 (hw (lnode f.qnext)) (walkL n true ⟨f.qSeat, f.qcell, f.qk, fieldG f.p k 2, f.qnext, f.qnext, f.qthere⟩))) n_list_walk_on [.agg f.cs, I k] [] := fun f k =>
      DC.makes (cs := f.cs) (fun g => den_lset f 2 k (own := [(g, f.cs)]) (DenC.pass (den_lset f 1 (lnode f.qnext) (own := [(g, f.cs)])
        (DC.goes (M := fun m => updMu (updMu m g 10 [I (fieldG f.p k 2)]) g 11 [U f.qnext]) (ihs _) (fun hO => w_list_walk_on_c1_c1_1 (one_has hO)) (fun _ _ => none_at _) (fun m b h o => by rw [one_keep 11 _ _ b h, one_keep 10 _ _ b h]) (fun x hx => by cases hx)))
        fun hO => w_list_walk_on_c1_1 (one_has hO))) w_list_walk_on_1
    have unl : ∀ (f : Wk) (k : Int), DenC kW (.acc 2 f.qplace f.qcur (unmark f.qnext) fun y => cond (!(y == f.qcur)) (walkL n false f) ((aretireL f.p n f.t k).bind fun _ => lsetL f 1 (hw (lnode (unmark f.qnext))) (walkL n true ⟨f.qSeat, f.qcell, f.qk, f.qplace, unmark f.qnext, f.qnext, f.qthere⟩))) n_list_walk_unlinked [.agg f.cs, I k] [] := fun f k =>
      .accN (cs := f.cs) w_list_walk_unlinked_1 fun g y => swW (.ite (fun e => (anewO f g _).pass fun hO => w_list_walk_unlinked_c1_2 (one_has hO) e) fun e => .then_ tIW (den_aretire _ _ _ _) (fun r =>
        DC.goes (M := fun m => updMu m g 11 [U (unmark f.qnext)]) (den_lset_b ⟨f.qSeat, f.qcell, f.qk, f.qplace, unmark f.qnext, f.qnext, f.qthere⟩ 1 (lnode (unmark f.qnext)) (ihs ⟨f.qSeat, f.qcell, f.qk, f.qplace, unmark f.qnext, f.qnext, f.qthere⟩)) (fun hO => w_list_walk_unlinked_c1_c1_1 (one_has hO)) (fun _ _ => none_at _) (fun m b h o => one_keep 11 _ _ b h _) (fun x hx => by cases hx))
        fun hO h => w_list_walk_unlinked_c1_1 (one_has hO) e h)
    have keyed : ∀ (f : Wk) (k : Int), DenC kW (.acc 0 (fieldG f.p k 0) 0 0 fun x => .acc 0 f.qplace 0 0 fun w => cond (w != f.qcur) (walkL n false f)
          (cond (marked f.qnext != 0)
            (.acc 2 f.qplace f.qcur (unmark f.qnext) fun y => cond (!(y == f.qcur)) (walkL n false f) ((aretireL f.p n f.t k).bind fun _ => lsetL f 1 (hw (lnode (unmark f.qnext))) (walkL n true ⟨f.qSeat, f.qcell, f.qk, f.qplace, unmark f.qnext, f.qnext, f.qthere⟩)))
            (cond (decide (x ≥ f.qk)) (.done ⟨f.qSeat, f.qcell, f.qk, f.qplace, f.qcur, f.qnext, x == f.qk⟩)
              (lsetL f 2 (hw k) (lsetL f 1 (hw (lnode f.qnext)) (walkL n true ⟨f.qSeat, f.qcell, f.qk, fieldG f.p k 2, f.qnext, f.qnext, f.qthere⟩)))))) n_list_walk_keyed [.agg f.cs, I k] [] := fun f k =>
      .accN (cs := f.cs) w_list_walk_keyed_1 fun g x => .acc (fun hO => w_list_walk_keyed_c1_1 (one_has hO)) fun w => .ite (fun e => (anewO f g _).pass fun hO => w_list_walk_keyed_c1_c1_4 (one_has hO) e) fun e =>
        .ite (fun e1 => DenC.pass (DC.more (unl f k) (fun x hx => by cases hx)) fun hO => w_list_walk_keyed_c1_c1_3 (one_has hO) e e1) fun e1 =>
        .ite (fun e2 => DC.chg (fun m => updMu m g 13 [.bool (x == f.qk)]) (fun hO => w_list_walk_keyed_c1_c1_2 (one_has hO) e e1 e2) (fun m b h o => one_keep 13 _ _ b h _) rfl) fun e2 =>
        DenC.pass (DC.more (on f k) (fun x hx => by cases hx)) fun hO => w_list_walk_keyed_c1_c1_1 (one_has hO) e e1 e2
    refine .ite (fun e => DC.new (fun _ => _) (fun m n => updMu (updMu m n 0 f.cs) n 13 [.bool false]) (w_list_walk_step_2 e) (fun m n b hb o => by rw [new_keep _ _ _ _ _ hb, new_keep _ _ _ _ _ hb]) fun n => rfl) fun e => .accN (cs := f.cs) (w_list_walk_step_1 e) fun g next => ?_
    refine DenC.pass (den_lset f 0 (lnode next) (own := [(g, f.cs)]) (.acc (fun hO => w_list_walk_step_c1_c1_1 (one_has hO)) fun again => .ite (fun e => ?_) fun e => ?_)) fun hO => w_list_walk_step_c1_1 (one_has hO)
    · exact (anewO f g _).pass fun hO => w_list_walk_step_c1_c1_c1_2 (one_has hO) e
    · exact DC.goes (M := fun m => updMu m g 12 [U next]) (keyed ⟨f.qSeat, f.qcell, f.qk, f.qplace, f.qcur, next, f.qthere⟩ (lnode f.qcur)) (fun hO => w_list_walk_step_c1_c1_c1_1 (one_has hO) e) (fun _ _ => none_at _) (fun m b h o => one_keep 12 _ _ b h _) (fun x hx => by cases hx)
theorem den_find (s : Se) (cell k : Int) (n : Nat) : DenC kW (findL s cell k n) n_list_find [.agg s.cs, I cell, U k] [] := (walk_den n).2 ⟨s, cell, k, 0, 0, 0, false⟩
end Go.Proofs.YtehihnapbpcfbaaGreat.Fun
