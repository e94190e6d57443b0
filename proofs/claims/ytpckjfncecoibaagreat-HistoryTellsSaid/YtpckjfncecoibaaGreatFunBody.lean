/- A function's body, whole: what the evaluator says of a call is so. -/
import Derived.Test.YtpckjfncecoibaaGreatFunAny
import Derived.LoopN
namespace Go.Proofs.YtpckjfncecoibaaGreat.Fun
open Go
set_option linter.unusedSimpArgs false
set_option linter.unusedVariables false
section
variable {P : Program} {T : TypeId → Option TI} (hT : ∀ t ti, T t = some ti → tiOf P t = some ti) (hm : P.follows .mixedOrders = true)

/-- Something is forgotten of a state: temporaries, local variables. -/
structure St.le (s s' : St) : Prop where
  len : s'.tm.length = s.tm.length
  tm : ∀ (t : Nat) (d : DV), s'.tm[t]? = some d → d = .any ∨ s.tm[t]? = some d
  lo : ∀ n x, look s'.lo n = some x → look s.lo n = some x
  el : ∀ n t, (look s'.lo n).isSome = true → elOf s'.el n = some t → elOf s.el n = some t
  keep : ∀ (t n off : Nat), s'.tm[t]? = some (.loc n off) → (look s'.lo n).isSome = true
  dirty : s'.dirty = s.dirty
  mu : s'.mu = s.mu
  free : s'.free = s.free
  pend : s'.pend = s.pend
theorem Rel.le {w0 : World} {S0 D0 : Nat → Prop} {ρ0 : Nat → Option Nat} {F0 : List Nat} {ι ρ : Nat → Option Nat} {S : Nat → Prop} {w : World} {s s' : St} {a : Act} (r : Rel w0 S0 D0 ρ0 F0 ι ρ S w s a) (h : s.le s') : ∃ ι', Rel w0 S0 D0 ρ0 F0 ι' ρ S w s' a := by
  refine ⟨fun n => if (look s'.lo n).isSome then ι n else none, by rw [h.len]; exact r.len, fun t d hd => ?_, fun n b hn => ?_, fun n m b hn hm => ?_, r.defers, by rw [h.dirty]; exact r.kept, by rw [h.mu]; exact r.mu, by rw [h.mu]; exact r.dom, by rw [h.mu]; exact r.named, by rw [h.free]; exact r.free, r.older, r.newer, fun n g hp hl => ?_⟩
  rotate_right
  · rw [h.pend] at hp
    obtain ⟨x, hx⟩ := Option.isSome_iff_exists.1 hl
    obtain ⟨b, h1, h2⟩ := r.link n g hp (by rw [h.lo n x hx]; rfl)
    exact ⟨b, by simp only [hl, if_true]; exact h1, h2⟩
  · rcases h.tm t d hd with rfl | h'
    · have hlt : t < a.tmps.size := by
        have := (List.getElem?_eq_some_iff.1 hd).1
        rw [r.len, ← h.len]; exact this
      exact ⟨a.tmps[t], by simp [hlt], by simp only [TAbs, Abs]⟩
    · obtain ⟨v, hv, ha⟩ := r.tm t d h'
      refine ⟨v, hv, ?_⟩
      cases d <;> first | exact ha | skip
      case loc n off =>
        obtain ⟨b, hb, rfl⟩ := ha
        exact ⟨b, by simp only [h.keep t n off hd, if_true]; exact hb, rfl⟩
  · split at hn
    · rename_i hs
      obtain ⟨fr, cs, vs, elem, hl, rest⟩ := r.lo n b hn
      obtain ⟨x, hx⟩ := Option.isSome_iff_exists.1 hs
      have := h.lo n x hx
      rw [hl] at this; cases this
      obtain ⟨r1, r2, r3, r4, r5, r6⟩ := rest
      exact ⟨fr, cs, vs, elem, hx, r1, r2, r3, r4, by rw [h.mu]; exact r5, fun t ht => r6 t (h.el n t hs ht)⟩
    · cases hn
  · split at hn <;> split at hm <;> first | (cases hn; done) | (cases hm; done) | exact r.inj n m b hn hm
theorem forgetTm_length : ∀ (m : List Bool) (ds : List DV), (forgetTm m ds).length = ds.length
  | [], ds => by cases ds <;> rfl
  | true :: m, [] => rfl
  | false :: m, [] => rfl
  | true :: m, d :: ds => by simp [forgetTm, forgetTm_length m ds]
  | false :: m, d :: ds => by simp [forgetTm, forgetTm_length m ds]
theorem forgetTm_get : ∀ (m : List Bool) (ds : List DV) (t : Nat) (d : DV), (forgetTm m ds)[t]? = some d → d = .any ∨ ds[t]? = some d
  | [], ds, t, d, h => .inr (by cases ds <;> exact h)
  | true :: m, [], t, d, h => .inr h
  | false :: m, [], t, d, h => .inr h
  | true :: m, e :: ds, 0, d, h => .inr h
  | false :: m, e :: ds, 0, d, h => by simp [forgetTm] at h; exact .inl h.symm
  | true :: m, e :: ds, t + 1, d, h => by simp [forgetTm] at h; simpa using forgetTm_get m ds t d h
  | false :: m, e :: ds, t + 1, d, h => by simp [forgetTm] at h; simpa using forgetTm_get m ds t d h
theorem look_dropLo {drops : List Nat} {n : Nat} {x : Bool × List DV} : ∀ {lo : List (Nat × Bool × List DV)}, look (dropLo drops lo) n = some x → look lo n = some x
  | [], h => h
  | (m, y) :: rest, h => by
    simp only [dropLo] at h
    by_cases hd : drops.contains m = true
    · rw [if_pos hd] at h
      have hne : m ≠ n := by
        rintro rfl
        have : ∀ (l : List (Nat × Bool × List DV)), look (dropLo drops l) m = none := by
          intro l
          induction l with
          | nil => rfl
          | cons z l ih =>
            obtain ⟨k, z⟩ := z
            simp only [dropLo]
            split
            · exact ih
            · rename_i hk
              simp only [look]
              rw [if_neg (by rintro rfl; exact hk hd)]
              exact ih
        rw [this] at h; cases h
      simp only [look, if_neg hne]
      exact look_dropLo h
    · rw [if_neg hd] at h
      simp only [look] at h ⊢
      split
      · rename_i hm; rw [if_pos hm] at h; exact h
      · rename_i hm; rw [if_neg hm] at h; exact look_dropLo h
theorem elOf_drop {drops : List Nat} {n : Nat} {x : TypeId} : ∀ {lo : List (Nat × TypeId)}, elOf (dropEl drops lo) n = some x → elOf lo n = some x
  | [], h => h
  | (m, y) :: rest, h => by
    simp only [dropEl] at h
    by_cases hd : drops.contains m = true
    · rw [if_pos hd] at h
      have hne : m ≠ n := by
        rintro rfl
        have : ∀ (l : List (Nat × TypeId)), elOf (dropEl drops l) m = none := by
          intro l
          induction l with
          | nil => rfl
          | cons z l ih =>
            obtain ⟨k, z⟩ := z
            simp only [dropEl]
            split
            · exact ih
            · rename_i hk
              simp only [elOf]
              rw [if_neg (by rintro rfl; exact hk hd)]
              exact ih
        rw [this] at h; cases h
      simp only [elOf, if_neg hne]
      exact elOf_drop h
    · rw [if_neg hd] at h
      simp only [elOf] at h ⊢
      split
      · rename_i hm; rw [if_pos hm] at h; exact h
      · rename_i hm; rw [if_neg hm] at h; exact elOf_drop h
theorem forget_le {s : St} {mask : List Bool} {drops : List Nat} (h : locsOk (s.forget mask drops) = true) : s.le (s.forget mask drops) := by
  refine ⟨forgetTm_length _ _, forgetTm_get _ _, fun n x hx => look_dropLo hx, fun n t hs ht => ?_, fun t n off ht => ?_, rfl, rfl, rfl, rfl⟩
  · exact elOf_drop ht
  · unfold locsOk at h
    rw [List.all_eq_true] at h
    exact h _ (List.mem_of_getElem? ht)
/-- Ahead of a code something may be forgotten. -/
theorem CodeOk.weaken {c : Code} {s s1 s' : St} {way : Way} (h : CodeOk P c s1 way s') (hle : s.le s1) : CodeOk P c s way s' := by
  intro w0 S0 D0 ρ0 F0 Q ι ρ S w a r hQ
  obtain ⟨ι', r'⟩ := r.le hle
  exact h r' hQ
/-- Behind it, too. -/
theorem CodeOk.forget {c : Code} {s s1 s' : St} {way : Way} (h : CodeOk P c s way s1) (hle : s1.le s') : CodeOk P c s way s' := by
  intro w0 S0 D0 ρ0 F0 Q ι ρ S w a r hQ
  refine h r fun ι' ρ' S' w' a' r' => ?_
  obtain ⟨ι2, r2⟩ := r'.le hle
  exact hQ ι2 ρ' S' w' a' r2
include hT hm in
theorem runCode_sound {w0 : World} {S0 D0 : Nat → Prop} {ρ0 : Nat → Option Nat} {F0 : List Nat} : ∀ (c : Code) {Q : Exit → Act → World → Prop} {ι ρ : Nat → Option Nat} {S : Nat → Prop} {w : World} {a : Act} {s : St} {script : List Say} {out : Fin},
    Rel w0 S0 D0 ρ0 F0 ι ρ S w s a → runCode T c s script = some out → (∀ x ∈ out.obs, x.ok P) → (∀ ι' ρ' S' w' a', Rel w0 S0 D0 ρ0 F0 ι' ρ' S' w' out.st a' → Q out.way.toExit a' w') → c.wp P Q a w := by
  intro c
  induction c with
  | skip => intro Q ι ρ S w a s script out r h hob hQ; simp only [runCode, Option.some.injEq] at h; subst h; exact wp_skip (hQ _ _ _ _ _ r)
  | label l => intro Q ι ρ S w a s script out r h hob hQ; simp only [runCode, Option.some.injEq] at h; subst h; exact wp_label (hQ _ _ _ _ _ r)
  | ret => intro Q ι ρ S w a s script out r h hob hQ; simp only [runCode, Option.some.injEq] at h; subst h; exact wp_ret (hQ _ _ _ _ _ r)
  | exit id => intro Q ι ρ S w a s script out r h hob hQ; simp only [runCode, Option.some.injEq] at h; subst h; exact wp_exit (hQ _ _ _ _ _ r)
  | region id ops draw =>
    intro Q ι ρ S w a s script out r h hob hQ
    simp only [runCode] at h
    cases draw
    · simp only [Bool.false_eq_true, if_false] at h
      split at h
      · rename_i o ho
        cases h
        exact wp_region (runOps_sound hT _ r ho hob hQ)
      · cases h
    · simp only [if_true] at h
      split at h
      · rename_i hok
        split at h
        · rename_i o ho
          cases h
          exact region_any_sound hT hm hok r ho hob hQ
        · cases h
      · cases h
  | seq x y ihx ihy =>
    intro Q ι ρ S w a s script out r h hob hQ
    simp only [runCode] at h
    split at h
    · rename_i s' script' obs hx
      split at h
      · rename_i r2 hy
        cases h
        refine wp_seq (ihx r hx (fun x hx => hob x (List.mem_append_left _ hx)) fun ι' ρ' S' w' a' r' => ?_)
        exact ihy r' hy (fun x hx => hob x (List.mem_append_right _ hx)) hQ
      · cases h
    · rename_i hx
      refine wp_seq (ihx r h hob fun ι' ρ' S' w' a' r' => ?_)
      obtain ⟨way, st, sc, obs⟩ := out
      cases way
      · exact absurd h (by intro h; exact hx _ _ _ h)
      · exact hQ _ _ _ _ _ r'
      · exact hQ _ _ _ _ _ r'
  | cond c x y ihx ihy =>
    intro Q ι ρ S w a s script out r h hob hQ
    simp only [runCode] at h
    split at h
    · rename_i t y' rest hc
      have hcv := (ev_abs (a := a) c (fun t d _ h => r.tm t d h) _ hc).abs rfl
      simp only [Abs] at hcv
      split at h
      · rename_i hy
        split at h
        · rename_i r2 h2
          cases h
          have ht : t = y' := hob (.eq t y') (by simp)
          subst ht; subst hy
          exact wp_cond_true hcv (ihx r h2 (fun x hx => hob x (List.mem_cons_of_mem _ hx)) hQ)
        · cases h
      · rename_i hy
        split at h
        · rename_i r2 h2
          cases h
          have ht : t = y' := hob (.eq t y') (by simp)
          subst ht
          have hy : t = false := by simpa using hy
          subst hy
          exact wp_cond_false hcv (ihy r h2 (fun x hx => hob x (List.mem_cons_of_mem _ hx)) hQ)
        · cases h
    · cases h
  | block id c ih =>
    intro Q ι ρ S w a s script out r h hob hQ
    simp only [runCode] at h
    split at h
    · rename_i j s' script' obs hx
      split at h
      · rename_i hj
        cases h
        refine wp_block (ih r hx hob fun ι' ρ' S' w' a' r' => ?_)
        simp only [Way.toExit, Exit.inBlock, hj, if_true]
        exact hQ _ _ _ _ _ r'
      · rename_i hj
        cases h
        refine wp_block (ih r hx hob fun ι' ρ' S' w' a' r' => ?_)
        simp only [Way.toExit, Exit.inBlock, hj, if_false]
        exact hQ _ _ _ _ _ r'
    · rename_i hx
      refine wp_block (ih r h hob fun ι' ρ' S' w' a' r' => ?_)
      obtain ⟨way, st, sc, obs⟩ := out
      cases way
      · exact hQ _ _ _ _ _ r'
      · exact hQ _ _ _ _ _ r'
      · exact absurd h (by intro h; exact hx _ _ _ _ h)
  | loop c ih =>
    intro Q ι ρ S w a s script out r h hob hQ
    simp only [runCode] at h
    split at h
    · rename_i mask drops way s' rest
      split at h
      · rename_i hl
        cases h
        obtain ⟨ι2, r2⟩ := r.le (forget_le hl)
        exact (hob (.code (.loop c) (s.forget mask drops) way s') (by simp)) r2 hQ
      · cases h
    · cases h
  | _ => intro Q ι ρ S w a s script out r h; simp only [runCode] at h; cases h

def resVal (tmps : Array Value) (x : ResultVar) : Sem Value :=
  match x with
  | .tmp t => pure (tmps.getD t undef)
  | .cell t ty => do loadVar ty (← asAddr (tmps.getD t undef))
theorem results_eq (fn : Func) (tmps : Array Value) : results fn tmps = (do let vs ← fn.results.mapM (resVal tmps); pure (if h : vs.size = 1 then vs[0] else .tuple vs)) := by
  unfold results
  have e : (fun x : ResultVar => (match x with | .tmp t => pure (tmps.getD t undef) | .cell a t => do loadVar t (← asAddr (tmps.getD a undef)) : Sem Value)) = resVal tmps := by
    funext x; cases x <;> rfl
  rw [← e]
  rfl
include hT in
theorem resultOf_sound {w0 : World} {S0 D0 : Nat → Prop} {ρ0 : Nat → Option Nat} {F0 : List Nat} {ι ρ : Nat → Option Nat} {S : Nat → Prop} {w : World} {a : Act} {s : St} (r : Rel w0 S0 D0 ρ0 F0 ι ρ S w s a) {x : ResultVar} {d : DV} (h : resultOf T s x = some d) :
    ∃ v, (resVal a.tmps x).run P w = .ok v w ∧ Abs ρ S w d v := by
  cases x with
  | tmp t =>
    simp only [resultOf] at h
    split at h
    · rename_i d' hd
      split at h
      · rename_i hn
        cases h
        obtain ⟨v, hv, hd'⟩ := r.tm t _ hd
        exact ⟨v, by simp [resVal, hv, Sem.run_pure], hd'.abs hn⟩
      · cases h
    · cases h
  | cell t ty =>
    simp only [resultOf] at h
    split at h
    · rename_i n off ti ht hty
      split at h
      · rename_i cs hcs
        obtain ⟨v, hv, b, hb, rfl⟩ := r.tm t _ ht
        simp only [lcOf, Option.map_eq_some_iff] at hcs
        obtain ⟨⟨fr, cs'⟩, hl, rfl⟩ := hcs
        obtain ⟨fr2, cs2, vs, elem, hl2, hheap, hab, _⟩ := r.lo n b hb
        rw [hl] at hl2; cases hl2
        obtain ⟨u, hu, hd⟩ := run_loadAt (hT _ _ hty) (off := off) (by have := (CellsAt.of_block hheap).drop off; rwa [Nat.zero_add] at this) (hab.drop off) (partOf_drop _ _ _ _ h)
        refine ⟨u, ?_, hd⟩
        simp only [Instr.loadAt, Instr.sureAddr, Sem.run_bind, Sem.run_pure, Result.andThen] at hu
        simp only [resVal, hv, Array.getD_eq_getD_getElem?, Option.getD_some, asAddr, Sem.run_bind, Sem.run_pure, Result.andThen]
        exact hu
      · cases h
    · cases h

include hT in
theorem resultsOf_sound {w0 : World} {S0 D0 : Nat → Prop} {ρ0 : Nat → Option Nat} {F0 : List Nat} {ι ρ : Nat → Option Nat} {S : Nat → Prop} {w : World} {a : Act} {s : St} (r : Rel w0 S0 D0 ρ0 F0 ι ρ S w s a) : ∀ {xs : List ResultVar} {ds : List DV}, resultsOf T s xs = some ds →
    ∃ vs : List Value, (xs.mapM (resVal a.tmps)).run P w = .ok vs w ∧ AbsL ρ S w ds vs
  | [], ds, h => by simp only [resultsOf, Option.some.injEq] at h; subst h; exact ⟨[], rfl, .nil⟩
  | x :: xs, ds, h => by
    simp only [resultsOf] at h
    split at h
    · rename_i d es hx hes
      cases h
      obtain ⟨v, hv, hd⟩ := resultOf_sound hT r hx
      obtain ⟨vs, hvs, hds⟩ := resultsOf_sound r hes
      refine ⟨v :: vs, ?_, .cons hd hds⟩
      rw [List.mapM_cons]
      simp only [Sem.run_bind, hv, hvs, Result.andThen, Sem.run_pure]
    · cases h

include hT hm in
/-- What the evaluator says of a function's call is so. -/
theorem callOk_of_run {f : FuncId} {fn : Func} (hf : P.funcs[f]? = some fn) (hn : (fn.name == "runtime.NumGoroutine") = false) {args : List DV} {mu mu' : Mu} {fresh : List Nat} {script : List Say} {d : DV} {dirty : Bool} {obs : List Ob}
    (h : runBody T fn args mu fresh script = some (d, mu', dirty, obs)) (hob : ∀ x ∈ obs, x.ok P) : CallOk P f args mu d mu' dirty fresh := by
  unfold runBody at h
  cases hbody : fn.body with
  | none => rw [hbody] at h; cases h
  | some c =>
  rw [hbody] at h
  simp only at h
  refine ⟨⟨fn, hf, hn, by rw [hbody]; rfl⟩, fun ρ S w vs hnm hfr sane hmu hargs => ?_⟩
  -- what the code ends in
  obtain ⟨out, hrun, hway, ds, hds, rfl, rfl, rfl, rfl⟩ : ∃ out, runCode T c { tm := args ++ List.replicate (fn.ntmps - args.length) (.tup []), lo := [], mu := mu, free := fresh } script = some out ∧ (out.way = .normal ∨ out.way = .ret) ∧
      ∃ ds, resultsOf T out.st fn.results.toList = some ds ∧ d = oneOf ds ∧ mu' = out.st.mu ∧ dirty = out.st.dirty ∧ obs = out.obs := by
    split at h
    · rename_i s sc o hrun
      split at h
      · rename_i ds hds
        cases h
        exact ⟨_, hrun, .inl rfl, ds, hds, rfl, rfl, rfl, rfl⟩
      · cases h
    · rename_i s sc o hrun
      split at h
      · rename_i ds hds
        cases h
        exact ⟨_, hrun, .inr rfl, ds, hds, rfl, rfl, rfl, rfl⟩
      · cases h
    · cases h
  have hl : vs.length = args.length := hargs.length
  have rel : Rel w S (Dom ρ mu) ρ fresh (fun _ => none) ρ S w { tm := args ++ List.replicate (fn.ntmps - args.length) (.tup []), lo := [], mu := mu, free := fresh } { tmps := vs.toArray ++ Array.replicate (fn.ntmps - vs.toArray.size) undef, defers := [] } := by
    refine ⟨by simp [hl], fun t d hd => ?_, fun n b h => (by cases h), fun n m b h => (by cases h), rfl, ⟨rfl, rfl, rfl, Nat.le_refl _, fun _ _ _ _ => rfl, fun _ _ _ _ => rfl, fun _ h => h, fun _ h => .inl h, sane⟩, hmu, fun _ h => .inl h, hnm, fun n hn => ⟨hfr n hn, hn⟩, .refl ρ w, fun _ _ h => .inl h, fun _ _ h => (by cases h)⟩
    by_cases ht : t < args.length
    · rw [List.getElem?_append_left ht] at hd
      obtain ⟨v, hv, ha⟩ := hargs.get hd
      refine ⟨v, ?_, .of_abs ha⟩
      rw [Array.getElem?_append_left (by simpa [hl] using ht)]
      simpa using hv
    · rw [List.getElem?_append_right (by omega), List.getElem?_replicate] at hd
      split at hd
      · rename_i hlt
        cases hd
        refine ⟨undef, ?_, by simp only [TAbs, Abs]; exact ⟨[], rfl, .nil⟩⟩
        rw [Array.getElem?_append_right (by simp [hl]; omega)]
        simp [hl, hlt]
      · cases hd
  refine calls_of_wp hf hbody (runCode_sound hT hm c rel hrun hob fun ι' ρ' S' w' a' r' => ?_)
  obtain ⟨us, hus, hab⟩ := resultsOf_sound (P := P) hT r' hds
  have hres : (results fn a'.tmps).run P w' = .ok (if h : us.toArray.size = 1 then us.toArray[0] else .tuple us.toArray) w' := by
    rw [results_eq]
    simp only [Sem.run_bind]
    rw [Array.mapM_eq_mapM_toList, Sem.run_map, hus]
    rfl
  have hval : Abs ρ' S' w' (oneOf ds) (if h : us.toArray.size = 1 then us.toArray[0] else .tuple us.toArray) := by
    have hlen := hab.length
    match ds, us, hab with
    | [d], us, hab =>
      obtain ⟨u, rest, rfl, hu, hr⟩ := hab.cons_inv
      rw [hr.nil_inv]
      exact hu
    | [], us, hab => rw [hab.nil_inv]; simp only [oneOf, Abs]; exact ⟨[], rfl, .nil⟩
    | d1 :: d2 :: ds, us, hab =>
      rw [dif_neg (by simp [hab.length])]
      simp only [oneOf, Abs]
      exact ⟨us, rfl, hab⟩
  have hpost : Post S (Dom ρ mu) w w' S' out.st.dirty :=
    ⟨r'.kept.os, r'.kept.tape, r'.kept.output, r'.kept.size, r'.kept.old, r'.kept.clean, r'.kept.up, fun b hb => (r'.kept.from_ b hb).imp id fun h => ⟨h, r'.kept.sane b hb⟩⟩
  rcases hway with hw | hw <;> rw [hw] <;> exact ⟨r'.defers, _, hres, _, _, _, rfl, hpost, r'.named, r'.older, r'.newer, r'.mu, r'.dom, hval⟩

/-! #### loops -/
/-- A loop leads from one state to another, in so many rounds. -/
def LoopOk (P : Program) (c : Code) (s : St) (way : Way) (s' : St) : Prop :=
  ∃ n, ∀ {w0 : World} {S0 D0 : Nat → Prop} {ρ0 : Nat → Option Nat} {F0 : List Nat} {Q : Exit → Act → World → Prop} {ι ρ : Nat → Option Nat} {S : Nat → Prop} {w : World} {a : Act}, Rel w0 S0 D0 ρ0 F0 ι ρ S w s a →
    (∀ ι' ρ' S' w' a', Rel w0 S0 D0 ρ0 F0 ι' ρ' S' w' s' a' → Q way.toExit a' w') → Code.rounds P c Q n a w
theorem LoopOk.code {c : Code} {s s' : St} {way : Way} (h : LoopOk P c s way s') : CodeOk P (.loop c) s way s' := by
  obtain ⟨n, h⟩ := h
  intro w0 S0 D0 ρ0 F0 Q ι ρ S w a r hQ
  exact wp_loop_rounds n (h r hQ)
/-- A round more. -/
theorem LoopOk.step {c : Code} {s s1 s' : St} {way : Way} (h1 : CodeOk P c s .normal s1) (h : LoopOk P c s1 way s') : LoopOk P c s way s' := by
  obtain ⟨n, h⟩ := h
  refine ⟨n + 1, ?_⟩
  intro w0 S0 D0 ρ0 F0 Q ι ρ S w a r hQ
  exact h1 r fun ι' ρ' S' w' a' r' => h r' hQ
/-- The last round. -/
theorem LoopOk.last {c : Code} {s s' : St} {way : Way} (hw : way ≠ .normal) (h : CodeOk P c s way s') : LoopOk P c s way s' := by
  refine ⟨1, ?_⟩
  intro w0 S0 D0 ρ0 F0 Q ι ρ S w a r hQ
  refine h r fun ι' ρ' S' w' a' r' => ?_
  have := hQ ι' ρ' S' w' a' r'
  cases way
  · exact absurd rfl hw
  · exact this
  · exact this
include hT hm in
/-- What the evaluator says of a code is so. -/
theorem codeOk_of_run {c : Code} {s : St} {script : List Say} {way : Way} {s' : St} {rest : List Say} {obs : List Ob} (h : runCode T c s script = some ⟨way, s', rest, obs⟩) (hob : ∀ x ∈ obs, x.ok P) : CodeOk P c s way s' := by
  intro w0 S0 D0 ρ0 F0 Q ι ρ S w a r hQ
  exact runCode_sound hT hm c r h hob hQ
include hT hm in
/-- The like, and something is forgotten behind it. -/
theorem codeOk_forget {c : Code} {s s' : St} {script : List Say} {way : Way} {mask : List Bool} {drops : List Nat} {obs : List Ob}
    (h : (runCode T c s script).map (fun o => (o.way, o.st.forget mask drops, locsOk (o.st.forget mask drops), o.obs)) = some (way, s', true, obs)) (hob : ∀ x ∈ obs, x.ok P) : CodeOk P c s way s' := by
  simp only [Option.map_eq_some_iff, Prod.mk.injEq] at h
  obtain ⟨o, ho, rfl, rfl, hl, rfl⟩ := h
  intro w0 S0 D0 ρ0 F0 Q ι ρ S w a r hQ
  refine runCode_sound hT hm c r ho hob fun ι' ρ' S' w' a' r' => ?_
  obtain ⟨ι2, r2⟩ := r'.le (forget_le hl)
  exact hQ ι2 ρ' S' w' a' r2

end
end Go.Proofs.YtpckjfncecoibaaGreat.Fun
