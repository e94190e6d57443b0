/- The evaluator's state and the model's: one operation behind the other. -/
import Derived.Test.YtpckjfncecoibaaGreatFunStep
namespace Go.Proofs.YtpckjfncecoibaaGreat.Fun
open Go
set_option linter.unusedSimpArgs false
set_option linter.unusedVariables false
section
variable {P : Program} {T : TypeId → Option TI}

/-- An operand. -/
theorem ev_abs {ι ρ : Nat → Option Nat} {S : Nat → Prop} {w : World} {s : St} {a : Act} (x : Operand) (htm : ∀ (t : Nat) (d : DV), x = .tmp t → s.tm[t]? = some d → ∃ v, a.tmps[t]? = some v ∧ TAbs ι ρ S w d v) :
    ∀ d, s.ev x = some d → TAbs ι ρ S w d (a.eval x) := by
  intro d h
  cases x with
  | tmp t =>
    obtain ⟨v, hv, hd⟩ := htm t d rfl h
    simpa [Act.eval, hv] using hd
  | const v => exact .of_abs (const_abs h)
  | global g => cases h
  | func f => cases h; simp only [TAbs, Abs]; exact ⟨[], rfl, .nil⟩

/-- A guard. -/
def GuardIs (ops : Array Oper) (tm : List DV) (o : Oper) (b : Bool) : Prop :=
  match o.guard with
  | none => b = true
  | some (j, want) => ∃ t, (ops[j]?).bind (·.dst) = some t ∧ ((∃ y, tm[t]? = some (.bool y) ∧ b = (y == want)) ∨ (tm[t]? = some (.tup []) ∧ b = false))
theorem guardOf_is {ops : Array Oper} {tm : List DV} {o : Oper} {script rest : List Say} {b : Bool} {obs : List Ob} (h : guardOf ops tm o script = some (b, rest, obs)) (hob : ∀ x ∈ obs, x.ok P) : GuardIs ops tm o b := by
  unfold guardOf at h
  unfold GuardIs
  split at h
  · rename_i hg
    cases h; rw [hg]
  · rename_i j want hg
    rw [hg]
    simp only
    split at h
    · cases h
    · rename_i t ht
      refine ⟨t, ht, ?_⟩
      split at h
      · rename_i y y' rest' htm
        cases h
        have : y = y' := hob (.eq y y') (by simp)
        subst this
        exact .inl ⟨y, htm, rfl⟩
      · rename_i _ htm
        cases h
        exact .inr ⟨htm, rfl⟩
      · cases h
theorem GuardIs.wanted {ops : Array Oper} {tm : List DV} {o : Oper} {b : Bool} {ι ρ : Nat → Option Nat} {S : Nat → Prop} {w : World} {a : Act} (h : GuardIs ops tm o b)
    (htm : ∀ (t : Nat) (d : DV), t ∈ o.looksAt ops → tm[t]? = some d → ∃ v, a.tmps[t]? = some v ∧ TAbs ι ρ S w d v) : Region.wanted o (yielded ops a.tmps) = b := by
  unfold GuardIs at h
  unfold Region.wanted
  split at h
  · rename_i hg
    rw [hg]; simp [h]
  · rename_i j want hg
    rw [hg]
    simp only
    obtain ⟨t, ht, h⟩ := h
    have hmem : t ∈ o.looksAt ops := by simp [Oper.looksAt, hg, ht]
    unfold yielded
    simp only [ht, Option.bind_some]
    rcases h with ⟨y, hy, rfl⟩ | ⟨hy, rfl⟩
    · obtain ⟨v, hv, hd⟩ := htm t _ hmem hy
      simp only [TAbs, Abs] at hd
      subst hd
      rw [hv]
      cases y <;> cases want <;> rfl
    · obtain ⟨v, hv, hd⟩ := htm t _ hmem hy
      simp only [TAbs, Abs] at hd
      obtain ⟨vs, rfl, hvs⟩ := hd
      rw [hvs.nil_inv] at hv
      rw [hv]
      cases want <;> rfl

theorem look_freeze {ls : List Nat} {n : Nat} : ∀ {lo : List (Nat × Bool × List DV)}, look (freezeIn ls lo) n = (look lo n).map fun x => (x.1 || ls.contains n, x.2)
  | [] => rfl
  | (m, fr, cs) :: rest => by
    simp only [freezeIn, look]
    split
    · rename_i h; subst h; rfl
    · exact look_freeze
theorem look_set {k n : Nat} {cs : List DV} : ∀ {lo : List (Nat × Bool × List DV)}, look (setIn k cs lo) n = if n = k then (look lo n).map fun x => (x.1, cs) else look lo n
  | [] => by simp [setIn, look]
  | (m, fr, ds) :: rest => by
    simp only [setIn]
    by_cases hmk : m = k
    · subst hmk
      simp only [if_true, look]
      by_cases hn : n = m
      · subst hn; simp
      · rw [if_neg (Ne.symm hn), if_neg (Ne.symm hn), if_neg hn]
    · simp only [if_neg hmk, look]
      by_cases hn : m = n
      · subst hn; simp [hmk]
      · rw [if_neg hn, if_neg hn]; exact look_set
theorem look_wash {n : Nat} {cs : List DV} : ∀ {lo : List (Nat × Bool × List DV)}, look lo n = some (false, cs) → look (washIn lo) n = some (false, cs.map DV.washC)
  | [], h => by cases h
  | (m, fr, ds) :: rest, h => by
    simp only [look] at h
    split at h
    · rename_i hm
      cases h
      simp [washIn, look, hm]
    · rename_i hm
      simp only [washIn]
      split
      · exact look_wash h
      · simp only [look, if_neg hm]; exact look_wash h

theorem Abs.wash {ρ ρ' : Nat → Option Nat} {S S' : Nat → Prop} {w w' : World} (hρ : Ext ρ w ρ' w') {d : DV} {v : Value} (h : Abs ρ S w d v) : Abs ρ' S' w' d.wash v := by
  cases d <;> simp only [DV.wash, Abs] at h ⊢ <;> first | trivial | exact h | skip
  case adr b off => obtain ⟨p, hp, h⟩ := h; exact ⟨p, (hρ _ _ hp).1, h⟩
  case vec b off n z =>
    obtain ⟨a, cap, rfl, hn, hor⟩ := h
    refine ⟨a, cap, rfl, hn, hor.imp id fun ⟨p, hp, ha, vs, e, hb, hle⟩ => ?_⟩
    obtain ⟨h1, h2⟩ := hρ _ _ hp
    obtain ⟨vs', hb', hs⟩ := h2 _ _ _ hb
    exact ⟨p, h1, ha, vs', e, hb', by omega⟩
  case tup cs => cases cs <;> simp only [DV.wash, Abs] <;> first | trivial | (obtain ⟨vs, rfl, h⟩ := h; exact ⟨vs, rfl, by rw [h.nil_inv]; exact .nil⟩)
theorem AbsL.wash {ρ ρ' : Nat → Option Nat} {S S' : Nat → Prop} {w w' : World} (hρ : Ext ρ w ρ' w') : ∀ {ds : List DV} {vs : List Value}, AbsL ρ S w ds vs → AbsL ρ' S' w' (ds.map DV.washC) vs
  | [], _, h => by rw [h.nil_inv]; exact .nil
  | d :: ds, _, h => by
    obtain ⟨v, rest, rfl, hv, hr⟩ := h.cons_inv
    refine .cons ?_ (AbsL.wash hρ hr)
    unfold DV.washC
    split
    · exact hv.wash hρ
    · simp only [Abs]

theorem put_get {a : Act} {dst : Option Tmp} {v : Value} {tm : List DV} {d : DV} (hl : a.tmps.size = tm.length) :
    (a.put dst v).tmps.size = (putTm tm dst d).length ∧
    ∀ (t : Nat) (e : DV), (putTm tm dst d)[t]? = some e → (dst = some t ∧ e = d ∧ (a.put dst v).tmps[t]? = some v) ∨ (dst ≠ some t ∧ tm[t]? = some e ∧ (a.put dst v).tmps[t]? = a.tmps[t]?) := by
  cases dst with
  | none => exact ⟨hl, fun t e h => .inr ⟨by simp, h, rfl⟩⟩
  | some k =>
    refine ⟨by simp [Act.put, putTm, hl], fun t e h => ?_⟩
    simp only [putTm] at h
    rw [List.getElem?_set] at h
    by_cases hk : k = t
    · subst hk
      rw [if_pos rfl] at h
      split at h
      · rename_i hlt
        cases h
        exact .inl ⟨rfl, rfl, by simp [Act.put, hl, hlt]⟩
      · cases h
    · rw [if_neg hk] at h
      exact .inr ⟨by simpa using hk, h, by simp [Act.put, Array.getElem?_setIfInBounds_ne hk]⟩
theorem put_defers {a : Act} {dst : Option Tmp} {v : Value} : (a.put dst v).defers = a.defers := by cases dst <;> rfl

theorem useObs_ok {e : Eff} {free : List Nat} (h : ∀ x ∈ useObs e free, x.ok P) : ∀ n ∈ e.use, n ∈ free := by
  unfold useObs at h
  split at h
  · have : (e.use.all fun n => free.contains n) = true := h (.eq _ true) (by simp)
    intro n hn
    simpa using List.all_eq_true.1 this n hn
  · split at h
    · rename_i hu; intro n hn; rw [hu] at hn; cases hn
    · rename_i hl _
      have : (e.use.all fun n => free.contains n) = true := h (.eq _ true) (by simp)
      intro n hn
      simpa using List.all_eq_true.1 this n hn
    · have : false = true := h (.eq false true) (by simp)
      cases this
/-- Behind an operation that writes no variable. -/
theorem Rel.apply {w0 : World} {S0 D0 : Nat → Prop} {ρ0 : Nat → Option Nat} {F0 : List Nat} {ι ρ : Nat → Option Nat} {S : Nat → Prop} {w : World} {s s' : St} {a : Act} {o : Oper} {d : DV} {e : Eff} {dirty : Bool} {v : Value} {w' : World} {ι' ρ' : Nat → Option Nat} {S' : Nat → Prop}
    (r : Rel w0 S0 D0 ρ0 F0 ι ρ S w s a) (hs : s.apply o d e dirty = some s') (huse : ∀ n ∈ e.use, n ∈ s.free) (m : MonoPost ι ρ S s.mu w o d e dirty v w' ι' ρ' S') : ∃ ι', ∃ S', Rel w0 S0 D0 ρ0 F0 ι' ρ' S' w' s' (a.put o.dst v) := by
  have hlt : ∀ n b, ι n = some b → b < w.heap.size := fun n b h => by obtain ⟨_, _, _, _, _, hb, _⟩ := r.lo n b h; exact lt_of_block hb
  have hsane : ∀ b, S' b → b < w'.heap.size := fun b hb => by
    rcases m.from_ b hb with h | ⟨_, h⟩ | ⟨n, _, h⟩
    · have := r.kept.sane b h; have := m.size; omega
    · exact h
    · have := hlt n b h; have := m.size; omega
  have hfrom : ∀ b, S' b → S0 b ∨ w0.heap.size ≤ b := fun b hb => by
    rcases m.from_ b hb with h | ⟨h, _⟩ | ⟨n, _, h⟩
    · exact r.kept.from_ b h
    · right; have := r.kept.size; omega
    · obtain ⟨_, _, _, _, _, _, _, _, h, _⟩ := r.lo n b h; exact .inr h
  have kept : ∀ dd, (dd = false → s.dirty = false ∧ dirty = false) → Kept w0 S0 D0 S' w' dd := fun dd hdd =>
    { os := m.os.trans r.kept.os, tape := m.tape.trans r.kept.tape, output := m.output.trans r.kept.output, size := Nat.le_trans r.kept.size m.size,
      old := fun b hb hn hD => by
        have hlt' := Nat.lt_of_lt_of_le hb r.kept.size
        rw [m.old b hlt' (fun h => (r.kept.from_ b h).elim hn (fun h => by omega)) (fun h => (r.dom b h).elim hD (fun h => by omega)), r.kept.old b hb hn hD]
      clean := fun hd b hb hD => by
        obtain ⟨h1, h2⟩ := hdd hd
        rw [m.clean h2 b (Nat.lt_of_lt_of_le hb r.kept.size) (fun h => (r.dom b h).elim hD (fun h => by omega)), r.kept.clean h1 b hb hD]
      up := fun b hb => m.up b (r.kept.up b hb), from_ := hfrom, sane := hsane }
  have hdom : ∀ b, Dom ρ' (e.mu.getD s.mu) b → D0 b ∨ w0.heap.size ≤ b := fun b hb => by
    rcases m.dom b hb with h | h
    · exact r.dom b h
    · right; have := r.kept.size; omega
  have hnD : ∀ n b, ι n = some b → ¬ Dom ρ s.mu b ∧ ¬ Dom ρ' (e.mu.getD s.mu) b := fun n b h => by
    obtain ⟨_, _, _, _, _, hb, _, _, _, hnd, _⟩ := r.lo n b h
    refine ⟨hnd, fun hD => ?_⟩
    rcases m.dom b hD with h | h
    · exact hnd h
    · have := lt_of_block hb; omega
  have older : Ext ρ0 w0 ρ' w' := r.older.trans m.grow
  unfold St.apply at hs
  have newer : ∀ n b, ρ' n = some b → ρ0 n = some b ∨ n ∈ F0 := fun n b h => by
    rcases m.back n b h with h | h
    · exact r.newer n b h
    · exact .inr (r.free n (huse n h)).2
  have free : ∀ n ∈ offUse e.use s.free, ρ' n = none ∧ n ∈ F0 := fun n hn => by
    obtain ⟨h1, h2⟩ := mem_offUse hn
    obtain ⟨h3, h4⟩ := r.free n h1
    refine ⟨?_, h4⟩
    cases h : ρ' n with
    | none => rfl
    | some b =>
      rcases m.back n b h with h' | h'
      · rw [h3] at h'; cases h'
      · simp [h'] at h2
  by_cases hd : dirty = true
  · rw [if_pos hd] at hs
    split at hs
    · rename_i hcond
      simp only [Bool.and_eq_true, Option.isNone_iff_eq_none, List.isEmpty_iff] at hcond
      obtain ⟨⟨hnew, hfrz⟩, hdn⟩ := hcond
      cases hs
      have hι := m.same hnew
      subst hι
      let ι2 : Nat → Option Nat := fun n => match look s.lo n with | some (false, _) => ι' n | _ => none
      have hι2 : ∀ n b, ι2 n = some b → ι' n = some b ∧ ∃ cs, look s.lo n = some (false, cs) := fun n b h => by
        simp only [ι2] at h
        split at h
        · rename_i cs hl; exact ⟨h, cs, hl⟩
        · cases h
      have hl' : (s.tm.map (DV.washT s.lo)).length = s.tm.length := by simp
      obtain ⟨h1, h2⟩ := put_get (a := a) (dst := o.dst) (v := v) (tm := s.tm.map (DV.washT s.lo)) (d := d) (by rw [hl']; exact r.len)
      refine ⟨ι2, S', ⟨h1, fun t x hx => ?_, fun n b hn => ?_, fun n k b hn hk => r.inj n k b (hι2 n b hn).1 (hι2 k b hk).1, by rw [put_defers]; exact r.defers, kept true (by simp), m.cells, hdom, m.named, free, older, newer, fun n g hp => (by cases hp)⟩⟩
      · rcases h2 t x hx with ⟨_, rfl, hv⟩ | ⟨_, hx, hv⟩
        · refine ⟨v, hv, ?_⟩
          have hval := m.val
          cases x <;> first | exact hval | skip
          case loc n off =>
            simp [DV.noLoc] at hdn
        · rw [List.getElem?_map] at hx
          cases hst : s.tm[t]? with
          | none => rw [hst] at hx; cases hx
          | some y =>
            rw [hst] at hx
            simp only [Option.map_some, Option.some.injEq] at hx
            subst hx
            obtain ⟨u, hu, hy⟩ := r.tm t y hst
            refine ⟨u, by rw [hv]; exact hu, ?_⟩
            cases y
            case loc n off =>
              simp only [DV.washT]
              split
              · rename_i cs hl
                obtain ⟨b, hb, rfl⟩ := hy
                exact ⟨b, by simp only [ι2, hl]; exact hb, rfl⟩
              · simp only [TAbs, Abs]
            all_goals exact .of_abs (Abs.wash m.grow hy)
      · obtain ⟨hb, cs, hl⟩ := hι2 n b hn
        obtain ⟨fr, cs', vs, elem, hl2, hheap, hab, hfr, hge, hnd, hel⟩ := r.lo n b hb
        rw [hl] at hl2; cases hl2
        have hnS := hfr rfl
        refine ⟨false, cs.map DV.washC, vs, elem, look_wash hl, by rw [m.old b (lt_of_block hheap) hnS hnd]; exact hheap, hab.wash m.grow, fun _ hS => ?_, hge, (hnD n b hb).2, hel⟩
        rcases m.from_ b hS with h | ⟨h, _⟩ | ⟨k, hk, _⟩
        · exact hnS h
        · have := lt_of_block hheap; omega
        · rw [hfrz] at hk; cases hk
    · cases hs
  · have hd : dirty = false := by simpa using hd
    subst hd
    rw [if_neg (by simp)] at hs
    have hheap : ∀ b, b < w.heap.size → ¬ Dom ρ s.mu b → w'.heap[b]? = w.heap[b]? := m.clean rfl
    have hheapS : ∀ b, S b → w'.heap[b]? = w.heap[b]? := fun b hb => hheap b (r.kept.sane b hb) (fun h => r.mu.notS h hb)
    have core : ∀ (lo' : List (Nat × Bool × List DV)) (hlo' : ∀ n b, ι n = some b → ∃ fr cs, look s.lo n = some (fr, cs) ∧ look lo' n = some (fr || e.frz.contains n, cs)),
        ∀ n b, ι n = some b → ∃ fr cs vs elem, look lo' n = some (fr, cs) ∧ w'.heap[b]? = some (.cells vs elem (0, 0)) ∧ AbsL ρ' S' w' cs vs.toList ∧ (fr = false → ¬ S' b) ∧ w0.heap.size ≤ b ∧ ¬ Dom ρ' (e.mu.getD s.mu) b ∧ ∀ t, elOf s.el n = some t → elem = t := by
      intro lo' hlo' n b hn
      obtain ⟨fr, cs, vs, elem, hl, hh, hab, hfr, hge, hnd, hel⟩ := r.lo n b hn
      obtain ⟨fr', cs', h1, h2⟩ := hlo' n b hn
      rw [hl] at h1; cases h1
      refine ⟨_, cs, vs, elem, h2, by rw [hheap b (lt_of_block hh) hnd]; exact hh, AbsL.mono m.grow hheapS m.up _ _ hab, fun hf hS => ?_, hge, (hnD n b hn).2, hel⟩
      simp only [Bool.or_eq_false_iff] at hf
      rcases m.from_ b hS with h | ⟨h, _⟩ | ⟨k, hk, hkb⟩
      · exact hfr hf.1 h
      · have := lt_of_block hh; omega
      · have := r.inj n k b hn hkb
        subst this
        simp [hk] at hf
    cases hnew : e.new with
    | none =>
      rw [hnew] at hs
      cases hs
      have hι := m.same hnew
      subst hι
      obtain ⟨h1, h2⟩ := put_get (a := a) (dst := o.dst) (v := v) (tm := s.tm) (d := d) r.len
      refine ⟨ι', S', ⟨h1, fun t x hx => ?_, core _ (fun n b hn => ?_), r.inj, by rw [put_defers]; exact r.defers, kept _ (fun h => ⟨h, rfl⟩), m.cells, hdom, m.named, free, older, newer, fun n g hp hl => by
        obtain ⟨b, h1, h2⟩ := r.link n g hp (by simpa only [look_freeze, Option.isSome_map] using hl)
        exact ⟨b, h1, (m.grow g b h2).1⟩⟩⟩
      · rcases h2 t x hx with ⟨_, rfl, hv⟩ | ⟨_, hx, hv⟩
        · exact ⟨v, hv, m.val⟩
        · obtain ⟨u, hu, hy⟩ := r.tm t x hx
          exact ⟨u, by rw [hv]; exact hu, hy.mono m.grow hheapS m.up (fun _ _ h => h)⟩
      · obtain ⟨fr, cs, _, _, hl, _⟩ := r.lo n b hn
        exact ⟨fr, cs, hl, by rw [look_freeze, hl]; rfl⟩
    | some cs =>
      rw [hnew] at hs
      simp only at hs
      cases hdst : o.dst with
      | none => rw [hdst] at hs; cases hs
      | some n =>
        rw [hdst] at hs
        simp only at hs
        split at hs
        · rename_i hnone
          have hnone : look s.lo n = none := by simpa using hnone
          cases hs
          obtain ⟨b, vs, hι', hb1, hb2, hbh, hbab, hbS, hbD⟩ := m.new cs hnew
          rw [hdst] at hι'
          simp only [Option.getD_some] at hι'
          have hιn : ι n = none := by
            cases h : ι n with
            | none => rfl
            | some b' => obtain ⟨_, _, _, _, hl, _⟩ := r.lo n b' h; rw [hnone] at hl; cases hl
          have hext : ∀ k c, ι k = some c → ι' k = some c := fun k c h => by
            rw [hι']; split
            · rename_i hk; subst hk; rw [hιn] at h; cases h
            · exact h
          obtain ⟨h1, h2⟩ := put_get (a := a) (dst := some n) (v := v) (tm := s.tm) (d := d) r.len
          refine ⟨ι', S', ⟨h1, fun t x hx => ?_, fun k c hk => ?_, fun k l c hk hl => ?_, by rw [put_defers]; exact r.defers, kept _ (fun h => ⟨h, rfl⟩), m.cells, hdom, m.named, free, older, newer, fun k g hp hkl => ?_⟩⟩
          · rcases h2 t x hx with ⟨_, rfl, hv⟩ | ⟨_, hx, hv⟩
            · exact ⟨v, hv, m.val⟩
            · obtain ⟨u, hu, hy⟩ := r.tm t x hx
              exact ⟨u, by rw [hv]; exact hu, hy.mono m.grow hheapS m.up hext⟩
          · by_cases hkn : k = n
            · subst hkn
              have : c = b := by rw [hι', if_pos rfl] at hk; cases hk; rfl
              subst this
              exact ⟨false, cs, vs, e.el, by simp [look], hbh, hbab, fun _ => hbS, Nat.le_trans r.kept.size hb1, hbD, fun t ht => by simp [elOf] at ht; exact ht⟩
            · have hk' : ι k = some c := by rw [hι', if_neg hkn] at hk; exact hk
              obtain ⟨fr, ds, us, el, hl, rest⟩ := core (freezeIn e.frz s.lo) (fun n b hn => by
                obtain ⟨fr, cs, _, _, hl, _⟩ := r.lo n b hn
                exact ⟨fr, cs, hl, by rw [look_freeze, hl]; rfl⟩) k c hk'
              obtain ⟨r1, r2, r3, r4, r5, r6⟩ := rest
              exact ⟨fr, ds, us, el, by simp only [look, if_neg (Ne.symm hkn)]; exact hl, r1, r2, r3, r4, r5, fun t ht => r6 t (by simpa only [elOf, if_neg (Ne.symm hkn)] using ht)⟩
          · rw [hι'] at hk hl
            split at hk <;> split at hl
            · subst_vars; rfl
            · cases hk; have := hlt l b hl; omega
            · cases hl; have := hlt k b hk; omega
            · exact r.inj k l c hk hl
          · rcases List.mem_append.1 hp with hp | hp
            · cases hpe : e.pend with
              | none => rw [hpe] at hp; cases hp
              | some g0 =>
                rw [hpe] at hp
                have := List.mem_singleton.1 hp
                cases this
                obtain ⟨b', hb', hρ'⟩ := m.pend g hpe
                rw [hdst] at hb'
                exact ⟨b', hb', hρ'⟩
            · obtain ⟨hp, hne⟩ := List.mem_filter.1 hp
              have hkn : k ≠ n := by simpa using hne
              simp only [look, if_neg (Ne.symm hkn), look_freeze, Option.isSome_map] at hkl
              obtain ⟨c, h3, h4⟩ := r.link k g hp hkl
              exact ⟨c, by rw [hι', if_neg hkn]; exact h3, (m.grow g c h4).1⟩
        · cases hs
end
end Go.Proofs.YtpckjfncecoibaaGreat.Fun
