/- A region that draws its order, whole. -/
import Derived.Test.YtpckjfncecoibaaGreatFunDraw
namespace Go.Proofs.YtpckjfncecoibaaGreat.Fun
open Go
set_option linter.unusedSimpArgs false
set_option linter.unusedVariables false

theorem countP_le {p q : Nat → Bool} : ∀ (l : List Nat), (∀ x, q x = true → p x = true) → l.countP q ≤ l.countP p
  | [], _ => Nat.le_refl _
  | x :: l, h => by
    have := countP_le l h
    simp only [List.countP_cons]
    by_cases hq : q x = true
    · simp [hq, h x hq]; exact this
    · simp [hq]; omega
theorem countP_lt {p q : Nat → Bool} {i : Nat} : ∀ (l : List Nat), (∀ x, q x = true → p x = true) → i ∈ l → p i = true → q i = false → l.countP q < l.countP p
  | x :: l, h, hi, hp, hq => by
    simp only [List.countP_cons]
    rcases List.mem_cons.1 hi with rfl | hi
    · have := countP_le l h
      simp [hp, hq]; omega
    · have := countP_lt l h hi hp hq
      by_cases hx : q x = true
      · simp [hx, h x hx]; exact this
      · simp [hx]; omega

section
variable {P : Program} {T : TypeId → Option TI} {ops : Array Oper} {Q : Exit → Act → World → Prop}

theorem wpAny_of_inv {Inv : Array Bool → Act → World → Prop}
    (hstep : ∀ listed a w, listed.size = ops.size → Inv listed a w → ∀ i ∈ Region.ready .any ops listed, wpOp P ops Q i (fun a' w' => Inv (listed.setIfInBounds i true) a' w') a w)
    (hend : ∀ listed a w, listed.size = ops.size → Inv listed a w → Region.ready .any ops listed = [] → Q .normal a w) :
    ∀ (fuel : Nat) (listed : Array Bool) (a : Act) (w : World), listed.size = ops.size → (List.range ops.size).countP (fun i => !listed.getD i true) ≤ fuel → Inv listed a w → wpAny P .any ops Q fuel listed a w
  | 0, listed, a, w, hsz, hc, hI => by
    have hr : Region.ready .any ops listed = [] := by
      cases h : Region.ready .any ops listed with
      | nil => rfl
      | cons i l =>
        obtain ⟨hu, o, ho, _⟩ := mem_ready.1 (show i ∈ Region.ready .any ops listed by rw [h]; simp)
        have hlt := (Array.getElem?_eq_some_iff.1 ho).1
        have : 0 < (List.range ops.size).countP (fun i => !listed.getD i true) := List.countP_pos_iff.2 ⟨i, List.mem_range.2 hlt, by simp only [hu]; rfl⟩
        omega
    exact ⟨hr, hend listed a w hsz hI hr⟩
  | fuel + 1, listed, a, w, hsz, hc, hI => by
    refine ⟨fun hr => hend listed a w hsz hI hr, fun i hi => ?_⟩
    obtain ⟨hu, o, ho, _⟩ := mem_ready.1 hi
    have hlt := (Array.getElem?_eq_some_iff.1 ho).1
    refine wpOp_mono (fun a' w' h => wpAny_of_inv hstep hend fuel _ a' w' (by simp [hsz]) ?_ h) (hstep listed a w hsz hI i hi)
    have : (List.range ops.size).countP (fun j => !(listed.setIfInBounds i true).getD j true) < (List.range ops.size).countP (fun j => !listed.getD j true) := by
      refine countP_lt (i := i) _ (fun x hx => ?_) (List.mem_range.2 hlt) (by simp only [hu]; rfl) ?_
      · by_cases hxi : i = x
        · subst hxi
          have : i < listed.size := by omega
          simp [this] at hx
        · rwa [getD_set_ne true hxi] at hx
      · have : i < listed.size := by omega
        simp [this]
    omega

theorem Kept.post {w0 : World} {S0 D0 : Nat → Prop} {mu : Mu} {ι ρ : Nat → Option Nat} {S : Nat → Prop} {w : World} {o : Oper} {d : DV} {e : Eff} {v : Value} {w' : World} {ι' ρ' : Nat → Option Nat} {S' : Nat → Prop} {dd : Bool}
    (k : Kept w0 S0 D0 S w dd) (hdom : ∀ b, Dom ρ mu b → D0 b ∨ w0.heap.size ≤ b) (hι : ∀ n b, ι n = some b → b < w.heap.size ∧ w0.heap.size ≤ b) (m : MonoPost ι ρ S mu w o d e false v w' ι' ρ' S') : Kept w0 S0 D0 S' w' dd :=
  { os := m.os.trans k.os, tape := m.tape.trans k.tape, output := m.output.trans k.output, size := Nat.le_trans k.size m.size,
    old := fun b hb hn hD => by rw [m.clean rfl b (Nat.lt_of_lt_of_le hb k.size) (fun h => (hdom b h).elim hD (fun h => by omega)), k.old b hb hn hD]
    clean := fun hd b hb hD => by rw [m.clean rfl b (Nat.lt_of_lt_of_le hb k.size) (fun h => (hdom b h).elim hD (fun h => by omega)), k.clean hd b hb hD]
    up := fun b hb => m.up b (k.up b hb)
    from_ := fun b hb => by
      rcases m.from_ b hb with h | ⟨h, _⟩ | ⟨n, _, h⟩
      · exact k.from_ b h
      · right; have := k.size; omega
      · exact .inr (hι n b h).2
    sane := fun b hb => by
      rcases m.from_ b hb with h | ⟨_, h⟩ | ⟨n, _, h⟩
      · have := k.sane b h; have := m.size; omega
      · exact h
      · have := (hι n b h).1; have := m.size; omega }

theorem look_drop1 {n k : Nat} : ∀ {lo : List (Nat × Bool × List DV)}, look (dropLo [n] lo) k = if k = n then none else look lo k
  | [] => by simp [dropLo, look]
  | (m, x) :: rest => by
    simp only [dropLo]
    by_cases hm : m = n
    · subst hm
      rw [if_pos (by simp), look_drop1]
      split
      · rfl
      · rename_i h; simp only [look, if_neg (Ne.symm h)]
    · rw [if_neg (by simpa using hm)]
      simp only [look]
      by_cases hk : m = k
      · subst hk; rw [if_pos rfl, if_neg hm, if_pos rfl]
      · rw [if_neg hk, if_neg hk]; exact look_drop1
theorem elOf_drop1 {n k : Nat} : ∀ {el : List (Nat × TypeId)} {t : TypeId}, k ≠ n → elOf (dropEl [n] el) k = some t → elOf el k = some t
  | [], _, _, h => by simp [dropEl, elOf] at h
  | (m, x) :: rest, t, hk, h => by
    simp only [dropEl] at h
    by_cases hm : m = n
    · subst hm
      rw [if_pos (by simp)] at h
      simp only [elOf, if_neg (Ne.symm hk)]
      exact elOf_drop1 hk h
    · rw [if_neg (by simpa using hm)] at h
      simp only [elOf] at h ⊢
      split
      · rename_i he; rw [if_pos he] at h; exact h
      · rename_i he; rw [if_neg he] at h; exact elOf_drop1 hk h
theorem Rel.pub1 {w0 : World} {S0 D0 : Nat → Prop} {ρ0 : Nat → Option Nat} {F0 : List Nat} {ι ρ : Nat → Option Nat} {S : Nat → Prop} {w : World} {s : St} {a : Act} (r : Rel w0 S0 D0 ρ0 F0 ι ρ S w s a) {p : Nat × Nat} (hp : p ∈ s.pend) :
    (∃ ι', Rel w0 S0 D0 ρ0 F0 ι' ρ S w (pub1 s p) a) ∧ (Fun.pub1 s p).pend = s.pend := by
  obtain ⟨n, g⟩ := p
  unfold Fun.pub1
  split
  · rename_i cs hl
    simp only at hl
    split
    · rename_i htm
      rw [List.all_eq_true] at htm
      obtain ⟨b, hb, hg⟩ := r.link n g hp (by rw [hl]; rfl)
      obtain ⟨fr, cs', vs, elem, hl2, hheap, hab, hfr, hge, hnd, hel⟩ := r.lo n b hb
      rw [hl] at hl2; cases hl2
      have hnS := hfr rfl
      have hnone : ∀ o, s.mu g o = none := fun o => by
        cases hh : s.mu g o with
        | none => rfl
        | some d => exact absurd ⟨g, o, d, hg, hh⟩ hnd
      have hmu' : ∀ c o d, updMu s.mu g 0 cs c o = some d → (c = g ∧ cs[o]? = some d) ∨ s.mu c o = some d := fun c o d h => by
        rw [updMu_get] at h
        split at h
        · rename_i hc; exact .inl ⟨hc.1, by simpa using h⟩
        · exact .inr h
      have hdom : ∀ c, Dom ρ (updMu s.mu g 0 cs) c → Dom ρ s.mu c ∨ c = b := by
        rintro c ⟨m, o, d, h1, h2⟩
        rcases hmu' m o d h2 with ⟨rfl, _⟩ | h
        · rw [hg] at h1; cases h1; exact .inr rfl
        · exact .inl ⟨m, o, d, h1, h⟩
      refine ⟨⟨fun k => if k = n then none else ι k, r.len, fun t d hd => ?_, fun k c hk => ?_, fun k l c hk hl' => ?_, r.defers, r.kept, fun c o d hd => ?_, fun c hc => ?_, ⟨fun m k c o o' h1 h2 h3 h4 => ?_, r.named.lt⟩, r.free, r.older, r.newer, fun k g' hp' hkl => ?_⟩, rfl⟩
      · obtain ⟨v, hv, ha⟩ := r.tm t d hd
        refine ⟨v, hv, ?_⟩
        cases d <;> first | exact ha | skip
        rename_i m off
        obtain ⟨c, hc, rfl⟩ := ha
        have hmn := htm (.loc m off) (List.mem_of_getElem? hd)
        simp only [bne_iff_ne, ne_eq] at hmn
        exact ⟨c, (if_neg hmn).trans hc, rfl⟩
      · split at hk
        · cases hk
        · rename_i hkn
          obtain ⟨fr, ds, us, el, q1, q2, q3, q4, q5, q6, q7⟩ := r.lo k c hk
          refine ⟨fr, ds, us, el, by simp only [look_drop1, if_neg hkn]; exact q1, q2, q3, q4, q5, fun hD => ?_, fun t ht => q7 t (elOf_drop1 hkn ht)⟩
          rcases hdom c hD with h | h
          · exact q6 h
          · subst h; exact hkn (r.inj k n c hk hb)
      · split at hk
        · cases hk
        · split at hl'
          · cases hl'
          · exact r.inj k l c hk hl'
      · rcases hmu' c o d hd with ⟨rfl, h⟩ | h
        · obtain ⟨v, hv, ha⟩ := hab.get h
          refine ⟨b, hg, hnS, .of_cell (by simp [World.frozen?, hheap]) (v := v) ?_ ha⟩
          simp only [World.cell?, hheap]
          simpa using hv
        · exact r.mu c o d h
      · rcases hdom c hc with h | h
        · exact r.dom c h
        · subst h; exact .inr hge
      · obtain ⟨x, hx⟩ := Option.isSome_iff_exists.1 h3
        obtain ⟨y, hy⟩ := Option.isSome_iff_exists.1 h4
        rcases hmu' m o x hx with ⟨rfl, _⟩ | hx2 <;> rcases hmu' k o' y hy with ⟨rfl, _⟩ | hy2
        · rfl
        · rw [hg] at h1; cases h1; exact absurd ⟨k, o', y, h2, hy2⟩ hnd
        · rw [hg] at h2; cases h2; exact absurd ⟨m, o, x, h1, hx2⟩ hnd
        · exact r.named.inj m k c o o' h1 h2 (by rw [hx2]; rfl) (by rw [hy2]; rfl)
      · simp only [look_drop1] at hkl
        split at hkl
        · cases hkl
        · rename_i hkn
          obtain ⟨c, h1, h2⟩ := r.link k g' hp' hkl
          exact ⟨c, (if_neg hkn).trans h1, h2⟩
    · exact ⟨⟨ι, r⟩, rfl⟩
  · exact ⟨⟨ι, r⟩, rfl⟩
theorem Rel.publish {w0 : World} {S0 D0 : Nat → Prop} {ρ0 : Nat → Option Nat} {F0 : List Nat} {ι ρ : Nat → Option Nat} {S : Nat → Prop} {w : World} {s : St} {a : Act} (r : Rel w0 S0 D0 ρ0 F0 ι ρ S w s a) : ∃ ι', Rel w0 S0 D0 ρ0 F0 ι' ρ S w (publish s) a := by
  have gen : ∀ (ps : List (Nat × Nat)) (s : St) (ι : Nat → Option Nat), Rel w0 S0 D0 ρ0 F0 ι ρ S w s a → (∀ p ∈ ps, p ∈ s.pend) → ∃ ι', Rel w0 S0 D0 ρ0 F0 ι' ρ S w (pubAll ps s) a := by
    intro ps
    induction ps with
    | nil => intro s ι r _; exact ⟨ι, r⟩
    | cons p ps ih =>
      intro s ι r h
      obtain ⟨⟨ι', r'⟩, hpe⟩ := r.pub1 (h p (by simp))
      exact ih _ ι' r' fun q hq => by rw [hpe]; exact h q (by simp [hq])
  obtain ⟨ι', r'⟩ := gen s.pend s ι r (fun _ h => h)
  exact ⟨ι', r'.len, r'.tm, r'.lo, r'.inj, r'.defers, r'.kept, r'.mu, r'.dom, r'.named, r'.free, r'.older, r'.newer, fun n g hp => by cases hp⟩
/-- Some operations of the piece from s to e have come up: what is known. -/
structure J (w0 : World) (S0 D0 : Nat → Prop) (ρ0 : Nat → Option Nat) (F0 : List Nat) (ops : Array Oper) (f : Nat → St) (W : Nat → Bool) (s e : Nat) (L : Nat → Prop) (t : Nat) (ι ρ : Nat → Option Nat) (S : Nat → Prop) (a : Act) (w : World) : Prop where
  tw : s ≤ t ∧ t ≤ e ∧ ∀ k, s ≤ k → k < e → W k = true → (L k ↔ k < t)
  len : a.tmps.size = (f s).tm.length
  A : ∀ (i : Nat) o (t : Nat) d, s ≤ i → i < e → ops[i]? = some o → L i → o.dst = some t → (f (i + 1)).tm[t]? = some d → ∃ v, a.tmps[t]? = some v ∧ TAbs ι ρ S w d v
  B : ∀ (t : Nat) d, (f s).tm[t]? = some d → (∀ (i : Nat) o, s ≤ i → i < e → ops[i]? = some o → L i → o.dst ≠ some t) → ∃ v, a.tmps[t]? = some v ∧ TAbs ι ρ S w d v
  lo : ∀ n b, ι n = some b → ∃ fr cs vs elem, look (f e).lo n = some (fr, cs) ∧ w.heap[b]? = some (.cells vs elem (0, 0)) ∧ (vs.size = cs.length ∧ ((∀ q, s ≤ q → q < e → Tgt ops f q n → L q) → AbsL ρ S w cs vs.toList)) ∧ (fr = false → ¬ S b) ∧ w0.heap.size ≤ b ∧ ¬ Dom ρ (f t).mu b ∧ ∀ t, elOf (f e).el n = some t → elem = t
  T : ∀ (q n : Nat), s ≤ q → q < e → L q → Tgt ops f q n → ∃ b, ι n = some b
  C : ∀ n b, ι n = some b → (look (f s).lo n).isSome = true ∨ ∃ (j : Nat) (o : Oper), s ≤ j ∧ j < e ∧ L j ∧ ops[j]? = some o ∧ o.dst = some n
  inj : ∀ n k b, ι n = some b → ι k = some b → n = k
  defers : a.defers = []
  kept : Kept w0 S0 D0 S w (f s).dirty
  mu : MuOk ρ S w (f t).mu
  dom : ∀ b, Dom ρ (f t).mu b → D0 b ∨ w0.heap.size ≤ b
  named : Named ρ (f t).mu w
  free : ∀ n ∈ (f s).free, n ∈ F0 ∧ (ρ n = none ∨ ∃ q, s ≤ q ∧ q < e ∧ L q ∧ n ∈ (f q).free ∧ n ∉ (f (q + 1)).free)
  older : Ext ρ0 w0 ρ w
  newer : ∀ n b, ρ n = some b → ρ0 n = some b ∨ n ∈ F0
  link : ∀ n g (q : Nat) (p : Oper), (n, g) ∈ (f e).pend → s ≤ q → q < e → ops[q]? = some p → p.dst = some n → L q → ∃ b, ι n = some b ∧ ρ g = some b
  none0 : (f s).pend = []

variable {w0 : World} {S0 D0 : Nat → Prop} {ρ0 : Nat → Option Nat} {F0 : List Nat} {f : Nat → St} {W R : Nat → Bool} {hide : List Nat} {g : Nat → Option Nat} (hT : ∀ t ti, T t = some ti → tiOf P t = some ti)

/-- The local variables that a piece stores to: each by one operation. -/
structure Own (ops : Array Oper) (hide : List Nat) (g : Nat → Option Nat) (s e : Nat) : Prop where
  mem : ∀ q n, s ≤ q → q < e → g q = some n → n ∈ hide
  one : ∀ q q' n, s ≤ q → q < e → s ≤ q' → q' < e → g q = some n → g q' = some n → q = q'
theorem Canon.tgt {s e : Nat} (c : Canon P T ops hide g s e f W R) {q n : Nat} (h1 : s ≤ q) (h2 : q < e) (h : Tgt ops f q n) : g q = some n := by
  obtain ⟨o, t, a, x, off, ho, hgn, hop, ha⟩ := h
  obtain ⟨sc, out, hs, _, hob, hl, _, _⟩ := c.step q h1 h2
  obtain ⟨o', ho', _, hcase⟩ := stepI_inv (P := P) hs hob
  rw [ho] at ho'; cases ho'
  rcases hcase with ⟨hg, _⟩ | ⟨_, _, ob, hst, _, hl', _, _⟩ | ⟨_, h, _⟩
  · unfold GuardIs at hg; rw [hgn] at hg; cases hg
  · rw [hl] at hl'
    have hadr : storeAdr (f q) o = false := by unfold storeAdr; rw [hop]; simp only; rw [ha]
    rw [hadr] at hl'
    obtain ⟨t', a', x', n', _, _, _, _, hop', _, ha', hm, _⟩ := storeFull_spec hst (by simpa using hl'.symm)
    rw [hop] at hop'; cases hop'
    rw [ha] at ha'; cases ha'
    exact hm
  · rw [hop] at h; cases h

theorem Canon.wr_sens {s e : Nat} (c : Canon P T ops hide g s e f W R) {k : Nat} (h1 : s ≤ k) (h2 : k < e) (h : W k = true) : R k = true := by
  obtain ⟨sc, out, hs, _, hob, _, hw, hr⟩ := c.step k h1 h2
  obtain ⟨o, _, _, hcase⟩ := stepI_inv (P := P) hs hob
  rw [← hr]
  rw [← hw] at h
  rcases hcase with ⟨_, _, h', _⟩ | ⟨_, _, _, _, _, _, h1', h2'⟩ | ⟨_, _, _, _, _, _, _, _, _, _, _, _, h1', h2'⟩
  · rw [h'] at h; cases h
  · rw [h2', ← h1']; exact h
  · rw [h2', ← h1', h, Bool.or_true]
/-- Between two places with no writer of others' cells between them nothing is otherwise in them. -/
theorem Canon.quiet {s e : Nat} (c : Canon P T ops hide g s e f W R) {a b : Nat} (h1 : s ≤ a) (h2 : a ≤ b) (h3 : b ≤ e) (h : ∀ q, a ≤ q → q < b → W q = false) : (f b).mu = (f a).mu := by
  obtain ⟨d, rfl⟩ : ∃ d, b = a + d := ⟨b - a, by omega⟩
  obtain ⟨_, _, _, _, h5, _⟩ := c.between d a h1 (by omega)
  exact (h5 h).1

/-- What an operation looks at is known when it may come up. -/
theorem J.sees {s e : Nat} (c : Canon P T ops hide g s e f W R) (k : PieceOk ops s e)
    {L : Nat → Prop} {t0 : Nat} {ι ρ : Nat → Option Nat} {S : Nat → Prop} {a : Act} {w : World} (j : J w0 S0 D0 ρ0 F0 ops f W s e L t0 ι ρ S a w) {i : Nat} (hs : s ≤ i) (hi : i < e) {o : Oper} (ho : ops[i]? = some o) (hL : ¬ L i)
    (hall : ∀ x ∈ o.after, Region.binds .any x = true → L x.on) : ∀ (t : Nat) d, t ∈ o.looksAt ops → (f i).tm[t]? = some d → ∃ v, a.tmps[t]? = some v ∧ TAbs ι ρ S w d v := by
  intro t d ht hd'
  by_cases hw : ∃ (q : Nat) (p : Oper), s ≤ q ∧ q < e ∧ ops[q]? = some p ∧ p.dst = some t ∧ q ≠ i
  · obtain ⟨q, p, hq1, hq2, hp, hpd, hne⟩ := hw
    obtain ⟨_, hlook⟩ := k i q o p t hs hi hq1 hq2 ho hp hne hpd
    obtain ⟨hlt, x, hx, heq, hb⟩ := hlook ht
    have hLq : L q := heq ▸ hall x hx hb
    obtain ⟨x0, hdd⟩ : ∃ dd, i = q + 1 + dd := ⟨i - (q + 1), by omega⟩
    obtain ⟨_, _, _, h4, _⟩ := c.between x0 (q + 1) (by omega) (by omega)
    have := h4 t (fun x y h1 h2 hy => (k x q y p t (by omega) (by omega) hq1 hq2 hy hp (by omega) hpd).1)
    rw [← hdd] at this
    exact j.A q p t d hq1 hq2 hp hLq hpd (by rw [← this]; exact hd')
  · obtain ⟨x0, hdd⟩ : ∃ dd, i = s + dd := ⟨i - s, by omega⟩
    obtain ⟨_, _, _, h4, _⟩ := c.between x0 s (Nat.le_refl _) (by omega)
    have := h4 t (fun x y h1 h2 hy hyd => hw ⟨x, y, h1, by omega, hy, hyd, by omega⟩)
    rw [← hdd] at this
    exact j.B t d (by rw [← this]; exact hd') (fun x y h1 h2 hy hx hyd => hw ⟨x, y, h1, h2, hy, hyd, by rintro rfl; exact hL hx⟩)

include hT in
/-- One more operation comes up. -/
theorem J.step {s e : Nat} (c : Canon P T ops hide g s e f W R) (k : PieceOk ops s e) (own : Own ops hide g s e)
    {L : Nat → Prop} {t0 : Nat} {ι ρ : Nat → Option Nat} {S : Nat → Prop} {a : Act} {w : World} (j : J w0 S0 D0 ρ0 F0 ops f W s e L t0 ι ρ S a w) {i : Nat} (hsi : s ≤ i) (hi : i < e) {o : Oper} (ho : ops[i]? = some o) (hL : ¬ L i)
    (hall : ∀ x ∈ o.after, Region.binds .any x = true → L x.on) {K : Act → World → Prop} (hL1 : ∀ j, ((masks ops.toList []).getD i 0).testBit j = true → L j) (hL2 : ∀ k j, L k → ((masks ops.toList []).getD k 0).testBit j = true → L j) (hK : ∀ t' ι' ρ' S' a' w', J w0 S0 D0 ρ0 F0 ops f W s e (fun x => L x ∨ x = i) t' ι' ρ' S' a' w' → K a' w') : wpOp P ops Q i K a w := by
  have sees := j.sees c k hsi hi ho hL hall
  obtain ⟨sc, out, hs, hout, hob, hloud, hwi, hri⟩ := c.step i hsi hi
  obtain ⟨o', ho', hdst, hcase⟩ := stepI_inv (P := P) hs hob
  rw [ho] at ho'; cases ho'
  rw [hout, hloud, hwi, hri] at hcase
  have hwant : ∀ b, GuardIs ops (f i).tm o b → Region.wanted o (yielded ops a.tmps) = b := fun b hg => hg.wanted sees
  have hιb : ∀ n b, ι n = some b → b < w.heap.size ∧ w0.heap.size ≤ b := fun n b h => by obtain ⟨_, _, _, _, _, hb, _, _, h, _⟩ := j.lo n b h; exact ⟨lt_of_block hb, h⟩
  obtain ⟨x0, hx0⟩ : ∃ dd, i = s + dd := ⟨i - s, by omega⟩
  obtain ⟨toI1, _, toI3, _, _, _⟩ := c.between x0 s (Nat.le_refl _) (by omega)
  rw [← hx0] at toI1 toI3
  obtain ⟨ht1, ht2, htw⟩ := j.tw
  -- what is known of others' cells now is what is known of them ahead of i in the text, if i looks at them
  have hmui : R i = true → (f i).mu = (f t0).mu := fun hR => by
    rcases Nat.lt_or_ge i t0 with hlt | hge
    · have := c.quiet (a := i) (b := t0) hsi (by omega) ht2 fun q h1 h2 => by
        cases hq : W q with
        | false => rfl
        | true =>
          exfalso
          have hLq := (htw q (by omega) (by omega) hq).2 h2
          rcases Nat.lt_or_eq_of_le h1 with h | h
          · exact hL (hL2 q i hLq (c.ord i q hsi h (by omega) (.inr hq) hR (c.wr_sens (by omega) (by omega) hq)))
          · subst h; exact hL hLq
      exact this.symm
    · exact c.quiet (a := t0) (b := i) ht1 hge (by omega) fun q h1 h2 => by
        cases hq : W q with
        | false => rfl
        | true =>
          exfalso
          have hLq := hL1 q (c.ord q i (by omega) h2 hi (.inl hq) (c.wr_sens (by omega) (by omega) hq) hR)
          have := (htw q (by omega) (by omega) hq).1 hLq
          omega
  have added : ∀ n g, (n, g) ∈ (f e).pend → o.dst = some n → (n, g) ∈ (f (i + 1)).pend ∧ (n, g) ∉ (f i).pend := fun n g hp hd => by
    obtain ⟨dd, hdd⟩ : ∃ dd, e = s + dd := ⟨e - s, by omega⟩
    obtain ⟨_, _, _, _, _, _, _, h8⟩ := c.between dd s (Nat.le_refl _) (by omega)
    rw [← hdd] at h8
    rcases h8 n g hp with h | ⟨x, p, y1, y2, y3, y4, _, y6, y7⟩
    · rw [j.none0] at h; cases h
    · have hxi : x = i := Classical.byContradiction fun hne => (k i x o p n hsi hi y1 y2 ho y3 (fun h => hne h) y4).1 hd
      subst hxi
      exact ⟨y6, y7⟩
  have hmono : ∀ p q, s ≤ p → p ≤ q → q ≤ e → ∀ n ∈ (f q).free, n ∈ (f p).free := fun p q h1 h2 h3 => by
    obtain ⟨dd, rfl⟩ : ∃ dd, q = p + dd := ⟨q - p, by omega⟩
    obtain ⟨_, _, _, _, _, _, h7, _⟩ := c.between dd p h1 h3
    exact h7
  have hUse : ∀ n, n ∈ (f i).free → n ∉ (f (i + 1)).free → ρ n = none ∧ n ∈ F0 := fun n h1 h2 => by
    obtain ⟨h3, h4⟩ := j.free n (hmono s i (Nat.le_refl _) hsi (by omega) n h1)
    refine ⟨h4.resolve_right ?_, h3⟩
    rintro ⟨q, q1, q2, q3, q4, q5⟩
    rcases Nat.lt_trichotomy q i with h | h | h
    · exact q5 (hmono (q + 1) i (by omega) (by omega) (by omega) n h1)
    · subst h; exact hL q3
    · exact h2 (hmono (i + 1) q (by omega) (by omega) (by omega) n q4)
  have htwN : W i = false → ∀ k, s ≤ k → k < e → W k = true → ((L k ∨ k = i) ↔ k < t0) := fun hW k h1 h2 h3 =>
    ⟨fun h => (htw k h1 h2 h3).1 (h.resolve_right (by rintro rfl; rw [hW] at h3; cases h3)), fun h => .inl ((htw k h1 h2 h3).2 h)⟩
  have htwY : W i = true → ∀ k, s ≤ k → k < e → W k = true → ((L k ∨ k = i) ↔ k < i + 1) := fun hW k h1 h2 h3 => by
    constructor
    · rintro (h | rfl)
      · rcases Nat.lt_or_ge i k with hlt | hge
        · exact absurd (hL2 k i h (c.ord i k hsi hlt h2 (.inl hW) (c.wr_sens hsi hi hW) (c.wr_sens h1 h2 h3))) hL
        · omega
      · omega
    · intro h
      rcases Nat.lt_or_eq_of_le (Nat.le_of_lt_succ h) with h | h
      · exact .inl (hL1 k (c.ord k i h1 h hi (.inl h3) (c.wr_sens h1 h2 h3) (c.wr_sens hsi hi hW)))
      · exact .inr h
  -- the new temporaries
  have tmps : ∀ (x : DV) (v : Value) (ι' ρ' : Nat → Option Nat) (S' : Nat → Prop) (w' : World), (f (i + 1)).tm = putTm (f i).tm o.dst x → TAbs ι' ρ' S' w' x v →
      (∀ d u, TAbs ι ρ S w d u → TAbs ι' ρ' S' w' d u) →
      (a.put o.dst v).tmps.size = (f s).tm.length ∧
      (∀ (i' : Nat) o' (t : Nat) d, s ≤ i' → i' < e → ops[i']? = some o' → (L i' ∨ i' = i) → o'.dst = some t → (f (i' + 1)).tm[t]? = some d → ∃ u, (a.put o.dst v).tmps[t]? = some u ∧ TAbs ι' ρ' S' w' d u) ∧
      (∀ (t : Nat) d, (f s).tm[t]? = some d → (∀ (i' : Nat) o', s ≤ i' → i' < e → ops[i']? = some o' → (L i' ∨ i' = i) → o'.dst ≠ some t) → ∃ u, (a.put o.dst v).tmps[t]? = some u ∧ TAbs ι' ρ' S' w' d u) := by
    intro x v ι' ρ' S' w' hx hv hmono
    have same : ∀ t, o.dst ≠ some t → (a.put o.dst v).tmps[t]? = a.tmps[t]? := fun t ht => by
      cases hod : o.dst with
      | none => rfl
      | some q => rw [hod] at ht; simp only [Act.put]; rw [Array.getElem?_setIfInBounds_ne (by simpa using ht)]
    refine ⟨by rw [← j.len]; cases o.dst <;> simp [Act.put], fun i' o' t d h0 h1 h2 h3 h4 h5 => ?_, fun t d h1 h2 => ?_⟩
    · by_cases hii : i' = i
      · subst hii
        rw [ho] at h2; cases h2
        have hlt := hdst t h4
        rw [hx, h4] at h5
        simp only [putTm] at h5
        rw [List.getElem?_set_self hlt] at h5
        cases h5
        refine ⟨v, ?_, hv⟩
        rw [h4]
        simp only [Act.put]
        rw [Array.getElem?_setIfInBounds_self_of_lt (by rw [j.len, ← toI3]; exact hlt)]
      · have hne : o.dst ≠ some t := (k i i' o o' t hsi hi h0 h1 ho h2 hii h4).1
        obtain ⟨u, hu, hd'⟩ := j.A i' o' t d h0 h1 h2 (h3.resolve_right hii) h4 h5
        exact ⟨u, by rw [same t hne]; exact hu, hmono d u hd'⟩
    · obtain ⟨u, hu, hd'⟩ := j.B t d h1 (fun i' o' z a b c => h2 i' o' z a b (.inl c))
      exact ⟨u, by rw [same t (h2 i o hsi hi ho (.inr rfl))]; exact hu, hmono d u hd'⟩
  -- behind an operation that writes no local variable
  have post : ∀ (d : DV) (ef : Eff) (v : Value) (w' : World) (ι' ρ' : Nat → Option Nat) (S' : Nat → Prop), MonoPost ι ρ S (f t0).mu w o d ef false v w' ι' ρ' S' → (f (i + 1)).tm = putTm (f i).tm o.dst d →
      (∀ n ∈ ef.frz, ∀ fr cs, look (f i).lo n = some (fr, cs) → look (f (i + 1)).lo n = some (true, cs)) →
      (∀ cs, ef.new = some cs → ∃ n, o.dst = some n ∧ look (f i).lo n = none ∧ look (f (i + 1)).lo n = some (false, cs) ∧ elOf (f (i + 1)).el n = some ef.el) →
      (∀ n ∈ ef.frz, (look (f i).lo n).isSome = true) → (∀ n, ¬ Tgt ops f i n) → W i = ef.wr →
      (W i = true → (f (i + 1)).mu = ef.mu.getD (f t0).mu) → (∀ n ∈ ef.use, n ∈ (f i).free ∧ n ∉ (f (i + 1)).free) → (∀ n g, (n, g) ∈ (f (i + 1)).pend → (n, g) ∈ (f i).pend ∨ (o.dst = some n ∧ ef.pend = some g)) → K (a.put o.dst v) w' := by
    intro d ef v w' ι' ρ' S' mp htm hfrz hnew hfrzS hnt hWi hWm hUs hPd
    obtain ⟨t1', htw1, hmuT⟩ : ∃ t1', (s ≤ t1' ∧ t1' ≤ e ∧ ∀ k, s ≤ k → k < e → W k = true → ((L k ∨ k = i) ↔ k < t1')) ∧ (f t1').mu = ef.mu.getD (f t0).mu := by
      cases hW : W i with
      | true => exact ⟨i + 1, ⟨by omega, by omega, htwY hW⟩, hWm hW⟩
      | false =>
        rw [hW] at hWi
        obtain ⟨h1, _⟩ := Bool.or_eq_false_iff.1 hWi.symm
        have hem : ef.mu = none := Option.isNone_iff_eq_none.1 (by simpa using h1)
        exact ⟨t0, ⟨ht1, ht2, htwN hW⟩, by rw [hem]; rfl⟩
    obtain ⟨x1, hx1⟩ : ∃ dd, e = i + dd := ⟨e - i, by omega⟩
    obtain ⟨x2, hx2⟩ : ∃ ee, e = i + 1 + ee := ⟨e - (i + 1), by omega⟩
    obtain ⟨e1, _⟩ := c.between x2 (i + 1) (by omega) (by omega)
    rw [← hx2] at e1
    have hheapS : ∀ b, S b → w'.heap[b]? = w.heap[b]? := fun b hb => mp.clean rfl b (j.kept.sane b hb) (fun h => j.mu.notS h hb)
    have hcells := mp.cells
    have hnewD := mp.new
    have hdomD := mp.dom
    have hnamed := mp.named
    rw [← hmuT] at hcells hnewD hdomD hnamed
    have hnD' : ∀ b, ¬ Dom ρ (f t0).mu b → b < w.heap.size → ¬ Dom ρ' (f t1').mu b := fun b h1 h2 h3 => (hdomD b h3).elim h1 (fun h => by omega)
    have hdom' : ∀ b, Dom ρ' (f t1').mu b → D0 b ∨ w0.heap.size ≤ b := fun b h => (hdomD b h).elim (j.dom b) (fun h => by right; have := j.kept.size; omega)
    have hfree' : ∀ n ∈ (f s).free, n ∈ F0 ∧ (ρ' n = none ∨ ∃ q, s ≤ q ∧ q < e ∧ (L q ∨ q = i) ∧ n ∈ (f q).free ∧ n ∉ (f (q + 1)).free) := fun n hn => by
      obtain ⟨h1, h2⟩ := j.free n hn
      refine ⟨h1, ?_⟩
      rcases h2 with h2 | ⟨q, q1, q2, q3, q4⟩
      · cases h : ρ' n with
        | none => exact .inl rfl
        | some b =>
          rcases mp.back n b h with h' | h'
          · rw [h2] at h'; cases h'
          · exact .inr ⟨i, hsi, hi, .inr rfl, hUs n h'⟩
      · exact .inr ⟨q, q1, q2, .inl q3, q4⟩
    have hnewer' : ∀ n b, ρ' n = some b → ρ0 n = some b ∨ n ∈ F0 := fun n b h => by
      rcases mp.back n b h with h' | h'
      · exact j.newer n b h'
      · exact .inr (hUse n (hUs n h').1 (hUs n h').2).2
    have hext : ∀ n b, ι n = some b → ι' n = some b := by
      intro n b h
      cases hn : ef.new with
      | none => rw [mp.same hn]; exact h
      | some cs =>
        obtain ⟨b', vs, hι', _⟩ := mp.new cs hn
        obtain ⟨q, hq, hnone, _⟩ := hnew cs hn
        rw [hι', hq]
        simp only [Option.getD_some]
        rw [if_neg]; exact h
        rintro rfl
        rcases j.C n b h with h0 | ⟨x, p, hx1', hx2', hLx, hpx, hpd⟩
        · obtain ⟨⟨fr, cs0⟩, hy⟩ := Option.isSome_iff_exists.1 h0
          obtain ⟨fr', _, hl', _⟩ := toI1 n fr cs0 hy
          rw [hnone] at hl'; cases hl'
        · exact (k i x o p n hsi hi hx1' hx2' ho hpx (by rintro rfl; exact hL hLx) hpd).1 hq
    obtain ⟨t1, t2, t3⟩ := tmps d v ι' ρ' S' w' htm mp.val (fun d u h => h.mono mp.grow hheapS mp.up hext)
    have old : ∀ n b, ι n = some b → ∃ fr cs vs elem, look (f e).lo n = some (fr, cs) ∧ w'.heap[b]? = some (.cells vs elem (0, 0)) ∧ (vs.size = cs.length ∧ ((∀ q, s ≤ q → q < e → Tgt ops f q n → L q ∨ q = i) → AbsL ρ' S' w' cs vs.toList)) ∧ (fr = false → ¬ S' b) ∧ w0.heap.size ≤ b ∧ ¬ Dom ρ' (f t1').mu b ∧ ∀ t, elOf (f e).el n = some t → elem = t := by
      intro n b h
      obtain ⟨fr, cs, vs, elem, hl, hh, ⟨hvl, hab⟩, hfr, hge, hnd, hel⟩ := j.lo n b h
      refine ⟨fr, cs, vs, elem, hl, by rw [mp.clean rfl b (lt_of_block hh) hnd]; exact hh, ⟨hvl, fun hq => AbsL.mono mp.grow hheapS mp.up _ _ (hab fun q x1 x2 x3 => (hq q x1 x2 x3).resolve_right (by rintro rfl; exact hnt n x3))⟩, fun hf hS => ?_, hge, hnD' b hnd (lt_of_block hh), hel⟩
      rcases mp.from_ b hS with h' | ⟨h', _⟩ | ⟨q, hq, hqb⟩
      · exact hfr hf h'
      · have := lt_of_block hh; omega
      · have := j.inj q n b hqb h
        subst this
        obtain ⟨⟨fr0, cs0⟩, hy⟩ := Option.isSome_iff_exists.1 (hfrzS q hq)
        have := hfrz q hq fr0 cs0 hy
        obtain ⟨fr2, _, hl2, hfr2, _⟩ := e1 q true cs0 this
        rw [hl] at hl2
        cases hl2
        rw [hfr2 rfl] at hf; cases hf
    have hlink : ∀ n g (q : Nat) (p : Oper), (n, g) ∈ (f e).pend → s ≤ q → q < e → ops[q]? = some p → p.dst = some n → (L q ∨ q = i) → ∃ b, ι' n = some b ∧ ρ' g = some b := fun n g q p hp hq1 hq2 hqp hqd hLq => by
      rcases hLq with hLq | rfl
      · obtain ⟨b, h1, h2⟩ := j.link n g q p hp hq1 hq2 hqp hqd hLq
        exact ⟨b, hext n b h1, (mp.grow g b h2).1⟩
      · rw [ho] at hqp; cases hqp
        rcases hPd n g (added n g hp hqd).1 with h | ⟨_, h⟩
        · exact absurd h (added n g hp hqd).2
        · obtain ⟨b2, hb2, hρ2⟩ := mp.pend g h
          rw [hqd] at hb2
          exact ⟨b2, hb2, hρ2⟩
    refine hK t1' ι' ρ' S' _ w' ⟨htw1, t1, t2, t3, fun n b h => ?_, fun q n x1 x2 x3 x4 => (j.T q n x1 x2 (x3.resolve_right (by rintro rfl; exact hnt n x4)) x4).imp fun b hb => hext n b hb, fun n b h => ?_, fun n q b h1 h2 => ?_, by rw [put_defers]; exact j.defers, j.kept.post j.dom hιb mp, hcells, hdom', hnamed, hfree', j.older.trans mp.grow, hnewer', hlink, j.none0⟩
    · cases hn : ef.new with
      | none => rw [mp.same hn] at h; exact old n b h
      | some cs =>
        obtain ⟨b', vs, hι', hb1, hb2, hbh, hbab, hbS, hbD⟩ := hnewD cs hn
        obtain ⟨q, hq', hnone, hl, hle⟩ := hnew cs hn
        rw [hι', hq'] at h
        simp only [Option.getD_some] at h
        split at h
        · rename_i hnq
          subst hnq
          cases h
          obtain ⟨fr', cs', hl', _, hlen', hsame, _, hee⟩ := e1 n false cs hl
          refine ⟨fr', cs', vs, _, hl', hbh, ⟨by have := hbab.length; rw [Array.length_toList] at this; omega, fun hq => ?_⟩, fun _ => hbS, Nat.le_trans j.kept.size hb1, hbD, fun t ht => by rw [hee, hle] at ht; cases ht; rfl⟩
          -- a store to it would have come up ahead of it
          have : cs' = cs := hsame fun q h1 h2 h3 => by
            rcases hq q (by omega) (by omega) h3 with hL' | rfl
            · obtain ⟨b0, hb0⟩ := j.T q n (by omega) (by omega) hL' h3
              have hfresh := hext n b0 hb0
              rw [hι', hq'] at hfresh
              simp only [Option.getD_some, if_true] at hfresh
              cases hfresh
              have := (hιb n _ hb0).1
              omega
            · exact hnt n h3
          subst this
          exact hbab
        · exact old n b h
    · cases hn : ef.new with
      | none => rw [mp.same hn] at h; exact (j.C n b h).imp id fun ⟨q, p, z, a, b, c⟩ => ⟨q, p, z, a, .inl b, c⟩
      | some cs =>
        obtain ⟨b', vs, hι', _⟩ := mp.new cs hn
        obtain ⟨q, hq, _, _⟩ := hnew cs hn
        rw [hι', hq] at h
        simp only [Option.getD_some] at h
        split at h
        · rename_i hnq
          subst hnq
          exact .inr ⟨i, o, hsi, hi, .inr rfl, ho, hq⟩
        · exact (j.C n b h).imp id fun ⟨q, p, z, a, b, c⟩ => ⟨q, p, z, a, .inl b, c⟩
    · cases hn : ef.new with
      | none => rw [mp.same hn] at h1 h2; exact j.inj n q b h1 h2
      | some cs =>
        obtain ⟨b', vs, hι', hb1, _⟩ := mp.new cs hn
        rw [hι'] at h1 h2
        split at h1 <;> split at h2
        · subst_vars; rfl
        · cases h1; have := (hιb q b h2).1; omega
        · cases h2; have := (hιb n b h1).1; omega
        · exact j.inj n q b h1 h2

  unfold wpOp
  simp only [ho]
  rcases hcase with ⟨hg, hst', hWi, _⟩ | ⟨hg, hiS, ob, hst', hobs', hl', hWi, hRi⟩ | ⟨hg, hnS, say, d, ef, ob, dirty, hmo, hob', hst', huseA, hl', hWi, hRi⟩
  · rw [if_neg (by rw [hwant _ hg]; simp)]
    obtain ⟨t1, t2, t3⟩ := tmps (.tup []) undef ι ρ S w (by rw [hst']) (by simp only [TAbs, Abs]; exact ⟨[], rfl, .nil⟩) (fun _ _ h => h)
    have hnt : ∀ n, ¬ Tgt ops f i n := fun n ⟨o', _, _, _, _, h1, h2, _⟩ => by
      rw [ho] at h1; cases h1
      unfold GuardIs at hg; rw [h2] at hg; cases hg
    exact hK t0 ι ρ S _ w ⟨⟨ht1, ht2, htwN hWi⟩, t1, t2, t3, fun n b h => by
        obtain ⟨fr, cs, vs, elem, q1, q2, ⟨q3, q4⟩, q5⟩ := j.lo n b h
        exact ⟨fr, cs, vs, elem, q1, q2, ⟨q3, fun hq => q4 fun q x1 x2 x3 => (hq q x1 x2 x3).resolve_right (by rintro rfl; exact hnt n x3)⟩, q5⟩,
      fun q n x1 x2 x3 x4 => j.T q n x1 x2 (x3.resolve_right (by rintro rfl; exact hnt n x4)) x4, fun n b h => (j.C n b h).imp id fun ⟨q, p, z, a, b, c⟩ => ⟨q, p, z, a, .inl b, c⟩, j.inj, by rw [put_defers]; exact j.defers, j.kept, j.mu, j.dom, j.named, fun n hn => (j.free n hn).imp id (Or.imp id fun ⟨q, q1, q2, q3, q4⟩ => ⟨q, q1, q2, .inl q3, q4⟩), j.older, j.newer, fun n g q p hp hq1 hq2 hqp hqd hLq => hLq.elim (j.link n g q p hp hq1 hq2 hqp hqd) (fun h => by subst h; rw [ho] at hqp; cases hqp; have := added n g hp hqd; rw [hst'] at this; exact absurd this.1 this.2), j.none0⟩
  · rw [if_pos (hwant _ hg)]
    have hlook : ∀ (z : Operand) (tt : Nat), z ∈ o.op.operands → z = .tmp tt → tt ∈ o.looksAt ops := fun z tt hz he => by
      subst he
      exact List.mem_append_left _ (List.mem_filterMap.2 ⟨.tmp tt, by simpa using hz, rfl⟩)
    by_cases hadr : storeAdr (f i) o = true
    · obtain ⟨t, ad, x, b, off, ti, d, hop, had, hx, hti, hfirm, hone, hsz, hd, hst2, rfl⟩ := storeAdr_spec hst' hadr
      rw [hadr] at hWi hRi
      have hm1 := hmui hRi
      have hnt : ∀ n, ¬ Tgt ops f i n := fun n ⟨o', _, _, _, _, h1, _, h2, h3⟩ => by
        rw [ho] at h1; cases h1
        rw [hop] at h2; cases h2
        rw [had] at h3; cases h3
      refine .inl (storeAdr_sound hT hop (ev_abs (a := a) ad (fun tt dd he h => sees tt dd (hlook ad tt (by rw [hop]; simp [Op.operands]) he) h) _ had) (ev_abs (a := a) x (fun tt dd he h => sees tt dd (hlook x tt (by rw [hop]; simp [Op.operands]) he) h) _ hx) hti hfirm hone hsz hd (fun y hy => hobs' y (by rw [hm1]; exact hy)) j.named j.mu fun v w' mp => ?_)
      refine post _ _ v w' ι ρ S mp (by rw [hst2, hd]; rfl) (fun n hn => by cases hn) (fun cs h => by cases h) (fun n hn => by cases hn) hnt (by rw [hWi]; rfl) (fun _ => by rw [hst2, ← hm1]; rfl) (fun n hn => by cases hn) (fun n g h => .inl (by rw [hst2] at h; exact h))
    have hadr : storeAdr (f i) o = false := by simpa using hadr
    rw [hadr] at hl' hWi
    obtain ⟨t, ad, x, n, d, ti, cs, hgn, hop, hd, ha, hmine, hx, hti, hlk, hfirm, hone, hsz, hfull, hst2⟩ := storeFull_spec hst' (by simpa using hl'.symm)
    have hnh : n ∈ hide := own.mem i n hsi hi hmine
    have hnl : d.noLoc = true := by cases d <;> first | rfl | simp [DV.firm] at hfirm
    have hany : d ≠ .any := by rintro rfl; simp [DV.firm] at hfirm
    have hlook : ∀ (z : Operand) (tt : Nat), z ∈ o.op.operands → z = .tmp tt → tt ∈ o.looksAt ops := fun z tt hz he => by
      subst he
      exact List.mem_append_left _ (List.mem_filterMap.2 ⟨.tmp tt, by simpa using hz, rfl⟩)
    obtain ⟨b, hb, hadv⟩ := ev_abs (a := a) ad (fun tt dd he h => sees tt dd (hlook ad tt (by rw [hop]; simp [Op.operands]) he) h) _ ha
    have hxv := (ev_abs (a := a) x (fun tt dd he h => sees tt dd (hlook x tt (by rw [hop]; simp [Op.operands]) he) h) _ hx).abs hnl
    have hcells := hxv.cells hany
    obtain ⟨fr, cse, vs, elem, hle, hheap, ⟨hvl, _⟩, hfr, hge, hnd, hel⟩ := j.lo n b hb
    obtain ⟨x2, hx2⟩ : ∃ ee, e = i + 1 + ee := ⟨e - (i + 1), by omega⟩
    have hlk1 : look (f (i + 1)).lo n = some (false, fillAt cs 0 d.cells) := by
      rw [hst2]; simp only; rw [look_set, if_pos rfl, hlk]; rfl
    obtain ⟨e1, _⟩ := c.between x2 (i + 1) (by omega) (by omega)
    rw [← hx2] at e1
    obtain ⟨fr2, cs2, k1, _, k3, k4, k5, _⟩ := e1 n false _ hlk1
    have huniq : ∀ q, s ≤ q → q < e → Tgt ops f q n → q = i := fun q h1 h2 h3 => own.one q i n h1 h2 hsi hi (c.tgt h1 h2 h3) hmine
    have hcs2 := k4 (fun q h1 h2 h3 => by have := huniq q (by omega) (by omega) h3; omega)
    have hfr2 := k5 hnh
    rw [hle] at k1; cases k1
    subst hcs2; subst hfr2
    have hnS : ¬ S b := hfr rfl
    obtain ⟨ii, u, hii, _, hts, _⟩ := tiOf_spec (hT _ _ hti)
    have hlen := hcells.length
    rw [Array.length_toList] at hlen
    rw [fillAt_length] at hvl
    obtain ⟨w', vs', hr, hh, hv, hk, hsz', hos, hta, hou⟩ := run_storeCells (P := P) b 0 elem (a.eval x).cells.toList 0 w vs hheap (hcells.oneCell hone) (by rw [Array.length_toList]; omega)
    have hrun : (execOp a.eval o).run P w = .ok .skip w' := by
      obtain ⟨dst, op, type, pos, after, guard⟩ := o
      simp only at hop
      subst hop
      simp only [execOp, Instr.storeAt, hadv, Instr.sureAddr, Sem.run_bind, Sem.run_pure, Result.andThen, storeVar, run_size hii]
      rw [if_neg (by simp; omega)]
      simp only [hr, Sem.run_pure, Result.andThen]
    left
    unfold Oper.wp
    rw [hrun]
    simp only [Oper.upon]
    have keep : ∀ k', S k' → w'.heap[k']? = w.heap[k']? := fun k' hS => hk k' (by rintro rfl; exact hnS hS)
    have hE : Ext ρ w ρ w' := fun m c' hc => ⟨hc, fun us ee fz hu => by
      by_cases hcb : c' = b
      · subst hcb
        rw [hheap] at hu; cases hu
        exact ⟨vs', hh, by have := congrArg List.length hv; rw [foldl_set_length] at this; simpa using this⟩
      · exact ⟨us, by rw [hk c' hcb]; exact hu, rfl⟩⟩
    obtain ⟨t1, t2, t3⟩ := tmps .any undef ι ρ S w' (by rw [hst2, hd]; rfl) (by simp only [TAbs, Abs]) (fun dd uu h => h.mono hE keep (fun _ h => h) (fun _ _ h => h))
    refine hK t0 ι ρ S _ w' ⟨⟨ht1, ht2, htwN hWi⟩, t1, t2, t3, fun n' b' hn' => ?_, fun q n' x1 x2 x3 x4 => ?_, fun n' b' h => (j.C n' b' h).imp id fun ⟨q, p, z, a, b, c⟩ => ⟨q, p, z, a, .inl b, c⟩, j.inj, by rw [put_defers]; exact j.defers, ?_, j.mu.mono hE keep (fun k' hD => hk k' (by rintro rfl; exact hnd hD)) (fun _ h => h) (fun k' hD => j.mu.notS hD), j.dom, j.named.mono (by omega), fun n hn => (j.free n hn).imp id (Or.imp id fun ⟨q, q1, q2, q3, q4⟩ => ⟨q, q1, q2, .inl q3, q4⟩), j.older.trans hE, j.newer, fun n g q p hp hq1 hq2 hqp hqd hLq => hLq.elim (j.link n g q p hp hq1 hq2 hqp hqd) (fun h => by subst h; rw [ho] at hqp; cases hqp; rw [hd] at hqd; cases hqd), j.none0⟩
    · by_cases hnn : n' = n
      · subst hnn
        rw [hb] at hn'; cases hn'
        refine ⟨false, _, vs', elem, hle, hh, ⟨?_, fun _ => ?_⟩, fun _ => hnS, hge, hnd, hel⟩
        · have := congrArg List.length hv
          rw [Array.length_toList] at this
          rw [this, fillAt_length, ← hvl]
          have gen : ∀ (l : List (Value × Nat)) (xs : List Value), (l.foldl (fun cs (x : Value × Nat) => cs.set x.2 x.1) xs).length = xs.length := by
            intro l; induction l with
            | nil => intro xs; rfl
            | cons y l ih => intro xs; rw [List.foldl_cons, ih]; simp
          rw [gen]; simp
        · -- the whole variable is new
          rw [hv]
          have hanyL : AbsL ρ S w' (List.replicate cs.length .any) vs.toList := .of_get (by simp [hvl]) fun i d v hd _ => by
            rw [List.getElem?_replicate] at hd
            split at hd
            · cases hd; simp only [Abs]
            · cases hd
          have h1 := AbsL.fill (hcells.mono hE keep (fun _ h => h)) (off := 0) hanyL
          have h2 : fillAt (List.replicate cs.length DV.any) 0 d.cells = fillAt cs 0 d.cells := by
            apply List.ext_getElem?
            intro z
            rw [fillAt_get, fillAt_get, List.length_replicate]
            by_cases hz : z < d.cells.length
            · simp [hz, hfull ▸ hz]
            · have hz' : cs.length ≤ z := by omega
              simp [hz, List.getElem?_eq_none hz', List.getElem?_eq_none (l := List.replicate cs.length DV.any) (by simpa using hz')]
          rw [← h2]
          simpa using h1
      · obtain ⟨fr, cs, us, el, q1, q2, ⟨q3, q4⟩, q5, q6, q7, q8⟩ := j.lo n' b' hn'
        have hbb : b' ≠ b := by rintro rfl; exact hnn (j.inj n' n b' hn' hb)
        refine ⟨fr, cs, us, el, q1, by rw [hk b' hbb]; exact q2, ⟨q3, fun hq => AbsL.mono hE keep (fun _ h => h) _ _ (q4 fun q x1 x2 x3 => (hq q x1 x2 x3).resolve_right ?_)⟩, q5, q6, q7, q8⟩
        rintro rfl
        have := c.tgt x1 x2 x3
        rw [hmine] at this; cases this
        exact hnn rfl
    · rcases x3 with x3 | rfl
      · exact j.T q n' x1 x2 x3 x4
      · have := c.tgt x1 x2 x4
        rw [hmine] at this; cases this
        exact ⟨b, hb⟩
    · have k0 := j.kept
      exact ⟨hos.trans k0.os, hta.trans k0.tape, hou.trans k0.output, by rw [hsz']; exact k0.size, fun k' hk' hn hD => by rw [hk k' (by rintro rfl; omega)]; exact k0.old k' hk' hn hD,
        fun hd k' hk' hD => by rw [hk k' (by rintro rfl; omega)]; exact k0.clean hd k' hk' hD, k0.up, k0.from_, fun k' hk' => by rw [hsz']; exact k0.sane k' hk'⟩
  · rw [if_pos (hwant _ hg)]
    have hnt : ∀ n, ¬ Tgt ops f i n := fun n ⟨o', _, _, _, _, h1, _, h2, _⟩ => by
      rw [ho] at h1; cases h1
      rw [h2] at hnS; cases hnS
    have hfrzH : ∀ n ∈ ef.frz, n ∉ hide := fun n hn hh => by
      have := monoOp_frz hmo n hn
      unfold lcH at this
      rw [if_pos (by simpa using hh)] at this
      cases this
    subst hl'
    obtain ⟨htm, hturn, hmuA, hfreeA, hfrz, hnew, hpdA⟩ := apply_turns (ops := ops) (f := f) (hide := hide) (i := i) hst' hdst hfrzH
    obtain ⟨x1, hx1⟩ : ∃ dd, e = i + dd := ⟨e - i, by omega⟩
    obtain ⟨b1, _⟩ := c.between x1 i hsi (by omega)
    rw [← hx1] at b1
    have hWR : W i = true → R i = true := fun h => by rw [hRi, ← hWi, h, Bool.or_true]
    have hmo : monoOp T (f i).ev (lcH hide (f i).lo) ((f i).leH hide) (f t0).mu o say = some (d, ef, ob, false) := by
      cases hR : R i with
      | true => rw [← hmui hR]; exact hmo
      | false =>
        rw [hR] at hRi
        obtain ⟨h1, h2⟩ := Bool.or_eq_false_iff.1 hRi.symm
        exact monoOp_blind hmo h1 h2 _
    refine .inl (monoOp_sound hT hmo hob' j.named j.kept.sane j.mu (fun x hx => ev_abs x (fun t d hxt h => sees t d (by
        subst hxt
        exact List.mem_append_left _ (List.mem_filterMap.2 ⟨.tmp t, by simpa using hx, rfl⟩)) h)) (fun n b h => (hιb n b h).1) (fun n b h => by obtain ⟨_, _, _, _, _, _, _, _, _, hd, _⟩ := j.lo n b h; exact hd) (fun n hn => ?_) (fun n b cs hn hl => ?_) (fun n b t hn ht => ?_) fun v w' ι' ρ' S' mp => ?_)
    · exact (hUse n (huseA n hn) (by rw [hfreeA]; intro h; have := (mem_offUse h).2; simp [hn] at this)).1
    · unfold lcH at hl
      split at hl
      · cases hl
      · rename_i hnh
        have hnh : n ∉ hide := by simpa using hnh
        have hno : ∀ q, s ≤ q → q < e → ¬ Tgt ops f q n := fun q h1 h2 h3 => hnh (own.mem q n h1 h2 (c.tgt h1 h2 h3))
        simp only [lcOf, Option.map_eq_some_iff] at hl
        obtain ⟨⟨fr, cs'⟩, hl, rfl⟩ := hl
        obtain ⟨fr', cs3, hl', _, _, hsame, _⟩ := b1 n fr cs' hl
        have := hsame (fun q h1 h2 => hno q (by omega) (by omega))
        subst this
        obtain ⟨fr2, cs2, vs, elem, hl2, hheap, ⟨_, hab⟩, _⟩ := j.lo n b hn
        rw [hl'] at hl2; cases hl2
        exact ⟨vs, elem, hheap, hab fun q h1 h2 h3 => absurd h3 (hno q h1 h2)⟩
    · -- a local variable's type, as the state at hand has it
      unfold St.leH at ht
      split at ht
      case isTrue => cases ht
      unfold St.le1 at ht
      split at ht
      case isFalse => cases ht
      rename_i hsome
      obtain ⟨⟨fr, cs⟩, hl⟩ := Option.isSome_iff_exists.1 hsome
      obtain ⟨fr', _, hl', _, _, _, _, hee⟩ := b1 n fr cs hl
      obtain ⟨_, _, vs, elem, _, hb, _, _, _, _, he⟩ := j.lo n b hn
      have := he t (by rw [hee]; exact ht)
      subst this
      exact ⟨vs, hb⟩
    · refine post d ef v w' ι' ρ' S' mp htm hfrz hnew (fun n hn => ?_) hnt hWi (fun hW => by rw [hmuA, hmui (hWR hW)]) (fun n hn => ⟨huseA n hn, by rw [hfreeA]; intro h; have := (mem_offUse h).2; simp [hn] at this⟩) hpdA
      have hsome := monoOp_frz hmo n hn
      unfold lcH at hsome
      rw [if_neg (by simpa using hfrzH n hn)] at hsome
      simpa only [lcOf, Option.isSome_map] using hsome

/-- All of the piece have come up. -/
theorem J.done {s e : Nat} (hse : s ≤ e) (c : Canon P T ops hide g s e f W R) (k : PieceOk ops s e)
    {L : Nat → Prop} {t0 : Nat} {ι ρ : Nat → Option Nat} {S : Nat → Prop} {a : Act} {w : World} (j : J w0 S0 D0 ρ0 F0 ops f W s e L t0 ι ρ S a w) (hall : ∀ i, s ≤ i → i < e → L i) : Rel w0 S0 D0 ρ0 F0 ι ρ S w (f e) a := by
  obtain ⟨x0, hx0⟩ : ∃ dd, e = s + dd := ⟨e - s, by omega⟩
  obtain ⟨_, _, h3, h4, _, h6, hfr, _⟩ := c.between x0 s (Nat.le_refl _) (by omega)
  rw [← hx0] at h3 h4 h6 hfr
  obtain ⟨ht1, ht2, htw⟩ := j.tw
  have h5 := c.quiet (a := t0) (b := e) ht1 ht2 (Nat.le_refl _) fun q h1 h2 => by
    cases hq : W q with
    | false => rfl
    | true => have := (htw q (by omega) h2 hq).1 (hall q (by omega) h2); omega
  refine ⟨by rw [h3]; exact j.len, fun t d hd' => ?_, fun n b hn => by
      obtain ⟨fr, cs, vs, elem, q1, q2, ⟨_, q3⟩, q4⟩ := j.lo n b hn
      exact ⟨fr, cs, vs, elem, q1, q2, q3 (fun q x1 x2 _ => hall q x1 x2), by rw [h5]; exact q4⟩, j.inj, j.defers, by rw [h6]; exact j.kept, by rw [h5]; exact j.mu, by rw [h5]; exact j.dom, by rw [h5]; exact j.named, fun n hn => ?_, j.older, j.newer, fun n g hp _ => ?_⟩
  rotate_left
  · obtain ⟨h8, h9⟩ := j.free n (hfr n hn)
    refine ⟨h9.resolve_right ?_, h8⟩
    rintro ⟨q, q1, q2, _, _, q5⟩
    obtain ⟨x2, hx2⟩ : ∃ dd, e = q + 1 + dd := ⟨e - (q + 1), by omega⟩
    obtain ⟨_, _, _, _, _, _, hfr2, _⟩ := c.between x2 (q + 1) (by omega) (by omega)
    rw [← hx2] at hfr2
    exact q5 (hfr2 n hn)
  · obtain ⟨_, _, _, _, _, _, _, h8⟩ := c.between x0 s (Nat.le_refl _) (by omega)
    rw [← hx0] at h8
    rcases h8 n g hp with h | ⟨x, p, y1, y2, y3, y4, _, _, _⟩
    · rw [j.none0] at h; cases h
    · exact j.link n g x p hp y1 y2 y3 y4 (hall x y1 y2)
  by_cases hw : ∃ (q : Nat) (p : Oper), s ≤ q ∧ q < e ∧ ops[q]? = some p ∧ p.dst = some t
  · obtain ⟨q, p, hq0, hq, hp, hpd⟩ := hw
    obtain ⟨x1, hdd⟩ : ∃ dd, e = q + 1 + dd := ⟨e - (q + 1), by omega⟩
    obtain ⟨_, _, _, h4', _⟩ := c.between x1 (q + 1) (by omega) (by omega)
    have := h4' t (fun x y h1 h2 hy => (k x q y p t (by omega) (by omega) hq0 hq hy hp (by omega) hpd).1)
    rw [← hdd] at this
    exact j.A q p t d hq0 hq hp (hall q hq0 hq) hpd (by rw [← this]; exact hd')
  · have := h4 t (fun x y h1 h2 hy hyd => hw ⟨x, y, h1, by omega, hy, hyd⟩)
    exact j.B t d (by rw [← this]; exact hd') (fun x y h1 h2 hy _ hyd => hw ⟨x, y, h1, h2, hy, hyd⟩)

/-- At a piece's beginning. -/
theorem J.begin {s e : Nat} (hse : s ≤ e) (c : Canon P T ops hide g s e f W R) {L : Nat → Prop} {ι ρ : Nat → Option Nat} {S : Nat → Prop} {a : Act} {w : World} (r : Rel w0 S0 D0 ρ0 F0 ι ρ S w (f s) a) (hp0 : (f s).pend = []) (hnone : ∀ i, s ≤ i → i < e → ¬ L i) : J w0 S0 D0 ρ0 F0 ops f W s e L s ι ρ S a w := by
  obtain ⟨x0, hx0⟩ : ∃ dd, e = s + dd := ⟨e - s, by omega⟩
  obtain ⟨b1, _⟩ := c.between x0 s (Nat.le_refl _) (by omega)
  rw [← hx0] at b1
  refine ⟨⟨Nat.le_refl _, hse, fun k h1 h2 _ => ⟨fun h => absurd h (hnone k h1 h2), fun h => by omega⟩⟩, r.len, fun i o t d h0 h1 _ h => absurd h (hnone i h0 h1), fun t d hd _ => r.tm t d hd, fun n b hn => ?_, fun q n x1 x2 x3 _ => absurd x3 (hnone q x1 x2), fun n b hn => .inl ?_, r.inj, r.defers, r.kept, r.mu, r.dom, r.named, fun n hn => ⟨(r.free n hn).2, .inl (r.free n hn).1⟩, r.older, r.newer, fun n g q p _ hq1 hq2 _ _ hLq => absurd hLq (hnone q hq1 hq2), hp0⟩
  · obtain ⟨fr, cs, vs, elem, hl, hh, hab, hfr, hge, hnd, hel⟩ := r.lo n b hn
    obtain ⟨fr', cs', hl', hmono, hlen', hsame, _, hee⟩ := b1 n fr cs hl
    refine ⟨fr', cs', vs, elem, hl', hh, ⟨by have := hab.length; rw [Array.length_toList] at this; omega, fun hq => ?_⟩, fun hf => hfr ?_, hge, hnd, fun t ht => hel t (by rw [← hee]; exact ht)⟩
    · have : cs' = cs := hsame fun q x1 x2 x3 => hnone q x1 (by omega) (hq q x1 (by omega) x3)
      rw [this]; exact hab
    cases fr
    · rfl
    · rw [hmono rfl] at hf; cases hf
  · obtain ⟨fr, cs, vs, elem, hl, _⟩ := r.lo n b hn
    rw [hl]; rfl

theorem masks_length : ∀ (os : List Oper) (acc : List Nat), (masks os acc).length = acc.length + os.length
  | [], acc => by simp [masks]
  | o :: os, acc => by rw [masks, masks_length os]; simp; omega
/-- Pieces that stand one behind the other, from a place to the end, each a cut. -/
def Chain (ms : List Nat) (n : Nat) : Nat → List (Nat × Nat) → Prop
  | s, [] => s = n
  | s, (a, b) :: ps => a = s ∧ a < b ∧ isCut ms n a = true ∧ Chain ms n b ps
theorem chain_pieces (ms : List Nat) (n : Nat) (hn : 0 < n) : Chain ms n 0 (pieces ms n) := by
  have gen : ∀ (k c s : Nat), c + k = n - 1 → s ≤ c → isCut ms n s = true →
      Chain ms n s ((s :: (List.range' c k).filterMap fun c => if isCut ms n (c + 1) then some (c + 1) else none).zip (((List.range' c k).filterMap fun c => if isCut ms n (c + 1) then some (c + 1) else none) ++ [n])) := by
    intro k
    induction k with
    | zero => intro c s hc hs hcut; simp [Chain, hcut]; omega
    | succ k ih =>
      intro c s hc hs hcut
      rw [List.range'_succ, List.filterMap_cons]
      by_cases h : isCut ms n (c + 1) = true
      · simp only [h, if_true, List.cons_append, List.zip_cons_cons, Chain, true_and]
        exact ⟨by omega, hcut, ih (c + 1) (c + 1) (by omega) (Nat.le_refl _) h⟩
      · simp only [h]
        exact ih (c + 1) s (by omega) (by omega) hcut
  have := gen (n - 1) 0 0 (by omega) (Nat.le_refl _) (by simp [isCut])
  unfold pieces
  simp only [List.range_eq_range']
  exact this

include hT in
/-- A region that draws its order. -/
theorem region_any_sound (hm : P.follows .mixedOrders = true) {id : Nat} {ι ρ : Nat → Option Nat} {S : Nat → Prop} {w : World} {a : Act} {s : St} {script : List Say} {fin : Out}
    (hE : edgesOk ops = true) (r : Rel w0 S0 D0 ρ0 F0 ι ρ S w s a) (h : runPieces T ops (masks ops.toList []) (pieces (masks ops.toList []) ops.size) s script = some fin) (hob : ∀ x ∈ fin.obs, x.ok P)
    (hQ : ∀ ι' ρ' S' w' a', Rel w0 S0 D0 ρ0 F0 ι' ρ' S' w' fin.st a' → Q .normal a' w') : (Code.region id ops true).wp P Q a w := by
  have hedge := edgesOk_spec hE
  refine wp_region_any hm ?_
  have hEd : Ext ρ w ρ { w with drawn := w.drawn + 1 } := .same fun _ _ _ => rfl
  have rd : Rel w0 S0 D0 ρ0 F0 ι ρ S { w with drawn := w.drawn + 1 } s a :=
    ⟨r.len, fun t d hd => by obtain ⟨v, hv, ha⟩ := r.tm t d hd; exact ⟨v, hv, TAbs.mono hEd (w := w) (w' := { w with drawn := w.drawn + 1 }) (fun _ _ => rfl) (fun _ h => h) (fun _ _ h => h) ha⟩,
     fun n b hn => by obtain ⟨fr, cs, vs, elem, hl, hh, hab, rest⟩ := r.lo n b hn; exact ⟨fr, cs, vs, elem, hl, hh, AbsL.mono hEd (w := w) (w' := { w with drawn := w.drawn + 1 }) (fun _ _ => rfl) (fun _ h => h) _ _ hab, rest⟩,
     r.inj, r.defers, ⟨r.kept.os, r.kept.tape, r.kept.output, r.kept.size, r.kept.old, r.kept.clean, r.kept.up, r.kept.from_, r.kept.sane⟩,
     MuOk.mono (w := w) (w' := { w with drawn := w.drawn + 1 }) r.mu hEd (fun _ _ => rfl) (fun _ _ => rfl) (fun _ h => h) (fun _ h => r.mu.notS h), r.dom, r.named.mono (Nat.le_refl _), r.free, r.older.trans hEd, r.newer, r.link⟩
  let Lof : Array Bool → Nat → Prop := fun listed i => listed.getD i false = true
  let Closed : Array Bool → Prop := fun listed => ∀ (x : Nat) (o : Oper), ops[x]? = some o → Lof listed x → ∀ e ∈ o.after, Region.binds .any e = true → Lof listed e.on
  -- what remains: pieces from b on, from a state, to the end
  let Rest : Nat → List (Nat × Nat) → St → Prop := fun b ps st => Chain (masks ops.toList []) ops.size b ps ∧ ∃ sc out, runPieces T ops (masks ops.toList []) ps st sc = some out ∧ (∀ x ∈ out.obs, x.ok P) ∧ out.st = fin.st
  let Inv : Array Bool → Act → World → Prop := fun listed a w => Closed listed ∧
    ((∃ s e ps f, s < e ∧ e ≤ ops.size ∧ isCut (masks ops.toList []) ops.size s = true ∧ (∀ i, i < s → Lof listed i) ∧ (∀ i, e ≤ i → i < ops.size → ¬ Lof listed i) ∧ (∃ i, s ≤ i ∧ i < e ∧ ¬ Lof listed i) ∧ Rest e ps (publish (f e)) ∧
        ((∃ hide g W R t0 ι ρ S, Canon P T ops hide g s e f W R ∧ PieceOk ops s e ∧ Own ops hide g s e ∧ J w0 S0 D0 ρ0 F0 ops f W s e (Lof listed) t0 ι ρ S a w) ∨
         (e = s + 1 ∧ ∃ ι ρ S sc out, stepI T ops [] none s (f s) sc = some out ∧ out.st = f e ∧ (∀ x ∈ out.obs, x.ok P) ∧ Rel w0 S0 D0 ρ0 F0 ι ρ S w (f s) a))) ∨
     ((∀ i, i < ops.size → Lof listed i) ∧ ∃ ι ρ S, Rel w0 S0 D0 ρ0 F0 ι ρ S w fin.st a))
  have getTrue : ∀ (listed : Array Bool) (i : Nat), listed.size = ops.size → i < ops.size → (listed.getD i true = false ↔ ¬ Lof listed i) := fun listed i hsz hi => by
    have : i < listed.size := by omega
    simp only [Lof]; simp [this]
  have setL : ∀ (listed : Array Bool) (i x : Nat), listed.size = ops.size → i < ops.size → (Lof (listed.setIfInBounds i true) x ↔ Lof listed x ∨ x = i) := fun listed i x hsz hi => by
    simp only [Lof]
    by_cases hx : i = x
    · subst hx; have : i < listed.size := by omega
      simp [this]
    · rw [getD_set_ne false hx]
      constructor
      · exact .inl
      · rintro (h | h)
        · exact h
        · exact absurd h.symm hx
  have closedStep : ∀ (listed : Array Bool) (i : Nat) (o : Oper), listed.size = ops.size → i < ops.size → ops[i]? = some o → Closed listed → (∀ e ∈ o.after, Region.binds .any e = true → Lof listed e.on) → Closed (listed.setIfInBounds i true) := by
    intro listed i o hsz hi ho hc hall x p hp hx e he hb
    refine (setL listed i e.on hsz hi).2 (.inl ?_)
    rcases (setL listed i x hsz hi).1 hx with hx | rfl
    · exact hc x p hp hx e he hb
    · rw [ho] at hp; cases hp; exact hall e he hb
  have least : ∀ listed : Array Bool, listed.size = ops.size → Region.ready .any ops listed = [] → ∀ i, i < ops.size → Lof listed i := by
    intro listed hsz hr i
    induction i using Nat.strongRecOn with
    | _ i ih =>
      intro hi
      refine Classical.byContradiction fun hn => ?_
      obtain ⟨o, ho⟩ : ∃ o, ops[i]? = some o := ⟨_, Array.getElem?_eq_getElem hi⟩
      have : i ∈ Region.ready .any ops listed := mem_ready.2 ⟨(getTrue listed i hsz hi).2 hn, o, ho, fun e he hb => ih e.on (hedge i o ho e he hb) (by have := hedge i o ho e he hb; omega)⟩
      rw [hr] at this; cases this
  -- at a piece's end
  have enter : ∀ (listed : Array Bool) (b : Nat) (ps : List (Nat × Nat)) (st : St) (a' : Act) (w' : World), listed.size = ops.size → b ≤ ops.size → Closed listed → (∀ i, i < b → Lof listed i) → (∀ i, b ≤ i → i < ops.size → ¬ Lof listed i) → Rest b ps st → (∃ ι ρ S, Rel w0 S0 D0 ρ0 F0 ι ρ S w' st a') → Inv listed a' w' := by
    intro listed b ps st a' w' hsz hb hcl h1 h2 hrest ⟨ι1, ρ1, S1, rel⟩
    obtain ⟨hchain, sc, out, hrun, hobs, hfin⟩ := hrest
    cases ps with
    | nil =>
      have hbn : b = ops.size := hchain
      simp only [runPieces, Option.some.injEq] at hrun
      rw [← hrun] at hfin
      simp only at hfin
      subst hfin
      exact ⟨hcl, .inr ⟨fun i hi => h1 i (by omega), ι1, ρ1, S1, rel⟩⟩
    | cons p ps =>
      obtain ⟨p1, p2⟩ := p
      obtain ⟨rfl, hlt, hcut, hch⟩ := hchain
      have hle : p2 ≤ ops.size := by
        have : ∀ (qs : List (Nat × Nat)) (q : Nat), Chain (masks ops.toList []) ops.size q qs → q ≤ ops.size := by
          intro qs
          induction qs with
          | nil => intro q h; exact Nat.le_of_eq h
          | cons x xs ih => intro q h; obtain ⟨x1, x2⟩ := x; obtain ⟨rfl, h1, _, h2⟩ := h; have := ih _ h2; omega
        exact this ps p2 hch
      simp only [runPieces] at hrun
      by_cases hone : p2 = p1 + 1
      · subst hone
        rw [if_pos (by simp)] at hrun
        split at hrun
        · cases hrun
        · rename_i r1 hr1
          split at hrun
          · cases hrun
          · rename_i q1 hq1
            cases hrun
            rw [show p1 + 1 - p1 = 0 + 1 by omega, List.range'_succ] at hr1
            simp only [List.range'_zero, runOps] at hr1
            split at hr1
            · cases hr1
            · rename_i r2 hr2
              cases hr1
              refine ⟨hcl, .inl ⟨p1, p1 + 1, ps, fun i => if i = p1 then st else r2.st, by omega, hle, hcut, h1, fun i h => h2 i (by omega), ⟨p1, Nat.le_refl _, by omega, h2 p1 (Nat.le_refl _) (by omega)⟩, ⟨hch, r2.script, q1, ?_, ?_, ?_⟩, .inr ⟨rfl, ι1, ρ1, S1, sc, r2, by simpa using hr2, by simp, fun x hx => hobs x (by simp [hx]), by simpa using rel⟩⟩⟩
              · simpa using hq1
              · exact fun x hx => hobs x (List.mem_append_right _ hx)
              · exact hfin
      · rw [if_neg (by simpa using hone)] at hrun
        split at hrun
        · cases hrun
        · rename_i r1 hr1
          split at hrun
          · rename_i hcond'
            split at hrun
            · cases hrun
            · rename_i q1 hq1
              cases hrun
              simp only [Bool.and_eq_true, Bool.not_eq_true'] at hcond'
              obtain ⟨⟨⟨⟨hloud, hpiece⟩, hguess⟩, hflags⟩, hpe⟩ := hcond'
              obtain ⟨f, W, R, hf0, hf1, hf, hfl⟩ := canon_of_run (P := P) (p2 - p1) p1 hr1 (fun x hx => hobs x (List.mem_append_left _ hx)) hloud
              have e12 : p1 + (p2 - p1) = p2 := by omega
              rw [e12] at hf1 hf
              have c : Canon P T ops ((List.range' p1 (p2 - p1)).filterMap (guess ops st)) (guess ops st) p1 p2 f W R := ⟨hf, fun i k a1 a2 a3 => flOk_spec (by rw [← hfl]; exact hflags) i k a1 a2 (by omega)⟩
              have own : Own ops ((List.range' p1 (p2 - p1)).filterMap (guess ops st)) (guess ops st) p1 p2 := by
                refine ⟨fun q n x1 x2 x3 => List.mem_filterMap.2 ⟨q, List.mem_range'_1.2 ⟨x1, by omega⟩, x3⟩, fun q q' n x1 x2 x3 x4 x5 x6 => ?_⟩
                unfold guessOk at hguess
                simp only [List.all_eq_true, List.mem_range'_1] at hguess
                have := hguess q ⟨x1, by omega⟩ q' ⟨x3, by omega⟩
                rw [x5, x6] at this
                simpa using this
              rw [← hf0] at rel
              exact ⟨hcl, .inl ⟨p1, p2, ps, f, hlt, hle, hcut, h1, fun i h => h2 i (by omega), ⟨p1, Nat.le_refl _, hlt, h2 p1 (Nat.le_refl _) (by omega)⟩, ⟨hch, r1.script, q1, by rw [hf1]; exact hq1, fun x hx => hobs x (List.mem_append_right _ hx), hfin⟩, .inl ⟨_, _, W, R, p1, ι1, ρ1, S1, c, pieceOk_spec hpiece, own, J.begin (Nat.le_of_lt hlt) c rel (by rw [hf0]; simpa using hpe) (fun i h3 h4 => h2 i h3 (by omega))⟩⟩⟩
          · cases hrun
  refine wpAny_of_inv (Inv := Inv) ?_ ?_ ops.size _ a _ (by simp) ?_ ?_
  · intro listed a' w' hsz hI i hi
    obtain ⟨hu, o, ho, hall⟩ := mem_ready.1 hi
    have hilt := (Array.getElem?_eq_some_iff.1 ho).1
    have hnL := (getTrue listed i hsz hilt).1 hu
    have hall' : ∀ e ∈ o.after, Region.binds .any e = true → Lof listed e.on := fun e he hb => hall e he hb
    obtain ⟨hcl, ⟨s1, e1, ps, f, hse, hen, hcut, hlow, hhigh, hmiss, hrest, hcase⟩ | ⟨hallL, _⟩⟩ := hI
    · have hsi : s1 ≤ i := by
        rcases Nat.lt_or_ge i s1 with h | h
        · exact absurd (hlow i h) hnL
        · exact h
      have hie : i < e1 := by
        rcases Nat.lt_or_ge i e1 with h | h
        · exact h
        · exfalso
          -- it would wait for all ahead of the next cut
          obtain ⟨hchain, _⟩ := hrest
          cases ps with
          | nil => have : e1 = ops.size := hchain; omega
          | cons p ps =>
            obtain ⟨p1, p2⟩ := p
            obtain ⟨rfl, _, hcut2, _⟩ := hchain
            obtain ⟨j, hj1, hj2, hj3⟩ := hmiss
            exact hj3 (cut_sound (L := Lof listed) hedge hcl hcut2 h ho hall' j hj2)
      have fin' : ∀ (a2 : Act) (w2 : World), ((∀ x, s1 ≤ x → x < e1 → Lof (listed.setIfInBounds i true) x) → ∃ ι ρ S, Rel w0 S0 D0 ρ0 F0 ι ρ S w2 (f e1) a2) →
          ((∃ x, s1 ≤ x ∧ x < e1 ∧ ¬ Lof (listed.setIfInBounds i true) x) → Inv (listed.setIfInBounds i true) a2 w2) → Inv (listed.setIfInBounds i true) a2 w2 := by
        intro a2 w2 h1 h2
        by_cases hc : ∃ x, s1 ≤ x ∧ x < e1 ∧ ¬ Lof (listed.setIfInBounds i true) x
        · exact h2 hc
        · have hfull : ∀ x, s1 ≤ x → x < e1 → Lof (listed.setIfInBounds i true) x := fun x hx1 hx2 => Classical.byContradiction fun h => hc ⟨x, hx1, hx2, h⟩
          refine enter _ e1 ps (publish (f e1)) a2 w2 (by simp [hsz]) hen (closedStep listed i o hsz hilt ho hcl hall') (fun x hx => ?_) (fun x hx1 hx2 hL => ?_) hrest (by obtain ⟨ι2, ρ2, S2, r2⟩ := h1 hfull; obtain ⟨ι3, r3⟩ := r2.publish; exact ⟨ι3, ρ2, S2, r3⟩)
          · rcases Nat.lt_or_ge x s1 with h | h
            · exact (setL listed i x hsz hilt).2 (.inl (hlow x h))
            · exact hfull x h hx
          · rcases (setL listed i x hsz hilt).1 hL with h | h
            · exact hhigh x hx1 hx2 h
            · omega
      rcases hcase with ⟨hide, g, W, R, t0, ι1, ρ1, S1, c, k, own, j⟩ | ⟨rfl, ι1, ρ1, S1, sc, out, hst, hout, hobs, rel⟩
      · have bits : ∀ (x : Nat) (p : Oper), ops[x]? = some p → (∀ e ∈ p.after, Region.binds .any e = true → Lof listed e.on) → ∀ z, ((masks ops.toList []).getD x 0).testBit z = true → Lof listed z := fun x p hp hall2 z hz =>
          masks_spec (L := Lof listed) hedge hcl ops.toList [] (fun k => by simp) (fun i o hi => by simp at hi) x p hp hall2 z hz
        refine j.step hT c k own hsi hie ho hnL hall' (bits i o ho hall') (fun x z hx hz => ?_) fun t' ι' ρ' S' a2 w2 j2 => ?_
        · cases hp : ops[x]? with
          | some p => exact bits x p hp (hcl x p hp hx) z hz
          | none =>
            have hlen : (masks ops.toList []).length = ops.size := by rw [masks_length]; simp
            have : (masks ops.toList []).getD x 0 = 0 := by
              rw [List.getD_eq_getElem?_getD, List.getElem?_eq_none (by rw [hlen]; exact Array.getElem?_eq_none_iff.1 hp)]; rfl
            rw [this] at hz; simp at hz
        have e : (Lof (listed.setIfInBounds i true)) = fun x => Lof listed x ∨ x = i := by funext x; exact propext (setL listed i x hsz hilt)
        rw [← e] at j2
        refine fin' a2 w2 (fun hfull => ⟨ι', ρ', S', j2.done (Nat.le_of_lt hse) c k hfull⟩) (fun hm' => ⟨closedStep listed i o hsz hilt ho hcl hall', .inl ⟨s1, e1, ps, f, hse, hen, hcut, fun x hx => (setL listed i x hsz hilt).2 (.inl (hlow x hx)), fun x hx1 hx2 hL => ?_, hm', hrest, .inl ⟨hide, g, W, R, t', ι', ρ', S', c, k, own, j2⟩⟩⟩)
        rcases (setL listed i x hsz hilt).1 hL with h | h
        · exact hhigh x hx1 hx2 h
        · omega
      · have his : i = s1 := by omega
        subst his
        refine stepI_sound hT rel hst hobs fun ι' ρ' S' w2 a2 r2 => ?_
        rw [hout] at r2
        refine fin' a2 w2 (fun _ => ⟨ι', ρ', S', r2⟩) (fun ⟨x, hx1, hx2, hx3⟩ => absurd ((setL listed i x hsz hilt).2 (.inr (by omega))) hx3)
    · exact absurd (hallL i hilt) hnL
  · intro listed a' w' hsz hI hr
    have hallL := least listed hsz hr
    obtain ⟨_, ⟨s1, e1, _, _, _, hen, _, _, _, ⟨x, _, hx2, hx3⟩, _⟩ | ⟨_, ι1, ρ1, S1, rel⟩⟩ := hI
    · exact absurd (hallL x (by omega)) hx3
    · exact hQ _ _ _ _ _ rel
  · have := List.countP_le_length (p := fun i => !(Array.replicate ops.size false).getD i true) (l := List.range ops.size)
    simpa using this
  · have hnone : ∀ i, ¬ Lof (Array.replicate ops.size false) i := fun i h => by
      simp only [Lof] at h
      by_cases hi : i < ops.size <;> simp [hi] at h
    by_cases h0 : 0 < ops.size
    · exact enter _ 0 _ s a _ (by simp) (Nat.zero_le _) (fun x o _ hx => absurd hx (hnone x)) (fun i hi => by omega) (fun i _ _ => hnone i) ⟨chain_pieces _ _ h0, script, fin, h, hob, rfl⟩ ⟨ι, ρ, S, rd⟩
    · have hz : ops = #[] := by apply Array.eq_empty_of_size_eq_zero; omega
      subst hz
      have hfs : fin.st = publish s := by
        have : fin = ⟨publish s, script, [], false, false, false, []⟩ := by
          have h' : runPieces T #[] (masks (#[] : Array Oper).toList []) [(0, 0)] s script = some fin := h
          simp [runPieces, runOps, pieceOk, guessOk] at h'
          exact h'.2.symm
        rw [this]
      obtain ⟨ι3, r3⟩ := rd.publish
      exact ⟨fun x o hx _ => by simp at hx, .inr ⟨fun i hi => by simp at hi, ι3, ρ, S, by rw [hfs]; exact r3⟩⟩
end
end Go.Proofs.YtpckjfncecoibaaGreat.Fun
