/- Programs as trees of accesses; what it means that a value is such a program. -/
import Derived.Test.YtehihnapbpcfbaaGreatWayDefs
namespace Go.Proofs.YtehihnapbpcfbaaGreat.Fun
open Go
set_option linter.unusedVariables false
/-- A program: over, or an access and what follows of the word that is told; 'cut': nothing is said of it. -/
inductive LP (R : Type) where
  | done (r : R)
  | acc (op at_ a b : Int) (k : Int → LP R)
  | cut
def LP.bind {A B : Type} : LP A → (A → LP B) → LP B
  | .done r, f => f r
  | .acc op at_ a b k, f => .acc op at_ a b fun w => (k w).bind f
  | .cut, _ => .cut
/-- Blocks that a program has for itself: their names, and their cells. -/
abbrev Ows := List (Nat × List DV)
def Ows.at (own : Ows) (m : Mu) : Prop := ∀ x ∈ own, Has m x.1 x.2
/-- Names that were a program's, or are new. -/
def Ows.from_ (own : Ows) (n : Nat) (own' : Ows) (n' : Nat) : Prop := ∀ x ∈ own', (∃ y ∈ own, y.1 = x.1) ∨ n ≤ x.1 ∧ x.1 < n'
/-- What isn't a program's own stays. -/
def Ows.keep (own : Ows) (n : Nat) (m m' : Mu) : Prop := ∀ b, b < n → (∀ x ∈ own, x.1 ≠ b) → ∀ o, m' b o = m b o
theorem Ows.keep.refl {own : Ows} {n : Nat} {m : Mu} : own.keep n m m := fun _ _ _ _ => rfl
theorem Ows.keep.trans {own own' : Ows} {n n' : Nat} {m m' m'' : Mu} (h : own.keep n m m') (k : own'.keep n' m' m'') (hn : n ≤ n') (hf : own.from_ n own' n') : own.keep n m m'' := fun b hb ho o => by
  rw [k b (by omega) (fun x hx e => ?_) o, h b hb ho o]
  rcases hf x hx with ⟨y, hy, e'⟩ | h'
  · exact ho y hy (e'.trans e)
  · omega
theorem Ows.from_.refl {own : Ows} {n n' : Nat} : own.from_ n own n' := fun x hx => .inl ⟨x, hx, rfl⟩
theorem Ows.from_.nil {own : Ows} {n n' : Nat} : own.from_ n [] n' := fun x hx => by cases hx
theorem Ows.from_.trans {own own' own'' : Ows} {n n' n'' : Nat} (h : own.from_ n own' n') (k : own'.from_ n' own'' n'') (h1 : n ≤ n') (h2 : n' ≤ n'') : own.from_ n own'' n'' := fun x hx => by
  rcases k x hx with ⟨y, hy, e⟩ | k
  · rcases h y hy with ⟨z, hz, e'⟩ | h'
    · exact .inl ⟨z, hz, e'.trans e⟩
    · exact .inr (by omega)
  · exact .inr (by omega)
section
variable {R A B : Type}
/-- The looks of a program's value. -/
def Looks (K : Kn R) (pv : DV) : Prop := (∃ r, pv = pO K r) ∨ ∃ op a x y g c, pv = pS K op a x y g c
/-- A call comes to a value, with blocks for itself, of which Q holds. -/
def DC (Q : DV → Ows → Prop) (f : FuncId) (args : List DV) (own : Ows) : Prop := ∀ n, (∀ x ∈ own, x.1 < n) → ∃ qv own' n', n ≤ n' ∧ own.from_ n own' n' ∧ (∀ x ∈ own', x.1 < n') ∧
  (∀ m, own.at m → ∃ m', Cm f args m n qv m' n' ∧ own'.at m' ∧ own.keep n m m') ∧ Q qv own'
/-- A value is a program. -/
def Den (K : Kn R) : LP R → DV → Ows → Prop
  | .done r, pv, _ => pv = pO K r
  | .acc op at_ a b k, pv, own => ∃ g c, pv = pS K op at_ a b g c ∧ ∀ w, DC (fun qv own' => Den K (k w) qv own') g (U w :: c) own
  | .cut, pv, _ => Looks K pv
def DenC (K : Kn R) (t : LP R) (f : FuncId) (args : List DV) (own : Ows) : Prop := DC (Den K t) f args own
variable {K : Kn R} {KA : Kn A} {KB : Kn B}
theorem Den.looks : ∀ {t : LP R} {pv : DV} {own : Ows}, Den K t pv own → Looks K pv
  | .done r, _, _, h => .inl ⟨r, h⟩
  | .acc op at_ a b k, _, _, ⟨g, c, h, _⟩ => .inr ⟨op, at_, a, b, g, c, h⟩
  | .cut, _, _, h => h
theorem Looks.agg {pv : DV} (h : Looks K pv) : ∃ cs, pv = .agg cs := by
  rcases h with ⟨r, rfl⟩ | ⟨op, a, x, y, g, c, rfl⟩ <;> exact ⟨_, rfl⟩
theorem DC.mono {Q Q' : DV → Ows → Prop} {f : FuncId} {args : List DV} {own : Ows} (h : DC Q f args own) (hq : ∀ qv own', Q qv own' → Q' qv own') : DC Q' f args own := fun n hn => by
  obtain ⟨qv, own', n', h1, h2, h3, h4, h5⟩ := h n hn
  exact ⟨qv, own', n', h1, h2, h3, h4, hq _ _ h5⟩
theorem DenC.cut {t : LP R} {f : FuncId} {args : List DV} {own : Ows} (h : DenC K t f args own) : DenC K .cut f args own := h.mono fun _ _ h => h.looks
/-- More is its own. -/
theorem DC.more {Q : DV → Ows → Prop} {f : FuncId} {args : List DV} {own own0 : Ows} (h : DC Q f args own) (hs : ∀ x ∈ own, x ∈ own0) : DC Q f args own0 := fun n hn => by
  obtain ⟨qv, own', n', h1, h2, h3, h4, h5⟩ := h n (fun x hx => hn x (hs x hx))
  refine ⟨qv, own', n', h1, fun x hx => ?_, h3, fun m hm => ?_, h5⟩
  · rcases h2 x hx with ⟨y, hy, e⟩ | h
    · exact .inl ⟨y, hs y hy, e⟩
    · exact .inr h
  · obtain ⟨m', k1, k2, k3⟩ := h4 m (fun x hx => hm x (hs x hx))
    exact ⟨m', k1, k2, fun b hb ho => k3 b hb (fun x hx => ho x (hs x hx))⟩
/-- A call that comes to a value at once, and changes nothing. -/
theorem DC.now {Q : DV → Ows → Prop} {f : FuncId} {args : List DV} {own : Ows} {pv : DV} (h : ∀ {m n}, own.at m → Cm f args m n pv m n) (hq : Q pv own) : DC Q f args own :=
  fun n hn => ⟨pv, own, n, Nat.le_refl _, .refl, hn, fun m hm => ⟨m, h hm, hm, .refl⟩, hq⟩
/-- A call that hands on what another one comes to, behind a change of its own. -/
theorem DC.goes {f g : FuncId} {args xs : List DV} {t : LP R} {own own1 : Ows} {M : Mu → Mu} (d : DenC K t g xs own1) (h : ∀ {m n}, own.at m → PasM K (M m) n g xs m n f args)
    (hM : ∀ m, own.at m → own1.at (M m)) (hk : ∀ m b, (∀ x ∈ own, x.1 ≠ b) → ∀ o, M m b o = m b o) (hs : ∀ x ∈ own1, ∃ y ∈ own, y.1 = x.1) : DenC K t f args own := fun n hn => by
  obtain ⟨qv, own', n', h1, h2, h3, h4, h5⟩ := d n (fun x hx => by obtain ⟨y, hy, e⟩ := hs x hx; rw [← e]; exact hn y hy)
  refine ⟨qv, own', n', h1, fun x hx => ?_, h3, fun m hm => ?_, h5⟩
  · rcases h2 x hx with ⟨y, hy, e⟩ | h
    · obtain ⟨z, hz, e'⟩ := hs y hy
      exact .inl ⟨z, hz, e'.trans e⟩
    · exact .inr h
  · obtain ⟨m', k1, k2, k3⟩ := h4 (M m) (hM m hm)
    refine ⟨m', ?_, k2, fun b hb ho o => ?_⟩
    · rcases h5.looks with ⟨r, rfl⟩ | ⟨op, a, x, y, g, c, rfl⟩
      · exact (h hm).o k1
      · exact (h hm).s k1
    · rw [k3 b hb (fun x hx => by obtain ⟨y, hy, e⟩ := hs x hx; rw [← e]; exact ho y hy) o, hk m b ho o]
theorem DenC.pass {f g : FuncId} {args xs : List DV} {t : LP R} {own : Ows} (d : DenC K t g xs own) (h : ∀ {m n}, own.at m → PasM K m n g xs m n f args) : DenC K t f args own :=
  DC.goes (M := fun m => m) d h (fun _ h => h) (fun _ _ _ _ => rfl) (fun x hx => ⟨x, hx, rfl⟩)
/-- The like, that makes a block first. -/
theorem DC.makes {f g : FuncId} {args cs : List DV} {xs : Nat → List DV} {t : LP R} (d : ∀ b, DenC K t g (xs b) [(b, cs)]) (h : ∀ {m n}, PasM K (updMu m n 0 cs) (n + 1) g (xs n) m n f args) : DenC K t f args [] := fun n hn => by
  obtain ⟨qv, own', n', h1, h2, h3, h4, h5⟩ := d n (n + 1) (fun x hx => by rw [List.mem_singleton.1 hx]; exact Nat.lt_succ_self n)
  refine ⟨qv, own', n', by omega, fun x hx => .inr ?_, h3, fun m hm => ?_, h5⟩
  · rcases h2 x hx with ⟨y, hy, e⟩ | h
    · rw [List.mem_singleton.1 hy] at e
      exact ⟨by rw [← e]; exact Nat.le_refl _, h3 x hx⟩
    · omega
  · obtain ⟨m', k1, k2, k3⟩ := h4 (updMu m n 0 cs) (fun x hx => by rw [List.mem_singleton.1 hx]; exact Has.new m n cs)
    refine ⟨m', ?_, k2, fun b hb ho o => ?_⟩
    · rcases h5.looks with ⟨r, rfl⟩ | ⟨op, a, x, y, g, c, rfl⟩
      · exact h.o k1
      · exact h.s k1
    · rw [k3 b (by omega) (fun x hx => by rw [List.mem_singleton.1 hx]; exact fun e => by simp only at e; omega) o, updMu_get, if_neg (fun q => by omega)]
theorem DenC.cutS {f : FuncId} {args : List DV} {op a x y : Int} {g : FuncId} {c : List DV} {own : Ows} (h : ∀ {m n}, own.at m → Cm f args m n (pS K op a x y g c) m n) : DenC K .cut f args own := DC.now h (.inr ⟨_, _, _, _, _, _, rfl⟩)
theorem DenC.done {f : FuncId} {args : List DV} {r : R} {own : Ows} (h : ∀ {m n}, own.at m → Cm f args m n (pO K r) m n) : DenC K (.done r) f args own := DC.now h rfl
theorem DenC.acc {f : FuncId} {args : List DV} {op a x y : Int} {g : FuncId} {c : List DV} {own : Ows} {k : Int → LP R} (h : ∀ {m n}, own.at m → Cm f args m n (pS K op a x y g c) m n) (next : ∀ w, DenC K (k w) g (U w :: c) own) : DenC K (.acc op a x y k) f args own :=
  DC.now h ⟨g, c, rfl, next⟩
/-- An access behind a block that is made. -/
theorem DenC.accN {f : FuncId} {args cs : List DV} {op a x y : Int} {g : FuncId} {c : Nat → List DV} {k : Int → LP R} (h : ∀ {m n}, Cm f args m n (pS K op a x y g (c n)) (updMu m n 0 cs) (n + 1)) (next : ∀ b w, DenC K (k w) g (U w :: c b) [(b, cs)]) : DenC K (.acc op a x y k) f args [] :=
  fun n hn => ⟨_, [(n, cs)], n + 1, by omega, fun x hx => .inr (by rw [List.mem_singleton.1 hx]; exact ⟨Nat.le_refl _, Nat.lt_succ_self _⟩), fun x hx => by rw [List.mem_singleton.1 hx]; exact Nat.lt_succ_self _,
    fun m hm => ⟨_, h, fun x hx => by rw [List.mem_singleton.1 hx]; exact Has.new m n cs, fun b hb ho o => by rw [updMu_get, if_neg (fun q => by omega)]⟩, ⟨g, c n, rfl, next n⟩⟩
theorem DenC.ite {b : Bool} {t u : LP R} {f : FuncId} {args : List DV} {own : Ows} (ht : b = true → DenC K t f args own) (hf : b = false → DenC K u f args own) : DenC K (cond b t u) f args own := by
  cases b
  · exact hf rfl
  · exact ht rfl
/-- Then, of two kinds: its function, and its closure. -/
structure ThenOk (KA : Kn A) (KB : Kn B) (T C : FuncId) : Prop where
  over : ∀ {a f c m n}, PasM KB m n f (KA.arg a :: c) m n T [pO KA a, .func f c]
  step : ∀ {o u v w g c f c' m n}, Cm T [pS KA o u v w g c, .func f c'] m n (pS KB o u v w C [.ptr (cellsOf (pS KA o u v w g c)), .ptr [.func f c']]) m n
  clo : ∀ {o u v w g c f c' x r0 m n m1 n1}, Cm g (U x :: c) m n (.agg r0) m1 n1 → PasM KB m1 n1 T [.agg r0, .func f c'] m n C [U x, .ptr (cellsOf (pS KA o u v w g c)), .ptr [.func f c']]
/-- What a program is asked for that begins behind another call. -/
theorem DC.chain {QA : DV → Ows → Prop} {t : LP B} {f g F : FuncId} {args xs : List DV} {ys : DV → List DV} {own1 own2 : Ows} (d : DC QA g xs own1) (hd : ∀ x ∈ own1, ∀ y ∈ own2, x.1 ≠ y.1)
    (n : ∀ qv own', QA qv own' → (∀ x ∈ own', ∀ y ∈ own2, x.1 ≠ y.1) → DenC KB t f (ys qv) (own' ++ own2))
    (hF : ∀ {qv m n m1 n1}, (∃ own', QA qv own') → Cm g xs m n qv m1 n1 → PasM KB m1 n1 f (ys qv) m n F args) : DenC KB t F args (own1 ++ own2) := fun k hk => by
  obtain ⟨qv, own', k1, h1, h2, h3, h4, h5⟩ := d k (fun x hx => hk x (List.mem_append_left _ hx))
  have hsep : ∀ x ∈ own', ∀ y ∈ own2, x.1 ≠ y.1 := fun x hx y hy e => by
    rcases h2 x hx with ⟨z, hz, e'⟩ | h
    · exact hd z hz y hy (e'.trans e)
    · have := hk y (List.mem_append_right _ hy); omega
  obtain ⟨rv, own'', k2, g1, g2, g3, g4, g5⟩ := n qv own' h5 hsep k1 (fun x hx => by
    rcases List.mem_append.1 hx with hx | hx
    · exact h3 x hx
    · have := hk x (List.mem_append_right _ hx); omega)
  have hfr : (own1 ++ own2).from_ k (own' ++ own2) k1 := fun x hx => by
    rcases List.mem_append.1 hx with hx | hx
    · rcases h2 x hx with ⟨z, hz, e'⟩ | h
      · exact .inl ⟨z, List.mem_append_left _ hz, e'⟩
      · exact .inr h
    · exact .inl ⟨x, List.mem_append_right _ hx, rfl⟩
  refine ⟨rv, own'', k2, by omega, hfr.trans g2 h1 g1, g3, fun m hm => ?_, g5⟩
  obtain ⟨m1, c1, c2, c3⟩ := h4 m (fun x hx => hm x (List.mem_append_left _ hx))
  have kp : (own1 ++ own2).keep k m m1 := fun b hb ho => c3 b hb (fun x hx => ho x (List.mem_append_left _ hx))
  obtain ⟨m2, e1, e2, e3⟩ := g4 m1 (fun x hx => by
    rcases List.mem_append.1 hx with hx | hx
    · exact c2 x hx
    · exact (hm x (List.mem_append_right _ hx)).far (c3 x.1 (hk x (List.mem_append_right _ hx)) (fun y hy e => hd y hy x hx e)))
  refine ⟨m2, ?_, e2, kp.trans e3 h1 hfr⟩
  rcases g5.looks with ⟨r, rfl⟩ | ⟨op, a, x, y, g, c, rfl⟩
  · exact (hF ⟨own', h5⟩ c1).o e1
  · exact (hF ⟨own', h5⟩ c1).s e1
theorem ThenOk.den {T C : FuncId} (h : ThenOk KA KB T C) {φ : A → LP B} {f : FuncId} {c : List DV} {own2 : Ows} (n : ∀ r, DenC KB (φ r) f (KA.arg r :: c) own2) : ∀ (t : LP A) (pv : DV) (own1 : Ows), (∀ x ∈ own1, ∀ y ∈ own2, x.1 ≠ y.1) → Den KA t pv own1 → DenC KB (t.bind φ) T [pv, .func f c] (own1 ++ own2)
  | .done r, pv, own1, hd, hden => by
    cases (show pv = pO KA r from hden)
    exact DenC.pass (DC.more (n r) (fun x hx => List.mem_append_right _ hx)) fun _ => h.over
  | .acc op a x y k, pv, own1, hd, hden => by
    obtain ⟨g, c', rfl, hk⟩ := hden
    refine .acc (fun _ => h.step) fun w => ?_
    refine DC.chain (ys := fun qv => [qv, .func f c]) (hk w) hd (fun qv own' hq hsep => ThenOk.den h n (k w) qv own' hsep hq) ?_
    rintro qv m n m1 n1 ⟨own', hq⟩ hc
    obtain ⟨cs, rfl⟩ := hq.looks.agg
    exact h.clo hc
  | .cut, pv, own1, hd, hden => by
    rcases hden with ⟨r, rfl⟩ | ⟨op, a, x, y, g, c', rfl⟩
    · exact DenC.cut (DenC.pass (DC.more (n r) (fun x hx => List.mem_append_right _ hx)) fun _ => h.over)
    · exact .cutS fun _ => h.step
/-- A function that goes on behind a program. -/
theorem DenC.thenO {T C f g F : FuncId} {c xs args : List DV} {t : LP A} {φ : A → LP B} {own1 own2 : Ows} (h : ThenOk KA KB T C) (hd : ∀ x ∈ own1, ∀ y ∈ own2, x.1 ≠ y.1) (d : DenC KA t g xs own1) (n : ∀ r, DenC KB (φ r) f (KA.arg r :: c) own2)
    (hF : ∀ {r0 m n m1 n1}, (own1 ++ own2).at m → Cm g xs m n (.agg r0) m1 n1 → PasM KB m1 n1 T [.agg r0, .func f c] m n F args) : DenC KB (t.bind φ) F args (own1 ++ own2) := fun k hk => by
  obtain ⟨qv, own', k1, h1, h2, h3, h4, h5⟩ := d k (fun x hx => hk x (List.mem_append_left _ hx))
  obtain ⟨cs, rfl⟩ := h5.looks.agg
  have hsep : ∀ x ∈ own', ∀ y ∈ own2, x.1 ≠ y.1 := fun x hx y hy e => by
    rcases h2 x hx with ⟨z, hz, e'⟩ | h
    · exact hd z hz y hy (e'.trans e)
    · have := hk y (List.mem_append_right _ hy); omega
  obtain ⟨rv, own'', k2, g1, g2, g3, g4, g5⟩ := h.den n t _ own' hsep h5 k1 (fun x hx => by
    rcases List.mem_append.1 hx with hx | hx
    · exact h3 x hx
    · have := hk x (List.mem_append_right _ hx); omega)
  have hfr : (own1 ++ own2).from_ k (own' ++ own2) k1 := fun x hx => by
    rcases List.mem_append.1 hx with hx | hx
    · rcases h2 x hx with ⟨z, hz, e'⟩ | h
      · exact .inl ⟨z, List.mem_append_left _ hz, e'⟩
      · exact .inr h
    · exact .inl ⟨x, List.mem_append_right _ hx, rfl⟩
  refine ⟨rv, own'', k2, by omega, hfr.trans g2 h1 g1, g3, fun m hm => ?_, g5⟩
  obtain ⟨m1, c1, c2, c3⟩ := h4 m (fun x hx => hm x (List.mem_append_left _ hx))
  have kp : (own1 ++ own2).keep k m m1 := fun b hb ho => c3 b hb (fun x hx => ho x (List.mem_append_left _ hx))
  obtain ⟨m2, e1, e2, e3⟩ := g4 m1 (fun x hx => by
    rcases List.mem_append.1 hx with hx | hx
    · exact c2 x hx
    · exact (hm x (List.mem_append_right _ hx)).far (c3 x.1 (hk x (List.mem_append_right _ hx)) (fun y hy e => hd y hy x hx e)))
  refine ⟨m2, ?_, e2, kp.trans e3 h1 hfr⟩
  rcases g5.looks with ⟨r, rfl⟩ | ⟨op, a, x, y, g, c, rfl⟩
  · exact (hF hm c1).o e1
  · exact (hF hm c1).s e1
theorem DenC.then_ {T C f g F : FuncId} {c xs args : List DV} {t : LP A} {φ : A → LP B} {own : Ows} (h : ThenOk KA KB T C) (d : DenC KA t g xs []) (n : ∀ r, DenC KB (φ r) f (KA.arg r :: c) own)
    (hF : ∀ {r0 m n m1 n1}, own.at m → Cm g xs m n (.agg r0) m1 n1 → PasM KB m1 n1 T [.agg r0, .func f c] m n F args) : DenC KB (t.bind φ) F args own :=
  DenC.thenO (own1 := []) h (fun x hx => by cases hx) d n hF
/-- Behind a program that stands there. -/
theorem DenC.thenS {T C f F : FuncId} {c args : List DV} {t : LP A} {φ : A → LP B} {own : Ows} {pv : DV} (h : ThenOk KA KB T C) (d : Den KA t pv []) (n : ∀ r, DenC KB (φ r) f (KA.arg r :: c) own)
    (hF : ∀ {m n}, own.at m → PasM KB m n T [pv, .func f c] m n F args) : DenC KB (t.bind φ) F args own :=
  (h.den n t pv [] (fun x hx => by cases hx) d).pass hF
end
end Go.Proofs.YtehihnapbpcfbaaGreat.Fun
