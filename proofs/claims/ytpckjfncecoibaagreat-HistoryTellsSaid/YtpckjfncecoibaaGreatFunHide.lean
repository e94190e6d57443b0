/- A call whose own names nobody sees may stand anywhere; a table of such calls for the evaluator by itself. -/
import Derived.Test.YtpckjfncecoibaaGreatFunAutoOk
import Derived.Test.YtpckjfncecoibaaGreatFunLaw
namespace Go.Proofs.YtpckjfncecoibaaGreat.Fun
open Go
set_option linter.unusedSimpArgs false
set_option linter.unusedVariables false
mutual
/-- No names in it. -/
def DV.bare : DV → Bool
  | .adr _ _ => false
  | .mref _ => false
  | .cref _ => false
  | .ents _ _ => false
  | .boxd _ _ => false
  | .vec _ _ _ _ => false
  | .agg cs => bareL cs
  | .tup cs => bareL cs
  | .ptr cs => bareL cs
  | .func _ cs => bareL cs
  | .bnd _ cs => bareL cs
  | .slice cs _ => bareL cs
  | _ => true
def bareL : List DV → Bool
  | [] => true
  | d :: ds => d.bare && bareL ds
end
mutual
theorem Abs.bare {ρ ρ' : Nat → Option Nat} {S : Nat → Prop} {w : World} : ∀ (d : DV) {v : Value}, d.bare = true → Abs ρ S w d v → Abs ρ' S w d v
  | .any, _, _, _ => by simp only [Abs]
  | .int _ _, _, _, h => by simpa only [Abs] using h
  | .bool _, _, _, h => by simpa only [Abs] using h
  | .str _, _, _, h => by simpa only [Abs] using h
  | .nilp, _, _, h => by simpa only [Abs] using h
  | .nilf, _, _, h => by simpa only [Abs] using h
  | .nils, _, _, h => by simpa only [Abs] using h
  | .spot, _, _, h => by simpa only [Abs] using h
  | .loc _ _, _, _, h => by simp only [Abs] at h
  | .adr _ _, _, hb, _ => by simp [DV.bare] at hb
  | .mref _, _, hb, _ => by simp [DV.bare] at hb
  | .cref _, _, hb, _ => by simp [DV.bare] at hb
  | .ents _ _, _, hb, _ => by simp [DV.bare] at hb
  | .boxd _ _, _, hb, _ => by simp [DV.bare] at hb
  | .nilm, _, _, h => by simpa only [Abs] using h
  | .emap, _, _, h => by simpa only [Abs] using h
  | .miter, _, _, h => by simpa only [Abs] using h
  | .vec _ _ _ _, _, hb, _ => by simp [DV.bare] at hb
  | .agg cs, _, hb, h => by
    simp only [Abs] at h ⊢; simp only [DV.bare] at hb
    obtain ⟨vs, rfl, h⟩ := h; exact ⟨vs, rfl, AbsL.bare cs hb h⟩
  | .tup cs, _, hb, h => by
    simp only [Abs] at h ⊢; simp only [DV.bare] at hb
    obtain ⟨vs, rfl, h⟩ := h; exact ⟨vs, rfl, AbsL.bare cs hb h⟩
  | .ptr cs, _, hb, h => by
    simp only [Abs] at h ⊢; simp only [DV.bare] at hb
    obtain ⟨b, off, vs, rfl, h1, h2, h⟩ := h; exact ⟨b, off, vs, rfl, h1, h2, AbsL.bare cs hb h⟩
  | .func f cs, _, hb, h => by
    simp only [Abs] at h ⊢; simp only [DV.bare] at hb
    obtain ⟨vs, rfl, h⟩ := h; exact ⟨vs, rfl, AbsL.bare cs hb h⟩
  | .bnd f cs, _, hb, h => by
    simp only [Abs] at h ⊢; simp only [DV.bare] at hb
    obtain ⟨vs, rfl, h⟩ := h; exact ⟨vs, rfl, AbsL.bare cs hb h⟩
  | .slice cs n, _, hb, h => by
    simp only [Abs] at h ⊢; simp only [DV.bare] at hb
    obtain ⟨a, cap, vs, rfl, h1, h, h2⟩ := h; exact ⟨a, cap, vs, rfl, h1, AbsL.bare cs hb h, h2⟩
theorem AbsL.bare {ρ ρ' : Nat → Option Nat} {S : Nat → Prop} {w : World} : ∀ (ds : List DV) {vs : List Value}, bareL ds = true → AbsL ρ S w ds vs → AbsL ρ' S w ds vs
  | [], _, _, h => by rw [h.nil_inv]; exact .nil
  | d :: ds, _, hb, h => by
    simp only [bareL, Bool.and_eq_true] at hb
    obtain ⟨v, rest, rfl, h1, h2⟩ := h.cons_inv
    exact .cons (Abs.bare d hb.1 h1) (AbsL.bare ds hb.2 h2)
end
mutual
/-- Does the second tell what the first tells? -/
def DV.under : DV → DV → Bool
  | .any, _ => true
  | .int k n, .int k' n' => decide (k = k') && decide (n = n')
  | .bool b, .bool b' => b == b'
  | .nilp, .nilp => true
  | .nilf, .nilf => true
  | .nils, .nils => true
  | .agg cs, .agg ds => underL cs ds
  | .tup cs, .tup ds => underL cs ds
  | .func f cs, .func g ds => f == g && underL cs ds
  | .ptr cs, .ptr ds => underL cs ds
  | _, _ => false
def underL : List DV → List DV → Bool
  | [], [] => true
  | c :: cs, d :: ds => c.under d && underL cs ds
  | _, _ => false
end
mutual
theorem Abs.under {ρ : Nat → Option Nat} {S : Nat → Prop} {w : World} : ∀ (c d : DV) {v : Value}, c.under d = true → Abs ρ S w d v → Abs ρ S w c v
  | .any, _, _, _, _ => by simp only [Abs]
  | .int k n, d, v, h, hv => by
    cases d <;> simp only [DV.under] at h <;> first | (cases h; done) | skip
    simp only [Bool.and_eq_true, decide_eq_true_eq] at h
    obtain ⟨rfl, rfl⟩ := h; exact hv
  | .bool b, d, v, h, hv => by
    cases d <;> simp only [DV.under] at h <;> first | (cases h; done) | skip
    simp only [beq_iff_eq] at h; subst h; exact hv
  | .nilp, d, v, h, hv => by cases d <;> simp only [DV.under] at h <;> first | (cases h; done) | exact hv
  | .nilf, d, v, h, hv => by cases d <;> simp only [DV.under] at h <;> first | (cases h; done) | exact hv
  | .nils, d, v, h, hv => by cases d <;> simp only [DV.under] at h <;> first | (cases h; done) | exact hv
  | .agg cs, d, v, h, hv => by
    cases d <;> simp only [DV.under] at h <;> first | (cases h; done) | skip
    rename_i ds
    simp only [Abs] at hv ⊢
    obtain ⟨vs, rfl, hv⟩ := hv; exact ⟨vs, rfl, AbsL.under cs ds h hv⟩
  | .tup cs, d, v, h, hv => by
    cases d <;> simp only [DV.under] at h <;> first | (cases h; done) | skip
    rename_i ds
    simp only [Abs] at hv ⊢
    obtain ⟨vs, rfl, hv⟩ := hv; exact ⟨vs, rfl, AbsL.under cs ds h hv⟩
  | .str _, d, _, h, _ => by cases d <;> simp [DV.under] at h
  | .ptr cs, d, v, h, hv => by
    cases d <;> simp only [DV.under] at h <;> first | (cases h; done) | skip
    rename_i ds
    simp only [Abs] at hv ⊢
    obtain ⟨b, off, vs, rfl, h1, h2, hv⟩ := hv; exact ⟨b, off, vs, rfl, h1, h2, AbsL.under cs ds h hv⟩
  | .func f cs, d, v, h, hv => by
    cases d <;> simp only [DV.under] at h <;> first | (cases h; done) | skip
    rename_i g ds
    simp only [Bool.and_eq_true, beq_iff_eq] at h
    obtain ⟨rfl, h⟩ := h
    simp only [Abs] at hv ⊢
    obtain ⟨vs, rfl, hv⟩ := hv; exact ⟨vs, rfl, AbsL.under cs ds h hv⟩
  | .slice _ _, d, _, h, _ => by cases d <;> simp [DV.under] at h
  | .loc _ _, d, _, h, _ => by cases d <;> simp [DV.under] at h
  | .adr _ _, d, _, h, _ => by cases d <;> simp [DV.under] at h
  | .mref _, d, _, h, _ => by cases d <;> simp [DV.under] at h
  | .cref _, d, _, h, _ => by cases d <;> simp [DV.under] at h
  | .ents _ _, d, _, h, _ => by cases d <;> simp [DV.under] at h
  | .boxd _ _, d, _, h, _ => by cases d <;> simp [DV.under] at h
  | .nilm, d, _, h, _ => by cases d <;> simp [DV.under] at h
  | .emap, d, _, h, _ => by cases d <;> simp [DV.under] at h
  | .miter, d, _, h, _ => by cases d <;> simp [DV.under] at h
  | .vec _ _ _ _, d, _, h, _ => by cases d <;> simp [DV.under] at h
  | .spot, d, _, h, _ => by cases d <;> simp [DV.under] at h
  | .bnd _ _, d, _, h, _ => by cases d <;> simp [DV.under] at h
theorem AbsL.under {ρ : Nat → Option Nat} {S : Nat → Prop} {w : World} : ∀ (cs ds : List DV) {vs : List Value}, underL cs ds = true → AbsL ρ S w ds vs → AbsL ρ S w cs vs
  | [], [], _, _, h => h
  | [], _ :: _, _, h, _ => by simp [underL] at h
  | _ :: _, [], _, h, _ => by simp [underL] at h
  | c :: cs, d :: ds, _, h, hv => by
    simp only [underL, Bool.and_eq_true] at h
    obtain ⟨v, rest, rfl, h1, h2⟩ := hv.cons_inv
    exact .cons (Abs.under c d h.1 h1) (AbsL.under cs ds h.2 h2)
end
section
variable {P : Program}
theorem CallOk.under {f : FuncId} {ds : List DV} {mu mu' : Mu} {c d : DV} {dirty : Bool} {fresh : List Nat} (h : CallOk P f ds mu d mu' dirty fresh) (hc : c.under d = true) : CallOk P f ds mu c mu' dirty fresh :=
  ⟨h.enters, fun ρ S w vs hn hfr sane hmu hab => (h.runs ρ S w vs hn hfr sane hmu hab).mono fun e w' ⟨v, S', ρ', h1, h2, h3, h4, h5, h6, h7, h8⟩ => ⟨v, S', ρ', h1, h2, h3, h4, h5, h6, h7, Abs.under c d hc h8⟩⟩
/-- What a call makes for itself is not seen. -/
theorem CallOk.hide {f : FuncId} {ds : List DV} {mu' : Mu} {d : DV} {fresh : List Nat} (h : CallOk P f ds noMu d mu' false fresh) (hds : bareL ds = true) (hd : d.bare = true) (m : Mu) : CallOk P f ds m d m false [] := by
  refine ⟨h.enters, fun ρ S w vs hn hfr sane hmu hab => (h.runs (fun _ => none) S w vs ⟨fun _ _ _ _ _ h => (by cases h), fun _ _ h => (by cases h)⟩ (fun _ _ => rfl) sane (fun _ _ _ h => (by cases h)) (AbsL.bare ds hds hab)).mono ?_⟩
  rintro e w' ⟨v, S', ρ', rfl, hp, _, _, _, _, _, hv⟩
  have same : ∀ b, b < w.heap.size → w'.heap[b]? = w.heap[b]? := fun b hb => hp.clean rfl b hb (by rintro ⟨_, _, _, h, _⟩; cases h)
  have hE : Ext ρ w ρ w' := .same fun n b h => same b (hn.lt n b h)
  refine ⟨v, S', ρ, rfl, ⟨hp.os, hp.tape, hp.output, hp.size, fun b hb _ _ => same b hb, fun _ b hb _ => same b hb, hp.up, hp.from_⟩, hn.mono hp.size, hE, fun _ _ h => .inl h, hmu.mono hE (fun b hb => same b (sane b hb)) (fun b hb => same b (hmu.lt hb)) hp.up (fun b hD hS => ?_), fun b h => .inl h, Abs.bare d hd hv⟩
  rcases hp.from_ b hS with h | ⟨h, _⟩
  · exact hmu.notS hD h
  · have := hmu.lt hD; omega
theorem rowsMu_nil : rowsMu [] = noMu := by funext b o; simp [rowsMu, noMu]
/-- A call that the evaluator goes through from nothing on. -/
theorem callOk_deep {orc : Orc} (horc : OrcOk P orc) {f : FuncId} {ds : List DV} {d : DV} {mem' : Mem} {wrote : Bool} (h : (orc f ds (.rows []) []).map (fun r => (r.1, r.2.1, r.2.2.1, r.2.2.2.1, r.2.2.2.2.1)) = some (d, mem', false, wrote, [])) :
    CallOk P f ds noMu d mem'.mu false (names (.rows []) mem') := by
  simp only [Option.map_eq_some_iff, Prod.mk.injEq] at h
  obtain ⟨⟨d0, m0, di, wr, obs, sc⟩, ho, rfl, rfl, rfl, rfl, rfl⟩ := h
  have := (horc _ _ _ _ _ _ _ _ _ _ ho (by simp)).1
  rwa [show (Mem.rows []).mu = noMu from rowsMu_nil] at this
/-- The like, on a way whose decisions are duties. -/
theorem callOk_sdeep {orc : Orc} (horc : OrcOk P orc) {f : FuncId} {ds : List DV} {d : DV} {sc : Sc} {obs : List Ob} (h : (orc f ds (.rows []) sc).map (fun r => (r.1, r.2.2.1, r.2.2.2.2.1)) = some (d, false, obs)) (hob : ∀ x ∈ obs, x.ok P) (hds : bareL ds = true) (hd : d.bare = true) (m : Mu) :
    CallOk P f ds m d m false [] := by
  simp only [Option.map_eq_some_iff, Prod.mk.injEq] at h
  obtain ⟨⟨d0, m0, di, wr, obs0, sc0⟩, ho, rfl, rfl, rfl⟩ := h
  have := (horc _ _ _ _ _ _ _ _ _ _ ho hob).1
  rw [show (Mem.rows []).mu = noMu from rowsMu_nil] at this
  exact this.hide hds hd m
/-- The like, where nothing is told of what it makes. -/
theorem callOk_deep_hide {orc : Orc} (horc : OrcOk P orc) {f : FuncId} {ds : List DV} {c : DV} (h : (orc f ds (.rows []) []).map (fun r => (c.under r.1, r.2.2.1, r.2.2.2.2.1)) = some (true, false, [])) (hds : bareL ds = true) (hc : c.bare = true) (m : Mu) : CallOk P f ds m c m false [] := by
  simp only [Option.map_eq_some_iff, Prod.mk.injEq] at h
  obtain ⟨⟨d0, m0, di, wr, obs, sc⟩, ho, hu, rfl, rfl⟩ := h
  have := (horc _ _ _ _ _ _ _ _ _ _ ho (by simp)).1
  rw [show (Mem.rows []).mu = noMu from rowsMu_nil] at this
  exact (this.under hu).hide hds hc m
/-- A table of calls whose results are known. -/
structure Known (P : Program) where
  f : FuncId
  ds : List DV
  d : DV
  ok : ∀ m, CallOk P f ds m d m false []
mutual
def DV.same : DV → DV → Bool
  | .int k n, .int k' n' => decide (k = k') && decide (n = n')
  | .bool b, .bool b' => (match b, b' with | true, true => true | false, false => true | _, _ => false)
  | .agg cs, .agg ds => sameL cs ds
  | .slice cs n, .slice ds m => Nat.beq n m && sameL cs ds
  | _, _ => false
def sameL : List DV → List DV → Bool
  | [], [] => true
  | c :: cs, d :: ds => c.same d && sameL cs ds
  | _, _ => false
end
mutual
theorem DV.same_eq : ∀ (c d : DV), c.same d = true → c = d
  | .int k n, d, h => by
    cases d <;> simp only [DV.same] at h <;> first | (cases h; done) | skip
    simp only [Bool.and_eq_true, decide_eq_true_eq] at h
    obtain ⟨rfl, rfl⟩ := h; rfl
  | .bool b, d, h => by
    cases d <;> simp only [DV.same] at h <;> first | (cases h; done) | skip
    rename_i b'; cases b <;> cases b' <;> first | rfl | cases h
  | .agg cs, d, h => by
    cases d <;> simp only [DV.same] at h <;> first | (cases h; done) | skip
    rename_i ds; rw [sameL_eq cs ds h]
  | .slice cs n, d, h => by
    cases d <;> simp only [DV.same] at h <;> first | (cases h; done) | skip
    rename_i ds m
    simp only [Bool.and_eq_true] at h
    rw [sameL_eq cs ds h.2, Nat.eq_of_beq_eq_true h.1]
  | .any, d, h => by cases d <;> simp [DV.same] at h
  | .str _, d, h => by cases d <;> simp [DV.same] at h
  | .nilp, d, h => by cases d <;> simp [DV.same] at h
  | .nilf, d, h => by cases d <;> simp [DV.same] at h
  | .tup _, d, h => by cases d <;> simp [DV.same] at h
  | .ptr _, d, h => by cases d <;> simp [DV.same] at h
  | .func _ _, d, h => by cases d <;> simp [DV.same] at h
  | .loc _ _, d, h => by cases d <;> simp [DV.same] at h
  | .adr _ _, d, h => by cases d <;> simp [DV.same] at h
  | .vec _ _ _ _, d, h => by cases d <;> simp [DV.same] at h
  | .spot, d, h => by cases d <;> simp [DV.same] at h
  | .nils, d, h => by cases d <;> simp [DV.same] at h
  | .bnd _ _, d, h => by cases d <;> simp [DV.same] at h
theorem sameL_eq : ∀ (cs ds : List DV), sameL cs ds = true → cs = ds
  | [], [], _ => rfl
  | [], _ :: _, h => by simp [sameL] at h
  | _ :: _, [], h => by simp [sameL] at h
  | c :: cs, d :: ds, h => by
    simp only [sameL, Bool.and_eq_true] at h
    rw [DV.same_eq c d h.1, sameL_eq cs ds h.2]
end
def find (P : Program) : List (Known P) → FuncId → List DV → Option DV
  | [], _, _ => none
  | k :: ks, f, ds => (match Nat.beq k.f f with | true => (match sameL k.ds ds with | true => some k.d | false => find P ks f ds) | false => find P ks f ds)
theorem find_ok : ∀ {ks : List (Known P)} {f : FuncId} {ds : List DV} {d : DV}, find P ks f ds = some d → ∀ m, CallOk P f ds m d m false []
  | [], _, _, _, h, _ => by simp [find] at h
  | k :: ks, f, ds, d, h, m => by
    simp only [find] at h
    split at h
    · rename_i hf
      split at h
      · rename_i hs
        cases h
        have := k.ok m
        rwa [Nat.eq_of_beq_eq_true hf, sameL_eq _ _ hs] at this
      · exact find_ok h m
    · exact find_ok h m
variable {T : TypeId → Option TI} (hT : ∀ t ti, T t = some ti → tiOf P t = some ti) (hm : P.follows .mixedOrders = true)
/-- The evaluator by itself, with a table. -/
def deepK (T : TypeId → Option TI) (fns : Fns) (ks : List (Known P)) (rounds : Nat) : Nat → Orc
  | 0 => fun _ _ _ _ => none
  | n + 1 => fun f args mem sc =>
    match find P ks f args with
    | some d => some (d, mem, false, false, [], sc)
    | none =>
      match fns f with
      | some (fn, nms) => runBodyA T (deepK T fns ks rounds n) rounds fn nms args mem sc
      | none => none
include hT hm in
theorem deepK_ok {fns : Fns} (hfns : FnsOk P fns) (ks : List (Known P)) (rounds : Nat) : ∀ n, OrcOk P (deepK T fns ks rounds n)
  | 0 => fun f args mem sc d mem' dirty wrote obs sc' h _ => by simp [deepK] at h
  | n + 1 => fun f args mem sc d mem' dirty wrote obs sc' h hob => by
    simp only [deepK] at h
    split at h
    · rename_i d0 hk
      cases h
      have hnm : names mem mem = [] := by simp [names]
      rw [hnm]
      exact ⟨find_ok hk _, Nat.le_refl _, fun _ => rfl⟩
    · split at h
      · rename_i fn nms hf
        obtain ⟨h1, h2⟩ := hfns f _ hf
        exact runBodyA_sound hT hm (deepK_ok hfns ks rounds n) h1 h2 h hob
      · cases h
end
end Go.Proofs.YtpckjfncecoibaaGreat.Fun
