/- The evaluator by itself, told of some calls, with a table of functions' results. -/
import Derived.Test.YtpckjfncecoibaaGreatFunHide
import Derived.KernelRfl
namespace Go.Proofs.YtpckjfncecoibaaGreat.Fun
open Go
set_option linter.unusedSimpArgs false
set_option linter.unusedVariables false
/-- Results of functions that change nothing, by their arguments. -/
abbrev Sums := FuncId → List DV → Option DV
def SumsOk (P : Program) (K : Sums) : Prop := ∀ f args d, K f args = some d → ∀ m, CallOk P f args m d m false []
/-- Such a table, as a list. -/
def sumsL : List (FuncId × (List DV → Option DV)) → Sums
  | [], _, _ => none
  | (g, e) :: l, f, args => match Nat.beq g f with | true => e args | false => sumsL l f args
theorem sumsL_nil {P : Program} : SumsOk P (sumsL []) := fun _ _ _ h => by simp [sumsL] at h
theorem sumsL_cons {P : Program} {g : FuncId} {e : List DV → Option DV} {l : List (FuncId × (List DV → Option DV))} (h : ∀ args d, e args = some d → ∀ m, CallOk P g args m d m false []) (t : SumsOk P (sumsL l)) : SumsOk P (sumsL ((g, e) :: l)) := by
  intro f args d hd
  simp only [sumsL] at hd
  split at hd
  · rename_i hg
    rw [← Nat.eq_of_beq_eq_true hg]
    exact h args d hd
  · exact t f args d hd
def deepS (T : TypeId → Option TI) (fns : Fns) (K : Sums) (rounds : Nat) : Nat → Orc
  | 0 => fun _ _ _ _ => none
  | n + 1 => fun f args mem sc =>
    match sc with
    | .res d :: r => some (d, mem, false, false, [.call f args mem.mu d mem.mu false []], r)
    | .resM d m' n' :: r => some (d, .hid m' n', false, true, [.call f args mem.mu d m' false (List.range' mem.size (n' - mem.size)), .eq (decide (mem.size ≤ n')) true], r)
    | .go :: r =>
      match K f args with
      | some d => some (d, mem, false, false, [], r)
      | none =>
        match fns f with
        | some (fn, nms) => runBodyA T (deepS T fns K rounds n) rounds fn nms args mem r
        | none => none
    | sc =>
      match K f args with
      | some d => some (d, mem, false, false, [], sc)
      | none =>
        match fns f with
        | some (fn, nms) => runBodyA T (deepS T fns K rounds n) rounds fn nms args mem sc
        | none => none
section
variable {P : Program} {T : TypeId → Option TI} (hT : ∀ t ti, T t = some ti → tiOf P t = some ti) (hm : P.follows .mixedOrders = true)
include hT hm in
theorem deepS_ok {fns : Fns} (hfns : FnsOk P fns) {K : Sums} (hK : SumsOk P K) (rounds : Nat) : ∀ n, OrcOk P (deepS T fns K rounds n)
  | 0 => fun f args mem sc d mem' dirty wrote obs sc' h _ => by simp [deepS] at h
  | n + 1 => fun f args mem sc d mem' dirty wrote obs sc' h hob => by
    have hnm : ∀ m : Mem, names m m = [] := fun m => by simp [names]
    have main : ∀ r, (match K f args with
      | some d => some (d, mem, false, false, [], r)
      | none =>
        match fns f with
        | some (fn, nms) => runBodyA T (deepS T fns K rounds n) rounds fn nms args mem r
        | none => none) = some (d, mem', dirty, wrote, obs, sc') → CallOk P f args mem.mu d mem'.mu dirty (names mem mem') ∧ mem.size ≤ mem'.size ∧ (wrote = false → mem' = mem) := by
      intro r h
      split at h
      · rename_i d0 hk
        cases h
        rw [hnm]
        exact ⟨hK _ _ _ hk _, Nat.le_refl _, fun _ => rfl⟩
      · split at h
        · rename_i fn nms hf
          obtain ⟨h1, h2⟩ := hfns f _ hf
          exact runBodyA_sound hT hm (deepS_ok hfns hK rounds n) h1 h2 h hob
        · cases h
    unfold deepS at h
    split at h
    · cases h
      rw [hnm]
      exact ⟨hob (.call f args mem.mu d mem.mu false []) (List.mem_singleton.2 rfl), Nat.le_refl _, fun _ => rfl⟩
    · rename_i d0 m0 n0 r0
      cases h
      have h1 := hob (.call f args mem.mu d m0 false (List.range' mem.size (n0 - mem.size))) (List.mem_cons_self ..)
      have h2 : decide (mem.size ≤ n0) = true := hob (.eq (decide (mem.size ≤ n0)) true) (List.mem_cons_of_mem _ (List.mem_singleton.2 rfl))
      exact ⟨h1, of_decide_eq_true h2, fun h => (by cases h)⟩
    · exact main _ h
    · exact main _ h
/-- What is asked for, out of the duties: o: the next duty's; g: gone into; s: seen; d: k duties of an operation; m: a call that changes others' cells, and the names' number behind it; v: what is loaded. -/
inductive Mk where
  | o
  | g
  | s
  | d (k : Nat)
  | m (n : Nat)
  | v (x : DV)
def Ob.say : Ob → SayB
  | .eq _ b => .way b
  | .call _ _ _ d _ _ _ => .res d
  | _ => .seen
def scOf : List Mk → List Ob → Sc
  | .o :: ms, o :: obs => o.say :: scOf ms obs
  | .g :: ms, obs => .go :: scOf ms obs
  | .s :: ms, obs => .seen :: scOf ms obs
  | .d k :: ms, obs => .duty :: scOf ms (obs.drop k)
  | .m n :: ms, .call _ _ _ d m' _ _ :: obs => .resM d m' n :: scOf ms (obs.drop 1)
  | .v x :: ms, obs => .val x :: scOf ms (obs.drop x.cells.length)
  | _, obs => obs.map Ob.say
theorem obsN : ∀ x ∈ ([] : List Ob), x.ok P := fun _ h => by cases h
theorem obsE {b y : Bool} {l : List Ob} (h : b = y) (t : ∀ x ∈ l, x.ok P) : ∀ x ∈ Ob.eq b y :: l, x.ok P := fun x hx => by rcases List.mem_cons.1 hx with rfl | hx; exact h; exact t x hx
theorem obsC {f : FuncId} {args : List DV} {m : Mu} {d : DV} {l : List Ob} (h : CallOk P f args m d m false []) (t : ∀ x ∈ l, x.ok P) : ∀ x ∈ Ob.call f args m d m false [] :: l, x.ok P := fun x hx => by rcases List.mem_cons.1 hx with rfl | hx; exact h; exact t x hx
theorem obsM {f : FuncId} {args : List DV} {m m' : Mu} {n n' : Nat} {d : DV} {l : List Ob} (h : CallOk P f args m d m' false (List.range' n (n' - n)) ∧ n ≤ n') (t : ∀ x ∈ l, x.ok P) :
    ∀ x ∈ Ob.call f args m d m' false (List.range' n (n' - n)) :: Ob.eq (decide (n ≤ n')) true :: l, x.ok P := fun x hx => by
  rcases List.mem_cons.1 hx with rfl | hx
  · exact h.1
  · rcases List.mem_cons.1 hx with rfl | hx
    · exact decide_eq_true h.2
    · exact t x hx
/-- A block's cells are known. -/
def Has (m : Mu) (g : Nat) (cs : List DV) : Prop := ∀ o d, cs[o]? = some d → m g o = some d
theorem obsL {m : Mu} {g : Nat} {cs : List DV} (off : Nat) (ds : List DV) {l : List Ob} (h : Has m g cs) (e : (cs.drop off).take ds.length = ds) (t : ∀ x ∈ l, x.ok P) : ∀ x ∈ cellObs m g off ds ++ l, x.ok P := by
  intro x hx
  rcases List.mem_append.1 hx with hx | hx
  · have gen : ∀ (ds : List DV) (z : Nat), (∀ j dd, ds[j]? = some dd → m g (z + j) = some dd) → ∀ x ∈ cellObs m g z ds, x.ok P := by
      intro ds
      induction ds with
      | nil => intro z _ x hx; simp [cellObs] at hx
      | cons dd ds ih =>
        intro z hz x hx
        simp only [cellObs, List.mem_cons] at hx
        rcases hx with rfl | hx
        · exact hz 0 dd rfl
        · exact ih (z + 1) (fun j d' hj => by rw [Nat.add_assoc, Nat.add_comm 1 j]; exact hz (j + 1) d' (by simpa using hj)) x hx
    exact gen ds off (fun j dd hj => h _ _ (by
      have hlt := (List.getElem?_eq_some_iff.1 hj).1
      rw [← e, List.getElem?_take, if_pos hlt, List.getElem?_drop] at hj
      exact hj)) x hx
  · exact t x hx
theorem obsW {m : Mu} {g : Nat} {cs : List DV} (off : Nat) (ds : List DV) {l : List Ob} (h : Has m g cs) (e : off + ds.length ≤ cs.length) (pl : ((cs.drop off).take ds.length).all DV.plain = true) (t : ∀ x ∈ l, x.ok P) : ∀ x ∈ someObs m g off ds ++ l, x.ok P := by
  intro x hx
  rcases List.mem_append.1 hx with hx | hx
  · have gen : ∀ (ds : List DV) (z : Nat), z + ds.length ≤ cs.length → (∀ d ∈ (cs.drop z).take ds.length, d.plain = true) → ∀ x ∈ someObs m g z ds, x.ok P := by
      intro ds
      induction ds with
      | nil => intro z _ _ x hx; simp [someObs] at hx
      | cons dd ds ih =>
        intro z hz hp x hx
        simp only [List.length_cons] at hz hp
        simp only [someObs, List.mem_cons] at hx
        have hlt : z < cs.length := by omega
        rw [List.drop_eq_getElem_cons hlt, List.take_succ_cons] at hp
        rcases hx with rfl | hx
        · show (m g z).any DV.plain = true
          rw [h z cs[z] (List.getElem?_eq_getElem hlt)]
          exact hp _ (List.mem_cons_self ..)
        · exact ih (z + 1) (by omega) (fun d hd => hp d (List.mem_cons_of_mem _ hd)) x hx
    exact gen ds off e (fun d hd => List.all_eq_true.1 pl d hd) x hx
  · exact t x hx
theorem Has.upd {m : Mu} {g : Nat} {cs : List DV} (off : Nat) (ds : List DV) (h : Has m g cs) (e : off + ds.length ≤ cs.length) : Has (updMu m g off ds) g (fillAt cs off ds) := by
  intro o d hd
  rw [fillAt_getAt] at hd
  rw [updMu_get]
  by_cases hc : off ≤ o ∧ o < off + ds.length
  · rw [if_pos ⟨hc.1, hc.2, by omega⟩] at hd
    rw [if_pos ⟨rfl, hc⟩]; exact hd
  · rw [if_neg (fun q => hc ⟨q.1, q.2.1⟩)] at hd
    rw [if_neg (fun q => hc q.2)]; exact h o d hd
theorem Has.new (m : Mu) (g : Nat) (cs : List DV) : Has (updMu m g 0 cs) g cs := by
  intro o d hd
  rw [updMu_get, if_pos ⟨rfl, Nat.zero_le _, by have := (List.getElem?_eq_some_iff.1 hd).1; omega⟩]
  exact hd
theorem Has.far {m m' : Mu} {g : Nat} {cs : List DV} (h : Has m g cs) (e : ∀ o, m' g o = m g o) : Has m' g cs := fun o d hd => by rw [e]; exact h o d hd
/-- A call that the evaluator goes through, whatever others' cells are; n: the names' number. -/
theorem callOk_M {orc : Orc} (horc : OrcOk P orc) {f : FuncId} {ds : List DV} {d : DV} {m m' : Mu} {n n' : Nat} {obs : List Ob} (ms : List Mk) (hob : ∀ x ∈ obs, x.ok P)
    (h : (orc f ds (.hid m n) (.go :: scOf ms obs)).map (fun r => (r.1, r.2.1, r.2.2.1, r.2.2.2.2.1)) = some (d, .hid m' n', false, obs)) : CallOk P f ds m d m' false (List.range' n (n' - n)) ∧ n ≤ n' := by
  simp only [Option.map_eq_some_iff, Prod.mk.injEq] at h
  obtain ⟨⟨d0, m0, di, wr, obs0, sc0⟩, ho, rfl, rfl, rfl, rfl⟩ := h
  have := horc _ _ _ _ _ _ _ _ _ _ ho hob
  exact ⟨this.1, this.2.1⟩
theorem callOk_S {orc : Orc} (horc : OrcOk P orc) {f : FuncId} {ds : List DV} {d : DV} {m : Mu} {obs : List Ob} (ms : List Mk) (hob : ∀ x ∈ obs, x.ok P)
    (h : (orc f ds (.hid m 0) (.go :: scOf ms obs)).map (fun r => (r.1, r.2.1, r.2.2.1, r.2.2.2.2.1)) = some (d, .hid m 0, false, obs)) : CallOk P f ds m d m false [] := (callOk_M horc ms hob h).1
/-- The like, from nothing on: rows may be made that nobody sees. -/
theorem callOk_R {orc : Orc} (horc : OrcOk P orc) {f : FuncId} {ds : List DV} {d : DV} {obs : List Ob} (ms : List Mk) (hob : ∀ x ∈ obs, x.ok P) (hds : bareL ds = true) (hd : d.bare = true)
    (h : (orc f ds (.rows []) (.go :: scOf ms obs)).map (fun r => (r.1, r.2.2.1, r.2.2.2.2.1)) = some (d, false, obs)) (m : Mu) : CallOk P f ds m d m false [] := callOk_sdeep horc h hob hds hd m
end
end Go.Proofs.YtpckjfncecoibaaGreat.Fun
