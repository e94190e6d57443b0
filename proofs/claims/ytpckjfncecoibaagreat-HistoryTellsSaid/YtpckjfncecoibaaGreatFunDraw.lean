/- Operations of a region that draws its order: whatever order, the state is that of the text's order. -/
import Derived.Test.YtpckjfncecoibaaGreatFunSeq
namespace Go.Proofs.YtpckjfncecoibaaGreat.Fun
open Go
set_option linter.unusedSimpArgs false
set_option linter.unusedVariables false
section
variable {P : Program} {T : TypeId → Option TI}

/-- A piece's run in the order of the text, where no operation writes what others see. -/
structure Canon (P : Program) (T : TypeId → Option TI) (ops : Array Oper) (hide : List Nat) (g : Nat → Option Nat) (s e : Nat) (f : Nat → St) (W R : Nat → Bool) : Prop where
  step : ∀ i, s ≤ i → i < e → ∃ sc out, stepI T ops hide (g i) i (f i) sc = some out ∧ out.st = f (i + 1) ∧ (∀ x ∈ out.obs, x.ok P) ∧ out.loud = false ∧ out.wr = W i ∧ out.sens = R i
  ord : ∀ i k, s ≤ i → i < k → k < e → (W i = true ∨ W k = true) → R i = true → R k = true → ((masks ops.toList []).getD k 0).testBit i = true

theorem canon_of_run {ops : Array Oper} {hide : List Nat} {g : Nat → Option Nat} : ∀ (n k : Nat) {s : St} {script : List Say} {out : Out}, runOps T ops hide g (List.range' k n) s script = some out → (∀ x ∈ out.obs, x.ok P) → out.loud = false →
    ∃ (f : Nat → St) (W R : Nat → Bool), f k = s ∧ f (k + n) = out.st ∧ (∀ i, k ≤ i → i < k + n → ∃ sc o, stepI T ops hide (g i) i (f i) sc = some o ∧ o.st = f (i + 1) ∧ (∀ x ∈ o.obs, x.ok P) ∧ o.loud = false ∧ o.wr = W i ∧ o.sens = R i) ∧
      out.fl = (List.range' k n).map fun i => (W i, R i)
  | 0, k, s, script, out, h, _, _ => by
    simp only [List.range'_zero, runOps, Option.some.injEq] at h
    subst h
    exact ⟨fun _ => s, fun _ => false, fun _ => false, rfl, rfl, fun i h1 h2 => by omega, rfl⟩
  | n + 1, k, s, script, out, h, hob, hmt => by
    rw [List.range'_succ] at h
    simp only [runOps] at h
    split at h
    · cases h
    · rename_i r1 h1
      split at h
      · cases h
      · rename_i q h2
        cases h
        simp only [Bool.or_eq_false_iff] at hmt
        obtain ⟨f, W, R, hf0, hf1, hf, hfl⟩ := canon_of_run n (k + 1) h2 (fun x hx => hob x (List.mem_append_right _ hx)) hmt.2
        refine ⟨fun i => if i ≤ k then s else f i, fun i => if i = k then r1.wr else W i, fun i => if i = k then r1.sens else R i, by simp, by dsimp only; rw [if_neg (by omega), ← hf1]; congr 1; omega, fun i hi1 hi2 => ?_, ?_⟩
        · by_cases hik : i = k
          · subst hik
            refine ⟨script, r1, by simpa using h1, ?_, fun x hx => hob x (List.mem_append_left _ hx), hmt.1, by simp, by simp⟩
            dsimp only; rw [if_neg (by omega)]; exact hf0.symm
          · obtain ⟨sc, o, a, b, c1, c2, c3, c4⟩ := hf i (by omega) (by omega)
            exact ⟨sc, o, by dsimp only; rw [if_neg (by omega)]; exact a, by dsimp only; rw [if_neg (by omega)]; exact b, c1, c2, by dsimp only; rw [if_neg hik]; exact c3, by dsimp only; rw [if_neg hik]; exact c4⟩
        · rw [List.range'_succ, List.map_cons]
          dsimp only
          rw [if_pos rfl, if_pos rfl, hfl]
          congr 1
          refine List.map_congr_left fun i hi => ?_
          have := List.mem_range'_1.1 hi
          rw [if_neg (by omega), if_neg (by omega)]
/-- What flOk says. -/
theorem flOk_spec {ms : List Nat} {k n : Nat} {W R : Nat → Bool} (h : flOk ms k ((List.range' k n).map fun i => (W i, R i)) = true) :
    ∀ i j, k ≤ i → i < j → j < k + n → (W i = true ∨ W j = true) → R i = true → R j = true → (ms.getD j 0).testBit i = true := by
  intro i j h1 h2 h3 h4 h5 h6
  unfold flOk at h
  simp only [List.all_eq_true, List.mem_range, List.length_map, List.length_range'] at h
  have := h (j - k) (by omega) (i - k) (by omega)
  have e1 : ((List.range' k n).map fun i => (W i, R i))[i - k]? = some (W i, R i) := by
    have : (List.range' k n)[i - k]? = some i := by rw [List.getElem?_range' (by omega)]; congr 1; omega
    rw [List.getElem?_map, this]; rfl
  have e2 : ((List.range' k n).map fun i => (W i, R i))[j - k]? = some (W j, R j) := by
    have : (List.range' k n)[j - k]? = some j := by rw [List.getElem?_range' (by omega)]; congr 1; omega
    rw [List.getElem?_map, this]; rfl
  rw [e1, e2] at this
  simp only [h5, h6, Bool.and_true, Bool.or_eq_true, Bool.not_eq_true'] at this
  rcases this with h | h
  · rcases h4 with h' | h' <;> rw [h'] at h <;> simp at h
  · rwa [show k + (j - k) = j by omega, show k + (i - k) = i by omega] at h

theorem any_mem {α : Type} {xs : Array α} {p : α → Bool} : xs.any p = true ↔ ∃ x ∈ xs, p x = true := by
  rw [← Array.any_toList, List.any_eq_true]; simp

theorem edgesOk_spec {ops : Array Oper} (h : edgesOk ops = true) : ∀ (i : Nat) o, ops[i]? = some o → ∀ e ∈ o.after, Region.binds .any e = true → e.on < i := by
  intro i o ho e he hb
  unfold edgesOk at h
  simp only [List.all_eq_true, List.mem_range] at h
  have := h i (Array.getElem?_eq_some_iff.1 ho).1
  rw [ho] at this
  have := Array.all_eq_true_iff_forall_mem.1 this e he
  simpa [hb] using this
/-- What pieceOk says. -/
def PieceOk (ops : Array Oper) (s e : Nat) : Prop :=
  ∀ (i j : Nat) o p t, s ≤ i → i < e → s ≤ j → j < e → ops[i]? = some o → ops[j]? = some p → j ≠ i → p.dst = some t → o.dst ≠ some t ∧ (t ∈ o.looksAt ops → j < i ∧ ∃ x ∈ o.after, x.on = j ∧ Region.binds .any x = true)
theorem pieceOk_spec {ops : Array Oper} {s e : Nat} (h : pieceOk ops s e = true) : PieceOk ops s e := by
  intro i j o p t h1 h2 h3 h4 ho hp hne hd
  unfold pieceOk at h
  simp only [List.all_eq_true, List.mem_range'_1] at h
  have := h i ⟨h1, by omega⟩
  rw [ho] at this
  simp only [List.all_eq_true, List.mem_range'_1] at this
  have := this j ⟨h3, by omega⟩
  rw [hp] at this
  simp only [Option.bind_some, hd, Bool.or_eq_true, beq_iff_eq, hne, false_or, Bool.and_eq_true, bne_iff_ne, ne_eq, Bool.not_eq_true', decide_eq_true_eq, List.contains_eq_mem, decide_eq_false_iff_not] at this
  refine ⟨this.1, fun ht => ?_⟩
  rcases this.2 with hn | ⟨h1, h2⟩
  · exact absurd ht hn
  · rw [any_mem] at h2
    obtain ⟨e, he, hh⟩ := h2
    simp only [Bool.and_eq_true, beq_iff_eq] at hh
    exact ⟨h1, e, he, hh.1, hh.2⟩

/-- What stands in a mask is waited for. -/
theorem maskOf_bit {acc : List Nat} {j : Nat} : ∀ {es : List Edge}, (maskOf acc es).testBit j = true → ∃ e ∈ es, Region.binds .any e = true ∧ (e.on = j ∨ (acc.getD e.on 0).testBit j = true)
  | [], h => by simp [maskOf] at h
  | e :: es, h => by
    simp only [maskOf, Nat.testBit_or, Bool.or_eq_true] at h
    rcases h with h | h
    · split at h
      · rename_i hb
        simp only [Nat.testBit_or, Bool.or_eq_true] at h
        refine ⟨e, by simp, hb, h.imp (fun h => ?_) id⟩
        rw [Nat.testBit_two_pow] at h
        simpa using h
      · simp at h
    · obtain ⟨x, hx, h1, h2⟩ := maskOf_bit h
      exact ⟨x, List.mem_cons_of_mem _ hx, h1, h2⟩
theorem masks_spec {ops : Array Oper} {L : Nat → Prop} (hE : ∀ (i : Nat) o, ops[i]? = some o → ∀ e ∈ o.after, Region.binds .any e = true → e.on < i)
    (hL : ∀ (x : Nat) o, ops[x]? = some o → L x → ∀ e ∈ o.after, Region.binds .any e = true → L e.on) : ∀ (os : List Oper) (acc : List Nat), (∀ k, ops[acc.length + k]? = os[k]?) →
    (∀ (i : Nat) o, i < acc.length → ops[i]? = some o → (∀ e ∈ o.after, Region.binds .any e = true → L e.on) → ∀ j, (acc.getD i 0).testBit j = true → L j) →
    ∀ (i : Nat) o, ops[i]? = some o → (∀ e ∈ o.after, Region.binds .any e = true → L e.on) → ∀ j, ((masks os acc).getD i 0).testBit j = true → L j
  | [], acc, hos, hacc => fun i o ho he j hj => by
    simp only [masks] at hj
    by_cases hi : i < acc.length
    · exact hacc i o hi ho he j hj
    · simp [List.getD, List.getElem?_eq_none (Nat.le_of_not_lt hi)] at hj
  | o0 :: os, acc, hos, hacc => by
    have h0 : ops[acc.length]? = some o0 := by have := hos 0; simpa using this
    refine masks_spec hE hL os (acc ++ [maskOf acc o0.after.toList]) (fun k => by have := hos (k + 1); simp only [List.length_append, List.length_singleton]; rw [show acc.length + 1 + k = acc.length + (k + 1) by omega]; simpa using this) ?_
    intro i o hi ho he j hj
    simp only [List.length_append, List.length_singleton] at hi
    by_cases hia : i < acc.length
    · have hj' : (acc.getD i 0).testBit j = true := by simpa only [List.getD, List.getElem?_append_left hia] using hj
      exact hacc i o hia ho he j hj'
    · have hi' : i = acc.length := by omega
      subst hi'
      rw [h0] at ho; cases ho
      have hj' : (maskOf acc o0.after.toList).testBit j = true := by simpa [List.getD] using hj
      obtain ⟨e, hmem, hb, hcase⟩ := maskOf_bit hj'
      have hmem' : e ∈ o0.after := by simpa using hmem
      rcases hcase with rfl | hbit
      · exact he e hmem' hb
      · have hlt := hE _ _ h0 e hmem' hb
        cases hp : ops[e.on]? with
        | none =>
          have : ops.size ≤ e.on := by simpa using hp
          have := (Array.getElem?_eq_some_iff.1 h0).1
          omega
        | some p => exact hacc e.on p hlt hp (hL e.on p hp (he e hmem' hb)) j hbit
theorem cut_sound {ops : Array Oper} {L : Nat → Prop} (hE : ∀ (i : Nat) o, ops[i]? = some o → ∀ e ∈ o.after, Region.binds .any e = true → e.on < i)
    (hL : ∀ (x : Nat) o, ops[x]? = some o → L x → ∀ e ∈ o.after, Region.binds .any e = true → L e.on) {c : Nat} (h : isCut (masks ops.toList []) ops.size c = true) {i : Nat} {o : Oper} (hi : c ≤ i) (ho : ops[i]? = some o)
    (he : ∀ e ∈ o.after, Region.binds .any e = true → L e.on) : ∀ j, j < c → L j := fun j hj => by
  unfold isCut at h
  simp only [List.all_eq_true, List.mem_range'_1, List.mem_range] at h
  have hlt := (Array.getElem?_eq_some_iff.1 ho).1
  exact masks_spec hE hL ops.toList [] (fun k => by simp) (fun i o hi => by simp at hi) i o ho he j (h i ⟨hi, by omega⟩ j hj)

theorem monoOp_frz {o : Oper} {ev : Operand → Option DV} {lc : Nat → Option (List DV)} {le : Nat → Option TypeId} {say : Option Told} {mu : Mu} {d : DV} {e : Eff} {ob : List Ob} {dirty : Bool}
    (h : monoOp T ev lc le mu o say = some (d, e, ob, dirty)) : ∀ n ∈ e.frz, (lc n).isSome = true := by
  have cap : ∀ (ds cs : List DV) (ls : List Nat), captures lc ds = some (cs, ls) → ∀ n ∈ ls, (lc n).isSome = true := by
    intro ds
    induction ds with
    | nil => intro cs ls h n hn; simp only [captures, Option.some.injEq, Prod.mk.injEq] at h; rw [← h.2] at hn; cases hn
    | cons d ds ih =>
      intro cs ls h n hn
      simp only [captures] at h
      split at h
      · rename_i c l es ms hc hes
        simp only [Option.some.injEq, Prod.mk.injEq] at h
        obtain ⟨rfl, rfl⟩ := h
        rcases List.mem_append.1 hn with hn | hn
        · cases d <;> simp only [captureOf, Option.some.injEq, Prod.mk.injEq] at hc
          case loc k off =>
            cases off with
            | succ => simp [captureOf] at hc
            | zero =>
              simp only [Option.map_eq_some_iff, Prod.mk.injEq] at hc
              obtain ⟨ks, hks, _, rfl⟩ := hc
              simp at hn; subst hn; rw [hks]; rfl
          all_goals (obtain ⟨_, rfl⟩ := hc; cases hn)
        · exact ih _ _ hes n hn
      · cases h
  have pl : ∀ (x : Option DV), (x.map fun d => ((d, {}, [], false) : DV × Eff × List Ob × Bool)) = some (d, e, ob, dirty) → ∀ n ∈ e.frz, (lc n).isSome = true := by
    intro x hx n hn
    cases x <;> simp at hx
    obtain ⟨_, rfl, _⟩ := hx
    cases hn
  obtain ⟨dst, op, type, pos, after, guard⟩ := o
  cases op <;> simp only [monoOp] at h <;> first | (cases h; done) | (exact pl _ h) | skip
  case makeFunc fn first captured =>
    cases fn <;> simp only [] at h <;> first | (cases h; done) | skip
    split at h
    · split at h
      · split at h
        · rename_i cs ls hcs
          simp only [Option.some.injEq, Prod.mk.injEq] at h
          obtain ⟨_, rfl, _⟩ := h
          exact cap _ _ _ hcs
        · cases h
      · cases h
    · split at h
      · split at h
        · split at h
          · simp only [Option.some.injEq, Prod.mk.injEq] at h
            obtain ⟨_, rfl, _⟩ := h
            intro n hn; cases hn
          · cases h
        · cases h
      · cases h
  case call c =>
    obtain ⟨callee, args, argTypes⟩ := c
    cases callee <;> (try simp only [] at h) <;> first | (cases h; done) | skip
    case value f =>
      split at h
      · split at h
        · simp only [Option.some.injEq, Prod.mk.injEq] at h
          obtain ⟨_, rfl, _⟩ := h
          intro n hn; cases hn
        · cases h
      · split at h
        · simp only [Option.some.injEq, Prod.mk.injEq] at h
          obtain ⟨_, rfl, _⟩ := h
          intro n hn; cases hn
        · cases h
      · cases h
    case builtin b =>
      cases b <;> (try simp only [] at h) <;> first | (cases h; done) | skip
      all_goals
        (repeat' split at h) <;> first | (cases h; done) | (exact pl _ h) | skip
      all_goals
        simp only [Option.some.injEq, Prod.mk.injEq] at h
        obtain ⟨_, rfl, _⟩ := h
        intro n hn; cases hn
  case makeMap t r =>
    simp only [Option.map_eq_some_iff, Prod.mk.injEq] at h
    obtain ⟨⟨_, _, _⟩, hr, _, rfl, _⟩ := h
    intro n hn
    rw [(mapOp_eff hr).1] at hn; cases hn
  case makeChan t x =>
    simp only [Option.map_eq_some_iff, Prod.mk.injEq] at h
    obtain ⟨⟨_, _, _⟩, hr, _, rfl, _⟩ := h
    intro n hn
    rw [(mapOp_eff hr).1] at hn; cases hn
  case lookup t x i ok =>
    simp only [Option.map_eq_some_iff, Prod.mk.injEq] at h
    obtain ⟨⟨_, _, _⟩, hr, _, rfl, _⟩ := h
    intro n hn
    rw [(mapOp_eff hr).1] at hn; cases hn
  case mapUpdate t x i v =>
    simp only [Option.map_eq_some_iff, Prod.mk.injEq] at h
    obtain ⟨⟨_, _, _⟩, hr, _, rfl, _⟩ := h
    intro n hn
    rw [(mapOp_eff hr).1] at hn; cases hn
  case range t x =>
    simp only [Option.map_eq_some_iff, Prod.mk.injEq] at h
    obtain ⟨⟨_, _, _⟩, hr, _, rfl, _⟩ := h
    intro n hn
    rw [(mapOp_eff hr).1] at hn; cases hn
  case next x b =>
    simp only [Option.map_eq_some_iff, Prod.mk.injEq] at h
    obtain ⟨⟨_, _, _⟩, hr, _, rfl, _⟩ := h
    intro n hn
    rw [(mapOp_eff hr).1] at hn; cases hn
  case pick c x y =>
    split at h
    · simp only [Option.map_eq_some_iff, Prod.mk.injEq] at h
      obtain ⟨_, _, _, rfl, _⟩ := h
      intro n hn; cases hn
    · cases h
  case binOp op t x y t' =>
    split at h
    · exact pl _ h
    split at h
    · simp only [Option.some.injEq, Prod.mk.injEq] at h
      obtain ⟨_, rfl, _⟩ := h
      intro n hn; cases hn
    · exact pl _ h
  case slice t x lo hi mx =>
    split at h
    · rename_i d0 n hsl
      simp only [Option.some.injEq, Prod.mk.injEq] at h
      obtain ⟨_, rfl, _⟩ := h
      intro k hk
      obtain ⟨_, _, _, _, _, cs, _, _, _, _, _, _, _, hlc, _⟩ := sliceA_spec hsl
      rw [List.mem_singleton.1 hk, hlc]; rfl
    simp only [Option.map_eq_some_iff, Prod.mk.injEq] at h
    obtain ⟨⟨_, _⟩, _, _, rfl, _⟩ := h
    intro n hn; cases hn
  all_goals
    (repeat' split at h) <;> first | (cases h; done) | (exact pl _ h) | skip
  all_goals
    first
    | (simp only [Option.some.injEq, Prod.mk.injEq] at h; obtain ⟨_, rfl, _⟩ := h; intro n hn; cases hn; done)
    | (simp only [Option.map_eq_some_iff, Prod.mk.injEq] at h; obtain ⟨_, _, _, rfl, _⟩ := h; intro n hn; cases hn; done)

/-- What does not look at others' cells, nor write them, comes to the same whatever is known of them. -/
theorem monoOp_blind {o : Oper} {ev : Operand → Option DV} {lc : Nat → Option (List DV)} {le : Nat → Option TypeId} {say : Option Told} {mu : Mu} {d : DV} {e : Eff} {ob : List Ob} {dirty : Bool}
    (h : monoOp T ev lc le mu o say = some (d, e, ob, dirty)) (hs : sensOp ev o = false) (hw : e.wr = false) (mu' : Mu) : monoOp T ev lc le mu' o say = some (d, e, ob, dirty) := by
  have hu : e.mu = none := by obtain ⟨h2, _⟩ := Bool.or_eq_false_iff.1 hw; simpa using h2
  obtain ⟨dst, op, type, pos, after, guard⟩ := o
  cases op <;> simp only [monoOp] at h ⊢ <;> first | exact h | skip
  case call c =>
    obtain ⟨callee, args, argTypes⟩ := c
    cases callee <;> (try simp only [] at h ⊢) <;> first | exact h | skip
    case value f => simp [sensOp] at hs
    case builtin b =>
      cases b <;> (try simp only [] at h ⊢) <;> first | exact h | skip
      all_goals
        (repeat' split at h) <;> first
        | (cases h; done)
        | (simp only [Option.some.injEq, Prod.mk.injEq] at h; obtain ⟨_, rfl, _⟩ := h; simp at hu; done)
        | simp_all
  case makeMap t r =>
    simp only [Option.map_eq_some_iff, Prod.mk.injEq] at h ⊢
    obtain ⟨⟨d1, e1, ob1⟩, hr, rfl, rfl, rfl, rfl⟩ := h
    exact ⟨(d1, e1, ob1), makeMap_blind hr hu mu', rfl, rfl, rfl, rfl⟩
  case makeChan t x =>
    simp only [Option.map_eq_some_iff, Prod.mk.injEq] at h ⊢
    obtain ⟨⟨d1, e1, ob1⟩, hr, rfl, rfl, rfl, rfl⟩ := h
    exact (makeChan_blind hr hu).elim
  case next x b => simp [sensOp] at hs
  case lookup t x i ok => simp [sensOp] at hs
  case mapUpdate t x i v => simp [sensOp] at hs
  case convert s t x =>
    simp only [sensOp] at hs
    split at hs
    · cases hs
    · rename_i hne
      split at h
      · exact h
      · exact h
      · rename_i hx; exact absurd hx (hne _ _ _ _)
      · exact h
      · cases h
  case load t x =>
    simp only [sensOp] at hs
    split at hs
    · cases hs
    · rename_i hne
      split at h
      · exact h
      · exact h
      · exact h
      · rename_i h1 h2; exact absurd h2 (hne _ _)
      · cases h
  all_goals
    (repeat' split at h) <;> first
    | (cases h; done)
    | (simp only [Option.some.injEq, Prod.mk.injEq] at h; obtain ⟨_, rfl, _⟩ := h; simp at hu; done)
    | simp_all

/-- Is operation i, in state s, a store to local variable n? -/
def Tgt (ops : Array Oper) (f : Nat → St) (i n : Nat) : Prop := ∃ (o : Oper) (t : TypeId) (a x : Operand) (off : Nat), ops[i]? = some o ∧ o.guard = none ∧ o.op = .store t a x ∧ (f i).ev a = some (.loc n off)

/-- How an operation of a piece turns the state: its own temporary; local variables keep their cells, but for the one that is stored to; a new one bears its name. -/
structure Turns (ops : Array Oper) (f : Nat → St) (hide : List Nat) (wr : Bool) (i : Nat) (o : Oper) (s s' : St) : Prop where
  tm : ∃ x, s'.tm = putTm s.tm o.dst x
  dst : ∀ t, o.dst = some t → t < s.tm.length
  keep : ∀ n fr cs, look s.lo n = some (fr, cs) → ∃ fr' cs', look s'.lo n = some (fr', cs') ∧ (fr = true → fr' = true) ∧ cs'.length = cs.length ∧ (¬ Tgt ops f i n → cs' = cs) ∧ (n ∈ hide → fr' = fr) ∧ elOf s'.el n = elOf s.el n
  fresh : ∀ n x, look s'.lo n = some x → (look s.lo n).isSome = true ∨ o.dst = some n
  mu : wr = false → s'.mu = s.mu
  dirty : s'.dirty = s.dirty
  free : ∀ n ∈ s'.free, n ∈ s.free
  pend : ∀ n g, (n, g) ∈ s'.pend → (n, g) ∈ s.pend ∨ (o.dst = some n ∧ look s.lo n = none ∧ (n, g) ∉ s.pend)

theorem apply_turns {ops : Array Oper} {f : Nat → St} {hide : List Nat} {i : Nat} {s s' : St} {o : Oper} {d : DV} {e : Eff} (h : s.apply o d e false = some s') (hdst : ∀ t, o.dst = some t → t < s.tm.length) (hh : ∀ n ∈ e.frz, n ∉ hide) :
    s'.tm = putTm s.tm o.dst d ∧ Turns ops f hide e.wr i o s s' ∧ s'.mu = e.mu.getD s.mu ∧ s'.free = offUse e.use s.free ∧ (∀ n ∈ e.frz, ∀ fr cs, look s.lo n = some (fr, cs) → look s'.lo n = some (true, cs)) ∧
      (∀ cs, e.new = some cs → ∃ n, o.dst = some n ∧ look s.lo n = none ∧ look s'.lo n = some (false, cs) ∧ elOf s'.el n = some e.el) ∧ (∀ n g, (n, g) ∈ s'.pend → (n, g) ∈ s.pend ∨ (o.dst = some n ∧ e.pend = some g)) := by
  have hfz : ∀ n (fr : Bool), n ∈ hide → (fr || e.frz.contains n) = fr := fun n fr hn => by
    have : e.frz.contains n = false := by
      cases hc : e.frz.contains n
      · rfl
      · exact absurd hn (hh n (by simpa using hc))
    rw [this, Bool.or_false]
  have hmu0 : e.wr = false → e.mu.getD s.mu = s.mu := fun hw => by
    obtain ⟨h1, _⟩ := Bool.or_eq_false_iff.1 hw
    have h3 : e.mu = none := Option.isNone_iff_eq_none.1 (by simpa using h1)
    rw [h3]; rfl
  have hfree : ∀ n ∈ offUse e.use s.free, n ∈ s.free := fun n hn => (mem_offUse hn).1
  unfold St.apply at h
  rw [if_neg (by simp)] at h
  split at h
  · rename_i hnew
    cases h
    refine ⟨rfl, ⟨⟨d, rfl⟩, hdst, fun n fr cs hl => ?_, fun n x hl => ?_, hmu0, rfl, hfree, fun _ _ h => .inl h⟩, rfl, rfl, fun n hn fr cs hl => ?_, (fun cs h => by rw [hnew] at h; cases h), fun _ _ h => .inl h⟩
    · exact ⟨_, cs, by rw [look_freeze, hl]; rfl, fun h => by simp [h], rfl, fun _ => rfl, hfz n fr, rfl⟩
    · rw [look_freeze] at hl
      cases hs : look s.lo n with
      | none => rw [hs] at hl; cases hl
      | some y => exact .inl rfl
    · rw [look_freeze, hl]; simp [hn]
  · rename_i cs hnew
    split at h
    · rename_i n hn
      split at h
      · rename_i hnone
        have hnone : look s.lo n = none := by simpa using hnone
        cases h
        have hpd : ∀ k g, (k, g) ∈ (match e.pend with | some g => [(n, g)] | none => []) ++ s.pend.filter (fun p => p.1 != n) → (k, g) ∈ s.pend ∨ (k = n ∧ e.pend = some g ∧ (k, g) ∉ s.pend) ∨ (k = n ∧ e.pend = some g) := fun k g h => by
          rcases List.mem_append.1 h with h | h
          · cases hpe : e.pend with
            | none => rw [hpe] at h; cases h
            | some g0 => rw [hpe] at h; have := List.mem_singleton.1 h; cases this; exact .inr (.inr ⟨rfl, rfl⟩)
          · exact .inl (List.mem_filter.1 h).1
        refine ⟨rfl, ⟨⟨d, rfl⟩, hdst, fun m fr ds hl => ?_, fun m x hl => ?_, hmu0, rfl, hfree, fun k g hp => ?_⟩, rfl, rfl, fun m hm fr ds hl => ?_, fun ds h => ?_, fun k g hp => ?_⟩
        · have hmn : n ≠ m := by rintro rfl; rw [hnone] at hl; cases hl
          exact ⟨_, ds, by simp only [look, if_neg hmn, look_freeze, hl]; rfl, fun h => by simp [h], rfl, fun _ => rfl, hfz m fr, by simp only [elOf, if_neg hmn]⟩
        · by_cases hmn : n = m
          · subst hmn; exact .inr hn
          · simp only [look, if_neg hmn, look_freeze] at hl
            cases hs : look s.lo m with
            | none => rw [hs] at hl; cases hl
            | some y => exact .inl rfl
        · rcases Classical.em ((k, g) ∈ s.pend) with hin | hin
          · exact .inl hin
          · rcases hpd k g hp with h | ⟨rfl, h, _⟩ | ⟨rfl, h⟩
            · exact .inl h
            · exact .inr ⟨hn, hnone, hin⟩
            · exact .inr ⟨hn, hnone, hin⟩
        · have hmn : n ≠ m := by rintro rfl; rw [hnone] at hl; cases hl
          simp only [look, if_neg hmn, look_freeze, hl]; simp [hm]
        · rw [hnew] at h; cases h
          exact ⟨n, hn, hnone, by simp [look], by simp [elOf]⟩
        · rcases hpd k g hp with h | ⟨rfl, h, _⟩ | ⟨rfl, h⟩
          · exact .inl h
          · exact .inr ⟨hn, h⟩
          · exact .inr ⟨hn, h⟩
      · cases h
    · cases h

/-- A store of all of a local variable. -/
theorem storeFull_spec {s s' : St} {o : Oper} {mine : Option Nat} {ob : List Ob} (h : storeOp T s o = some (s', ob)) (hf : storeFull mine s o = true) :
    ∃ t a x n d ti cs, o.guard = none ∧ o.op = .store t a x ∧ o.dst = none ∧ s.ev a = some (.loc n 0) ∧ mine = some n ∧ s.ev x = some d ∧ T t = some ti ∧ look s.lo n = some (false, cs) ∧ d.firm = true ∧ d.cells.all DV.one = true ∧ d.cells.length = ti.size ∧
      d.cells.length = cs.length ∧ s' = { s with lo := setIn n (fillAt cs 0 d.cells) s.lo } := by
  unfold storeFull at hf
  unfold storeOp at h
  split at hf
  · rename_i t a x hop
    rw [hop] at h
    simp only at h
    split at hf
    · rename_i n off d ha hx
      rw [ha, hx] at h
      simp only [Bool.and_eq_true, beq_iff_eq] at hf
      obtain ⟨⟨⟨hgn, hm⟩, hoff⟩, hlen⟩ := hf
      simp only [Option.isNone_iff_eq_none] at hgn
      subst hoff
      split at h
      · rename_i ti n' off' d' h1 h2 h3
        cases h2; cases h3
        split at h
        · rename_i cs hl
          split at h
          · rename_i hc
            simp only [Bool.and_eq_true, beq_iff_eq, decide_eq_true_eq, Option.isNone_iff_eq_none] at hc
            cases h
            rw [hl] at hlen
            exact ⟨t, a, x, n, d, ti, cs, hgn, hop, hc.2, ha, hm, hx, h1, hl, hc.1.1.1.1, hc.1.1.1.2, hc.1.1.2, by simpa using hlen, rfl⟩
          · cases h
        · cases h
      · rename_i h2 _; cases h2
      · cases h
    · cases hf
  · cases hf

theorem fillAt_get : ∀ (ds cs : List DV) (z : Nat), (fillAt cs 0 ds)[z]? = if z < ds.length ∧ z < cs.length then ds[z]? else cs[z]? := by
  have gen : ∀ (ds cs : List DV) (off z : Nat), (fillAt cs off ds)[z]? = if off ≤ z ∧ z < off + ds.length ∧ z < cs.length then ds[z - off]? else cs[z]? := by
    intro ds
    induction ds with
    | nil => intro cs off z; rw [fillAt, if_neg (by simp; omega)]
    | cons d ds ih =>
      intro cs off z
      rw [fillAt, ih, List.length_set]
      by_cases h1 : off + 1 ≤ z ∧ z < off + 1 + ds.length ∧ z < cs.length
      · rw [if_pos h1, if_pos ⟨by omega, by simp; omega, h1.2.2⟩, show z - off = (z - (off + 1)) + 1 by omega]; simp
      · rw [if_neg h1, List.getElem?_set]
        by_cases hz : off = z
        · subst hz
          by_cases hl : off < cs.length
          · rw [if_pos rfl, if_pos hl, if_pos ⟨Nat.le_refl _, by simp, hl⟩]; simp
          · rw [if_pos rfl, if_neg hl, if_neg (by omega), List.getElem?_eq_none (by omega)]
        · rw [if_neg hz, if_neg (fun h => h1 ⟨by omega, by have := h.2.1; simp at this; omega, h.2.2⟩)]
  intro ds cs z
  rw [gen]; simp
theorem fillAt_length : ∀ (ds cs : List DV) (off : Nat), (fillAt cs off ds).length = cs.length
  | [], cs, off => rfl
  | d :: ds, cs, off => by rw [fillAt, fillAt_length]; simp

variable {ops : Array Oper} {f : Nat → St} {hide : List Nat} {g : Nat → Option Nat}

variable {W R : Nat → Bool}
/-- The facts of the text's order. -/
theorem Canon.turns {s e : Nat} (c : Canon P T ops hide g s e f W R) : ∀ i, s ≤ i → i < e → ∃ o, ops[i]? = some o ∧ Turns ops f hide (W i) i o (f i) (f (i + 1)) := by
  intro i h1 h2
  obtain ⟨sc, out, hs, ho, hob, hl, hw, hr⟩ := c.step i h1 h2
  have hinv := stepI_inv (P := P) hs hob
  obtain ⟨o, hoi, hdst, hcase⟩ := hinv
  refine ⟨o, hoi, ?_⟩
  rw [← ho]
  rcases hcase with ⟨_, h, _⟩ | ⟨_, hst, ob, h, _, hl', hw', _⟩ | ⟨_, _, say, d, e, ob, dirty, hm, _, h, _, hl', hw', _⟩
  · rw [h]
    exact ⟨⟨_, rfl⟩, hdst, fun n fr cs h => ⟨fr, cs, h, id, rfl, fun _ => rfl, fun _ => rfl, rfl⟩, fun n x h => .inl (by simp only at h; rw [h]; rfl), fun _ => rfl, rfl, fun _ h => h, fun _ _ h => .inl h⟩
  · rw [hl] at hl'
    by_cases hadr : storeAdr (f i) o = true
    · obtain ⟨t, ad, x, b, off, ti, dd, hop, had, hx, hti, _, _, _, hd, he, _⟩ := storeAdr_spec h hadr
      rw [hw] at hw'
      rw [hw', hadr, he]
      exact ⟨⟨.any, by rw [hd]; rfl⟩, hdst, fun n fr cs h => ⟨fr, cs, h, id, rfl, fun _ => rfl, fun _ => rfl, rfl⟩, fun n x h => .inl (by simp only at h; rw [h]; rfl), fun h => (by cases h), rfl, fun _ h => h, fun _ _ h => .inl h⟩
    have hadr : storeAdr (f i) o = false := by simpa using hadr
    rw [hadr] at hl'
    obtain ⟨t, a, x, n, dd, ti, cs, hgn, hop, hd, ha, _, _, _, hlk, _, _, _, hlen, he⟩ := storeFull_spec h (by simpa using hl'.symm)
    rw [he]
    have htgt : Tgt ops f i n := ⟨o, t, a, x, 0, hoi, hgn, hop, ha⟩
    refine ⟨⟨.any, by rw [hd]; rfl⟩, hdst, fun k fr ds hk => ?_, fun k x hk => ?_, fun _ => rfl, rfl, fun _ h => h, fun _ _ h => .inl h⟩
    · by_cases hkn : k = n
      · subst hkn
        rw [hlk] at hk; cases hk
        exact ⟨false, _, by rw [look_set, if_pos rfl, hlk]; rfl, id, by rw [fillAt_length], fun h => absurd htgt h, fun _ => rfl, rfl⟩
      · exact ⟨fr, ds, by rw [look_set, if_neg hkn]; exact hk, id, rfl, fun _ => rfl, fun _ => rfl, rfl⟩
    · left
      simp only at hk
      rw [look_set] at hk
      split at hk
      · rename_i hkn; subst hkn; rw [hlk]; rfl
      · rw [hk]; rfl
  · rw [hl] at hl'
    subst hl'
    rw [← hw, hw']
    refine (apply_turns h hdst (fun n hn hh => ?_)).2.1
    have := monoOp_frz hm n hn
    unfold lcH at this
    rw [if_pos (by simpa using hh)] at this
    cases this

/-- Between two places of the text's order. -/
theorem Canon.between {s e : Nat} (c : Canon P T ops hide g s e f W R) : ∀ d i, s ≤ i → i + d ≤ e →
    (∀ n fr cs, look (f i).lo n = some (fr, cs) → ∃ fr' cs', look (f (i + d)).lo n = some (fr', cs') ∧ (fr = true → fr' = true) ∧ cs'.length = cs.length ∧ ((∀ q, i ≤ q → q < i + d → ¬ Tgt ops f q n) → cs' = cs) ∧ (n ∈ hide → fr' = fr) ∧ elOf (f (i + d)).el n = elOf (f i).el n) ∧
    (∀ n x, look (f (i + d)).lo n = some x → (look (f i).lo n).isSome = true ∨ ∃ j o, i ≤ j ∧ j < i + d ∧ ops[j]? = some o ∧ o.dst = some n) ∧
    (f (i + d)).tm.length = (f i).tm.length ∧
    (∀ t : Nat, (∀ j o, i ≤ j → j < i + d → ops[j]? = some o → o.dst ≠ some t) → (f (i + d)).tm[t]? = (f i).tm[t]?) ∧ ((∀ q, i ≤ q → q < i + d → W q = false) → (f (i + d)).mu = (f i).mu ∧ True) ∧ (f (i + d)).dirty = (f i).dirty ∧ (∀ n ∈ (f (i + d)).free, n ∈ (f i).free) ∧
    (∀ n g, (n, g) ∈ (f (i + d)).pend → (n, g) ∈ (f i).pend ∨ ∃ j o, i ≤ j ∧ j < i + d ∧ ops[j]? = some o ∧ o.dst = some n ∧ look (f j).lo n = none ∧ (n, g) ∈ (f (j + 1)).pend ∧ (n, g) ∉ (f j).pend)
  | 0, i, _, _ => ⟨fun n fr cs h => ⟨fr, cs, h, id, rfl, fun _ => rfl, fun _ => rfl, rfl⟩, fun n x h => .inl (by rw [Nat.add_zero] at h; rw [h]; rfl), rfl, fun _ _ => rfl, fun _ => ⟨rfl, trivial⟩, rfl, fun _ h => h, fun _ _ h => .inl h⟩
  | d + 1, i, hs, hi => by
    obtain ⟨a1, a2, a3, a4, a5, a6, a7, a8⟩ := Canon.between c d i hs (by omega)
    obtain ⟨o, ho, ht⟩ := c.turns (i + d) (by omega) (by omega)
    obtain ⟨x, hx⟩ := ht.tm
    have e : i + d + 1 = i + (d + 1) := by omega
    rw [e] at ht hx
    refine ⟨fun n fr cs h => ?_, fun n x h => ?_, ?_, fun t h => ?_, fun hq => ?_, by rw [ht.dirty, a6], fun n hn => a7 n (ht.free n hn), fun n g hp => ?_⟩
    · obtain ⟨fr1, cs1, h1, h2, h3, h4, h5, h6⟩ := a1 n fr cs h
      obtain ⟨fr2, cs2, k1, k2, k3, k4, k5, k6⟩ := ht.keep n fr1 cs1 h1
      exact ⟨fr2, cs2, k1, fun h => k2 (h2 h), by rw [k3, h3], fun hn => by rw [k4 (hn (i + d) (by omega) (by omega)), h4 (fun q q1 q2 => hn q q1 (by omega))], fun hn => by rw [k5 hn, h5 hn], by rw [k6, h6]⟩
    · rcases ht.fresh n x h with h | h
      · obtain ⟨y, hy⟩ := Option.isSome_iff_exists.1 h
        rcases a2 n y hy with h | ⟨j, p, h1, h2, h3⟩
        · exact .inl h
        · exact .inr ⟨j, p, h1, by omega, h3⟩
      · exact .inr ⟨i + d, o, by omega, by omega, ho, h⟩
    · rw [hx, ← a3]; cases o.dst <;> simp [putTm]
    · rw [hx, ← a4 t fun j p h1 h2 => h j p h1 (by omega)]
      have := h (i + d) o (by omega) (by omega) ho
      cases hdst : o.dst with
      | none => rfl
      | some u =>
        rw [hdst] at this
        simp only [putTm]
        rw [List.getElem?_set_ne (by simpa using this)]
    · obtain ⟨b1, b2⟩ := a5 fun q h1 h2 => hq q h1 (by omega)
      have hw := hq (i + d) (by omega) (by omega)
      exact ⟨by rw [ht.mu hw, b1], trivial⟩
    · rcases Classical.em ((n, g) ∈ (f (i + d)).pend) with hin | hin
      · rcases a8 n g hin with h | ⟨j, p, h1, h2, h3⟩
        · exact .inl h
        · exact .inr ⟨j, p, h1, by omega, h3⟩
      · rcases ht.pend n g hp with h | ⟨h1, h2, h3⟩
        · exact absurd h hin
        · exact .inr ⟨i + d, o, by omega, by omega, ho, h1, h2, by rw [e]; exact hp, h3⟩
end
end Go.Proofs.YtpckjfncecoibaaGreat.Fun
