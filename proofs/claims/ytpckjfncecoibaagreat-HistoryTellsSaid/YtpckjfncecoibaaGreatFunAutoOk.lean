/- The evaluator by itself is right: there is a script by which the evaluator comes to the same. -/
import Derived.Test.YtpckjfncecoibaaGreatFunAuto
namespace Go.Proofs.YtpckjfncecoibaaGreat.Fun
open Go
set_option linter.unusedSimpArgs false
set_option linter.unusedVariables false
section
variable {P : Program} {T : TypeId → Option TI}
theorem decideA_spec {b : Bool} {sc r : Sc} {y : Bool} {ob : List Ob} (h : decideA b sc = (y, ob, r)) (hob : ∀ x ∈ ob, x.ok P) : b = y := by
  unfold decideA at h
  split at h
  · cases h; exact hob (.eq b y) (by simp)
  · cases h; rfl
  · cases h; rfl
theorem guardA_sound {ops : Array Oper} {tm : List DV} {o : Oper} {sc r : Sc} {b : Bool} {ob : List Ob} (h : guardA ops tm o sc = some (b, ob, r)) (hob : ∀ x ∈ ob, x.ok P) :
    ∃ pre obs, (∀ x ∈ obs, x.ok P) ∧ ∀ k, guardOf ops tm o (pre ++ k) = some (b, k, obs) := by
  unfold guardA at h
  unfold guardOf
  split at h
  · rename_i hg
    cases h
    exact ⟨[], [], by simp, fun k => by simp only [hg, List.nil_append]⟩
  · rename_i j want hg
    simp only [hg]
    split at h
    · cases h
    · rename_i t ht
      split at h
      · rename_i y0 htm
        split at h
        rename_i y ob' r' hd
        cases h
        have := decideA_spec hd hob
        subst this
        exact ⟨[.way y0], [.eq y0 y0], fun x hx => by rw [List.mem_singleton.1 hx]; exact rfl, fun k => by simp only [ht, htm, List.cons_append, List.nil_append]⟩
      · rename_i htm
        cases h
        exact ⟨[], [], by simp, fun k => by simp only [ht, htm, List.nil_append]⟩
      · cases h
theorem storeOp_free (T : TypeId → Option TI) (s : St) (F : List Nat) (o : Oper) : storeOp T { s with free := F } o = (storeOp T s o).map fun x => ({ x.1 with free := F }, x.2) := by
  have hev : ({ s with free := F } : St).ev = s.ev := rfl
  unfold storeOp
  split
  · rw [hev]
    split
    · simp only
      split
      · split
        · rfl
        · rfl
      · rfl
    · split
      · rfl
      · rfl
    · rfl
  · rfl
theorem apply_free (s : St) (F : List Nat) (o : Oper) (d : DV) (e : Eff) (dirty : Bool) : ({ s with free := F } : St).apply o d e dirty = (s.apply o d e dirty).map fun s' => { s' with free := offUse e.use F } := by
  unfold St.apply
  simp only
  split
  · split <;> rfl
  · split
    · rfl
    · split
      · split <;> rfl
      · rfl
theorem rowsMu_app (h : List (List DV)) (cs : List DV) : rowsMu (h ++ [cs]) = updMu (rowsMu h) h.length 0 cs := by
  funext b o
  rw [updMu_get]
  unfold rowsMu
  by_cases hb : b = h.length
  · subst hb
    simp only [List.getElem?_append_right (Nat.le_refl _), Nat.sub_self, List.getElem?_cons_zero, Option.bind_some, true_and, Nat.zero_le, Nat.zero_add, Nat.sub_zero, List.getElem?_eq_none (Nat.le_refl _), Option.bind_none]
    split
    · rfl
    · rename_i h; exact List.getElem?_eq_none (by omega)
  · rw [if_neg (fun x => hb x.1)]
    rcases Nat.lt_or_ge b h.length with hl | hl
    · rw [List.getElem?_append_left hl]
    · rw [List.getElem?_eq_none (by simp; omega), List.getElem?_eq_none hl]
theorem rowsMu_hole (h : List (List DV)) : rowsMu (h ++ [[]]) = rowsMu h := by
  rw [rowsMu_app]; rfl
theorem rowsMu_none (h : List (List DV)) (o : Nat) : rowsMu h h.length o = none := by simp [rowsMu]
theorem fillAt_getAt : ∀ (ds cs : List DV) (off z : Nat), (fillAt cs off ds)[z]? = if off ≤ z ∧ z < off + ds.length ∧ z < cs.length then ds[z - off]? else cs[z]?
  | [], cs, off, z => by simp only [fillAt, List.length_nil, Nat.add_zero]; rw [if_neg (by omega)]
  | d :: ds, cs, off, z => by
    simp only [fillAt]
    rw [fillAt_getAt ds _ (off + 1) z]
    simp only [List.length_set, List.length_cons]
    by_cases h : z = off
    · subst h
      rw [if_neg (by omega)]
      by_cases h2 : z < cs.length
      · rw [if_pos (by omega), List.getElem?_set_self h2]; simp
      · rw [if_neg (by omega), List.getElem?_eq_none (by simpa using h2), List.getElem?_eq_none (by omega)]
    · rw [List.getElem?_set_ne (Ne.symm h)]
      by_cases h2 : off ≤ z ∧ z < off + (ds.length + 1) ∧ z < cs.length
      · rw [if_pos h2, if_pos (by omega), show z - off = (z - (off + 1)) + 1 by omega, List.getElem?_cons_succ]
      · rw [if_neg h2, if_neg (by omega)]
theorem rowsMu_store {h : List (List DV)} {b off : Nat} {row cs : List DV} (hb : h[b]? = some row) (hk : cs = [] ∨ off + cs.length ≤ row.length) : rowsMu (h.set b (fillAt row off cs)) = updMu (rowsMu h) b off cs := by
  funext c o
  rw [updMu_get]
  unfold rowsMu
  have hlt := (List.getElem?_eq_some_iff.1 hb).1
  by_cases hc : c = b
  · subst hc
    rw [List.getElem?_set_self hlt, Option.bind_some, fillAt_getAt, hb, Option.bind_some]
    by_cases ho : off ≤ o ∧ o < off + cs.length
    · rcases hk with rfl | hk
      · simp at ho; omega
      · rw [if_pos (by omega), if_pos ⟨rfl, ho.1, ho.2⟩]
    · rw [if_neg (by omega), if_neg (by rintro ⟨_, h⟩; exact ho h)]
  · rw [List.getElem?_set_ne (Ne.symm hc), if_neg (fun x => hc x.1)]
theorem rowsMu_set {h : List (List DV)} {b : Nat} (hb : h[b]? = some []) (cs : List DV) : rowsMu (h.set b cs) = updMu (rowsMu h) b 0 cs := by
  funext c o
  rw [updMu_get]
  unfold rowsMu
  have hlt := (List.getElem?_eq_some_iff.1 hb).1
  by_cases hc : c = b
  · subst hc
    rw [List.getElem?_set_self hlt, Option.bind_some, hb, Option.bind_some]
    split
    · rename_i h; simp
    · rename_i h; rw [List.getElem?_eq_none (by omega)]; rfl
  · rw [List.getElem?_set_ne (Ne.symm hc), if_neg (fun x => hc x.1)]
theorem eqsOk_ok {obs : List Ob} (h : eqsOk obs = true) {a b : Bool} (hm : Ob.eq a b ∈ obs) : a = b := by
  have := List.all_eq_true.1 h _ hm
  simpa using this
def EqsOk (obs : List Ob) : Prop := ∀ a b, Ob.eq a b ∈ obs → a = b
theorem EqsOk.at {obs : List Ob} (h : EqsOk obs) {a b : Bool} (hm : Ob.eq a b ∈ obs) : a = b := h a b hm
/-- What is asked of the calls' oracle. -/
def OrcOk (P : Program) (orc : Orc) : Prop := ∀ f args mem sc d mem' dirty wrote obs sc', orc f args mem sc = some (d, mem', dirty, wrote, obs, sc') → (∀ x ∈ obs, x.ok P) →
  CallOk P f args mem.mu d mem'.mu dirty (names mem mem') ∧ mem.size ≤ mem'.size ∧ (wrote = false → mem' = mem)
/-- Where nothing is told: no names, no others' cells, duties that are two Booleans. -/
theorem monoOp_calm {o : Oper} {ev : Operand → Option DV} {lc : Nat → Option (List DV)} {le : Nat → Option TypeId} {mu : Mu} {d : DV} {e : Eff} {ob : List Ob} {dirty : Bool}
    (h : monoOp T ev lc le mu o none = some (d, e, ob, dirty)) : e.mu = none ∧ e.use = [] ∧ ∀ x ∈ ob, ∃ a b, x = .eq a b := by
  have pl : ∀ (x : Option DV), (x.map fun d => ((d, {}, [], false) : DV × Eff × List Ob × Bool)) = some (d, e, ob, dirty) → e.mu = none ∧ e.use = [] ∧ ∀ x ∈ ob, ∃ a b, x = .eq a b := by
    intro x hx
    cases x <;> simp at hx
    obtain ⟨_, rfl, rfl, _⟩ := hx
    exact ⟨rfl, rfl, by simp⟩
  obtain ⟨dst, op, type, pos, after, guard⟩ := o
  cases op <;> simp only [monoOp] at h <;> first | (cases h; done) | (exact pl _ h) | skip
  case binOp op t x y t' =>
    split at h
    · exact pl _ h
    split at h
    · simp only [Option.some.injEq, Prod.mk.injEq] at h
      obtain ⟨_, rfl, rfl, _⟩ := h
      exact ⟨rfl, rfl, fun x hx => ⟨_, _, List.mem_singleton.1 hx⟩⟩
    · exact pl _ h
  case slice t x lo hi mx =>
    split at h
    · simp only [Option.some.injEq, Prod.mk.injEq] at h
      obtain ⟨_, rfl, rfl, _⟩ := h
      exact ⟨rfl, rfl, by simp⟩
    simp only [Option.map_eq_some_iff, Prod.mk.injEq] at h
    obtain ⟨⟨_, _⟩, _, _, rfl, rfl, _⟩ := h
    exact ⟨rfl, rfl, fun x hx => ⟨_, _, List.mem_singleton.1 hx⟩⟩
  case makeMap t r =>
    simp only [Option.map_eq_some_iff, Prod.mk.injEq] at h
    obtain ⟨⟨_, _, _⟩, hr, _, rfl, rfl, _⟩ := h
    obtain ⟨rfl, rfl⟩ := mapOp_none hr
    exact ⟨rfl, rfl, by simp⟩
  case makeChan t x =>
    simp only [Option.map_eq_some_iff, Prod.mk.injEq] at h
    obtain ⟨⟨_, _, _⟩, hr, _, rfl, rfl, _⟩ := h
    obtain ⟨rfl, rfl⟩ := mapOp_none hr
    exact ⟨rfl, rfl, by simp⟩
  case lookup t x i ok =>
    simp only [Option.map_eq_some_iff, Prod.mk.injEq] at h
    obtain ⟨⟨_, _, _⟩, hr, _, rfl, rfl, _⟩ := h
    obtain ⟨rfl, rfl⟩ := mapOp_none hr
    exact ⟨rfl, rfl, by simp⟩
  case mapUpdate t x i v =>
    simp only [Option.map_eq_some_iff, Prod.mk.injEq] at h
    obtain ⟨⟨_, _, _⟩, hr, _, rfl, rfl, _⟩ := h
    obtain ⟨rfl, rfl⟩ := mapOp_none hr
    exact ⟨rfl, rfl, by simp⟩
  case range t x =>
    simp only [Option.map_eq_some_iff, Prod.mk.injEq] at h
    obtain ⟨⟨_, _, _⟩, hr, _, rfl, rfl, _⟩ := h
    obtain ⟨rfl, rfl⟩ := mapOp_none hr
    exact ⟨rfl, rfl, by simp⟩
  case next x b =>
    simp only [Option.map_eq_some_iff, Prod.mk.injEq] at h
    obtain ⟨⟨_, _, _⟩, hr, _, rfl, rfl, _⟩ := h
    obtain ⟨rfl, rfl⟩ := mapOp_none hr
    exact ⟨rfl, rfl, by simp⟩
  case makeFunc fn first captured =>
    cases fn <;> simp only [] at h <;> first | (cases h; done) | skip
    (repeat' split at h) <;> first
      | (cases h; done)
      | (simp only [Option.some.injEq, Prod.mk.injEq] at h; obtain ⟨_, rfl, rfl, _⟩ := h; exact ⟨rfl, rfl, by simp⟩)
  case call c =>
    obtain ⟨callee, args, argTypes⟩ := c
    cases callee <;> (try simp only [] at h) <;> first | (cases h; done) | skip
    case value f => (repeat' split at h) <;> first | (cases h; done) | simp_all
    case builtin b =>
      cases b <;> (try simp only [] at h) <;> first | (cases h; done) | skip
      all_goals
        (repeat' split at h) <;> first
        | (cases h; done)
        | (exact pl _ h)
        | simp_all
  all_goals
    (repeat' split at h) <;> first
    | (cases h; done)
    | (exact pl _ h)
    | (simp only [Option.some.injEq, Prod.mk.injEq] at h; obtain ⟨_, rfl, rfl, _⟩ := h; exact ⟨rfl, rfl, by first | (simp; done) | (intro x hx; exact ⟨_, _, List.mem_singleton.1 hx⟩)⟩)
    | (simp only [Option.map_eq_some_iff, Prod.mk.injEq] at h; obtain ⟨_, _, _, rfl, rfl, _⟩ := h; exact ⟨rfl, rfl, fun x hx => ⟨_, _, List.mem_singleton.1 hx⟩⟩)
    | simp_all
theorem mapM_length {α β : Type} {f : α → Option β} : ∀ {xs : List α} {ys : List β}, xs.mapM f = some ys → ys.length = xs.length
  | [], ys, h => by simp at h; subst h; rfl
  | x :: xs, ys, h => by
    simp only [List.mapM_cons, Option.bind_eq_bind, Option.bind_eq_some_iff, Option.pure_def, Option.some.injEq] at h
    obtain ⟨y, _, zs, hz, rfl⟩ := h
    simp [mapM_length hz]
theorem rowsMu_make (h : List (List DV)) (zs : List DV) (sz l : Nat) (hz : zs.length = sz) : (fun b o => if b = h.length then (if o < l * sz then zs[o % sz]? else none) else rowsMu h b o) = rowsMu (h ++ [freshRow zs l]) := by
  rw [rowsMu_app]
  funext b o
  rw [updMu_get, freshRow_length, hz]
  by_cases hb : b = h.length
  · subst hb
    rw [if_pos rfl]
    by_cases ho : o < l * sz
    · rw [if_pos ho, if_pos ⟨rfl, Nat.zero_le _, by omega⟩, Nat.sub_zero, freshRow_get, hz, if_pos ho]
    · rw [if_neg ho, if_neg (by omega), rowsMu_none]
  · rw [if_neg hb, if_neg (fun x => hb x.1)]
theorem rowsMu_app0 (h : List (List DV)) (cs : List DV) : appMu (rowsMu h) h.length 0 h.length cs = rowsMu (h ++ [cs]) := by
  rw [rowsMu_app]
  funext b o
  rw [updMu_get]
  unfold appMu
  by_cases hb : b = h.length
  · subst hb
    rw [if_pos rfl, if_neg (by omega), Nat.sub_zero]
    split
    · rfl
    · rename_i hc; rw [List.getElem?_eq_none (by omega), rowsMu_none]
  · rw [if_neg hb, if_neg hb, if_neg (fun x => hb x.1)]
theorem rowsMu_appl {h : List (List DV)} {b k : Nat} {row : List DV} (cs : List DV) (hb : h[b]? = some row) (hk : ∀ o, o < k → (rowsMu h b o).isSome = true) :
    appMu (rowsMu h) b k h.length cs = rowsMu (h.set b [] ++ [row.take k ++ cs]) := by
  have hlt := (List.getElem?_eq_some_iff.1 hb).1
  have hkl : k ≤ row.length := by
    rcases Nat.lt_or_ge row.length k with hc | hc
    · have := hk row.length hc
      simp [rowsMu, hb] at this
    · exact hc
  funext c o
  unfold appMu
  by_cases hc : c = h.length
  · subst hc
    rw [if_pos rfl]
    simp only [rowsMu]
    rw [List.getElem?_append_right (by simp), List.length_set, Nat.sub_self, List.getElem?_cons_zero, Option.bind_some, List.getElem?_append, List.length_take, Nat.min_eq_left hkl, hb, Option.bind_some]
    split
    · rename_i ho; rw [List.getElem?_take, if_pos ho]
    · rfl
  · rw [if_neg hc]
    simp only [rowsMu]
    by_cases hcb : c = b
    · subst hcb
      rw [if_pos rfl, List.getElem?_append_left (by simpa using hlt), List.getElem?_set_self hlt]; rfl
    · rw [if_neg hcb]
      rcases Nat.lt_or_ge c h.length with hl | hl
      · rw [List.getElem?_append_left (by simpa using hl), List.getElem?_set_ne (Ne.symm hcb)]
      · rw [List.getElem?_eq_none hl, List.getElem?_eq_none (by simp; omega)]
/-- What an operation is told can be told by a script; others' cells are what is said. -/
theorem rows_obs {h : List (List DV)} {b : Nat} : ∀ (ds : List DV) (z : Nat), (∀ j dd, ds[j]? = some dd → rowsMu h b (z + j) = some dd) → ∀ x ∈ cellObs (rowsMu h) b z ds, x.ok P
  | [], z, _, x, hx => by simp [cellObs] at hx
  | dd :: ds, z, hz, x, hx => by
    simp only [cellObs, List.mem_cons] at hx
    rcases hx with rfl | hx
    · exact hz 0 dd rfl
    · exact rows_obs ds (z + 1) (fun j d' hj => by rw [Nat.add_assoc, Nat.add_comm 1 j]; exact hz (j + 1) d' (by simpa using hj)) x hx
theorem say_sound {orc : Orc} (horc : OrcOk P orc) {named : Tmp → Bool} {pd : Bool} {o : Oper} {ev : Operand → Option DV} {lc : Nat → Option (List DV)} {le : Nat → Option TypeId} {mem : Mem} {r : Sc} {y : SayA} {d : DV} {e : Eff} {ob : List Ob} {dirty : Bool}
    (hy : sayA T orc named pd ev mem o r = some y) (hm : monoOp T ev lc le mem.mu o y.told = some (d, e, ob, dirty)) (hq : isPick o.op = true ∨ EqsOk ob) (hob : ∀ x ∈ y.obs, x.ok P) :
    ∃ pre, (∀ k, takes ev o (pre ++ k) = (y.told, k)) ∧ (∀ x ∈ ob, x.ok P) ∧ e.mu.getD mem.mu = y.mem.mu ∧ mem.size ≤ y.mem.size ∧ (∀ n ∈ e.use, mem.size ≤ n ∧ n < y.mem.size) ∧ ((e.mu.isSome || !e.use.isEmpty) = false → y.mem = mem) ∧ (e.mu = none → e.use = [] ∨ e.pend.isSome = true) := by
  have calm : y.told = none → isPick o.op = false → y.mem = mem → (∀ x ∈ ob, x.ok P) ∧ e.mu.getD mem.mu = y.mem.mu ∧ mem.size ≤ y.mem.size ∧ (∀ n ∈ e.use, mem.size ≤ n ∧ n < y.mem.size) ∧ ((e.mu.isSome || !e.use.isEmpty) = false → y.mem = mem) ∧ (e.mu = none → e.use = [] ∨ e.pend.isSome = true) := by
    intro ht hp hme
    rw [ht] at hm
    obtain ⟨h1, h2, h3⟩ := monoOp_calm hm
    refine ⟨fun x hx => ?_, by rw [h1, hme]; rfl, by rw [hme]; exact Nat.le_refl _, by rw [h2]; simp, fun _ => hme, fun _ => .inl h2⟩
    obtain ⟨a, b, rfl⟩ := h3 x hx
    exact (hq.resolve_left (by rw [hp]; simp)).at hx
  unfold sayA at hy
  split at hy
  · -- a call
    rename_i f args ts hop
    split at hy
    · rename_i g caps ds hf hds
      split at hy
      · rename_i d' mem' dirty' obs sc' horc'
        cases hy
        obtain ⟨hc, hsz, _⟩ := horc _ _ _ _ _ _ _ _ _ _ horc' hob
        simp only [monoOp, hop, hf, hds] at hm
        split at hm
        · simp only [Option.some.injEq, Prod.mk.injEq] at hm
          obtain ⟨rfl, rfl, rfl, rfl⟩ := hm
          refine ⟨[.resM d' mem'.mu dirty' (names mem mem')], fun k => by simp only [takes, hop, List.cons_append, List.nil_append], fun x hx => by rw [List.mem_singleton.1 hx]; exact hc, rfl, hsz, fun n hn => ?_, fun h => by simp at h, by simp⟩
          have := List.mem_range'_1.1 hn
          exact ⟨this.1, by dsimp only; omega⟩
        · cases hm
      · rename_i d' mem' dirty' obs sc' horc'
        cases hy
        obtain ⟨hc, hsz, heq⟩ := horc _ _ _ _ _ _ _ _ _ _ horc' hob
        have heq := heq rfl
        subst heq
        have hnm : names mem' mem' = [] := by simp [names]
        rw [hnm] at hc
        simp only [monoOp, hop, hf, hds] at hm
        split at hm
        · simp only [Option.some.injEq, Prod.mk.injEq] at hm
          obtain ⟨rfl, rfl, rfl, rfl⟩ := hm
          exact ⟨[.res d' dirty'], fun k => by simp only [takes, hop, List.cons_append, List.nil_append], fun x hx => by rw [List.mem_singleton.1 hx]; exact hc, rfl, Nat.le_refl _, fun n hn => (by cases hn), fun _ => rfl, by simp⟩
        · cases hm
      · cases hy
    · rename_i g caps ds hf hds
      split at hy
      · rename_i d' mem' dirty' obs sc' horc'
        cases hy
        obtain ⟨hc, hsz, _⟩ := horc _ _ _ _ _ _ _ _ _ _ horc' hob
        simp only [monoOp, hop, hf, hds] at hm
        split at hm
        · simp only [Option.some.injEq, Prod.mk.injEq] at hm
          obtain ⟨rfl, rfl, rfl, rfl⟩ := hm
          refine ⟨[.resM d' mem'.mu dirty' (names mem mem')], fun k => by simp only [takes, hop, List.cons_append, List.nil_append], fun x hx => by rw [List.mem_singleton.1 hx]; exact hc, rfl, hsz, fun n hn => ?_, fun h => by simp at h, by simp⟩
          have := List.mem_range'_1.1 hn
          exact ⟨this.1, by dsimp only; omega⟩
        · cases hm
      · rename_i d' mem' dirty' obs sc' horc'
        cases hy
        obtain ⟨hc, hsz, heq⟩ := horc _ _ _ _ _ _ _ _ _ _ horc' hob
        have heq := heq rfl
        subst heq
        have hnm : names mem' mem' = [] := by simp [names]
        rw [hnm] at hc
        simp only [monoOp, hop, hf, hds] at hm
        split at hm
        · simp only [Option.some.injEq, Prod.mk.injEq] at hm
          obtain ⟨rfl, rfl, rfl, rfl⟩ := hm
          exact ⟨[.res d' dirty'], fun k => by simp only [takes, hop, List.cons_append, List.nil_append], fun x hx => by rw [List.mem_singleton.1 hx]; exact hc, rfl, Nat.le_refl _, fun n hn => (by cases hn), fun _ => rfl, by simp⟩
        · cases hm
      · cases hy
    · cases hy
  · -- a load
    rename_i t a hop
    split at hy
    · rename_i ti b off hti ha
      split at hy
      · rename_i h
        split at hy
        · rename_i cs hcs
          split at hy
          · rename_i hc
            cases hy
            obtain ⟨x0, hx0⟩ : ∃ x0, x0 = (if ti.agg then DV.agg ((cs.drop off).take ti.size) else cs.getD off .any) := ⟨_, rfl⟩
            rw [← hx0] at hm ⊢
            simp only [monoOp, hop, hti, ha] at hm
            split at hm
            · rename_i hcond
              simp only [Option.some.injEq, Prod.mk.injEq] at hm
              obtain ⟨rfl, rfl, rfl, rfl⟩ := hm
              simp only [Bool.and_eq_true, beq_iff_eq] at hcond
              refine ⟨[.val x0], fun k => by simp only [takes, hop, ha, List.cons_append, List.nil_append], ?_, rfl, Nat.le_refl _, fun n hn => (by cases hn), fun _ => rfl, by simp⟩
              have gen : ∀ (ds : List DV) (z : Nat), (∀ j dd, ds[j]? = some dd → rowsMu h b (z + j) = some dd) → ∀ x ∈ cellObs (rowsMu h) b z ds, x.ok P := by
                intro ds
                induction ds with
                | nil => intro z _ x hx; simp [cellObs] at hx
                | cons dd ds ih =>
                  intro z hz x hx
                  simp only [cellObs, List.mem_cons] at hx
                  rcases hx with rfl | hx
                  · exact hz 0 dd rfl
                  · exact ih (z + 1) (fun j d' hj => by rw [Nat.add_assoc, Nat.add_comm 1 j]; exact hz (j + 1) d' (by simpa using hj)) x hx
              refine gen _ off fun j dd hj => ?_
              simp only [rowsMu, hcs, Option.bind_some]
              cases hA : ti.agg with
              | true =>
                rw [hA] at hx0
                simp only [if_true] at hx0
                rw [hx0] at hj
                simp only [DV.cells, List.getElem?_take, List.getElem?_drop] at hj
                split at hj
                · exact hj
                · cases hj
              | false =>
                rw [hA] at hx0 hcond
                simp only [Bool.false_eq_true, if_false] at hx0
                have hsz : ti.size = 1 := hc.2.resolve_left (by rw [hA]; simp)
                have hlt : off < cs.length := by have := hc.1; omega
                have hg : x0 = cs[off] := by rw [hx0, List.getD_eq_getElem?_getD, List.getElem?_eq_getElem hlt]; rfl
                have hcell : x0.cells = [x0] := by
                  cases hx : x0 <;> first | rfl | (rw [hx] at hcond; simp [DV.isAgg] at hcond)
                rw [hcell] at hj
                cases j with
                | zero => simp at hj; subst hj; rw [hg]; simp [List.getElem?_eq_getElem hlt]
                | succ j => simp at hj
            · cases hm
          · cases hy
        · cases hy
      · split at hy
        · rename_i x0 r'
          cases hy
          simp only [monoOp, hop, hti, ha] at hm
          split at hm
          · simp only [Option.some.injEq, Prod.mk.injEq] at hm
            obtain ⟨rfl, rfl, rfl, rfl⟩ := hm
            exact ⟨[.val x0], fun k => by simp only [takes, hop, ha, List.cons_append, List.nil_append], hob, rfl, Nat.le_refl _, fun n hn => (by cases hn), fun _ => rfl, by simp⟩
          · cases hm
        · cases hy
    · rename_i hno
      cases hy
      obtain ⟨c1, c2⟩ := calm rfl (by rw [hop]; rfl) rfl
      simp only [monoOp, hop] at hm
      by_cases hptr : ∃ cs, ev a = some (.ptr cs)
      · obtain ⟨cs, hcs⟩ := hptr
        exact ⟨[.pass], fun k => by simp only [takes, hop, hcs, List.cons_append, List.nil_append], c1, c2⟩
      · refine ⟨[], fun k => ?_, c1, c2⟩
        have hadr : ∀ b off, ev a ≠ some (.adr b off) := fun b off h => by
          rw [h] at hm
          cases hT : T t with
          | none => rw [hT] at hm; cases hm
          | some ti => exact hno ti b off hT h
        have hp2 : ∀ cs, ev a ≠ some (.ptr cs) := fun cs h => hptr ⟨cs, h⟩
        rw [List.nil_append]
        rcases hev : ev a with _ | dv
        · cases k with
          | nil => simp only [takes, hop]
          | cons s k => cases s <;> simp only [takes, hop, hev]
        · cases dv <;> first
          | exact absurd hev (hp2 _)
          | exact absurd hev (hadr _ _)
          | (cases k with
             | nil => simp only [takes, hop]
             | cons s k => cases s <;> simp only [takes, hop, hev])
  · -- a conversion
    rename_i ts tt a hop
    split at hy
    · rename_i b off n sz ha
      have key : ∀ (dd : DV), y.told = some { d := dd } → y.mem = mem → (∀ k, takes ev o (Say.val dd :: k) = (some { d := dd }, k)) → (∀ x ∈ cellObs mem.mu b off dd.cells, x.ok P) →
          ∃ pre, (∀ k, takes ev o (pre ++ k) = (y.told, k)) ∧ (∀ x ∈ ob, x.ok P) ∧ e.mu.getD mem.mu = y.mem.mu ∧ mem.size ≤ y.mem.size ∧ (∀ n ∈ e.use, mem.size ≤ n ∧ n < y.mem.size) ∧ ((e.mu.isSome || !e.use.isEmpty) = false → y.mem = mem) ∧ (e.mu = none → e.use = [] ∨ e.pend.isSome = true) := by
        intro dd ht hme htk hok
        rw [ht] at hm
        simp only [monoOp, hop, ha] at hm
        split at hm
        · rename_i hv; cases hv
        · rename_i hv; cases hv
        · rename_i hv
          cases hv
          split at hm
          · rename_i hd
            cases hd
            split at hm
            · split at hm
              · simp only [Option.some.injEq, Prod.mk.injEq] at hm
                obtain ⟨rfl, rfl, rfl, rfl⟩ := hm
                exact ⟨[.val _], fun k => by rw [ht]; exact htk k, hok, by rw [hme]; rfl, by rw [hme]; exact Nat.le_refl _, fun n hn => (by cases hn), fun _ => hme, by simp⟩
              · cases hm
            · cases hm
          · cases hm
        · rename_i hv; cases hv
        · cases hm
      have htk : ∀ (dd : DV) (k : List Say), takes ev o (Say.val dd :: k) = (some { d := dd }, k) := fun dd k => by simp only [takes, hop, ha]
      split at hy
      · rename_i h
        split at hy
        · rename_i cs hcs
          cases hy
          refine key _ rfl rfl (htk _) (rows_obs _ off fun j dd hj => ?_)
          simp only [DV.cells, List.getElem?_take, List.getElem?_drop] at hj
          simp only [rowsMu, hcs, Option.bind_some]
          split at hj
          · exact hj
          · cases hj
        · cases hy
      · split at hy
        · cases hy
          exact key _ rfl rfl (htk _) hob
        · cases hy
    · rename_i hno
      cases hy
      obtain ⟨c1, c2⟩ := calm rfl (by rw [hop]; rfl) rfl
      refine ⟨[], fun k => ?_, c1, c2⟩
      rw [List.nil_append]
      cases k with
      | nil => simp only [takes, hop]
      | cons sy k =>
        cases sy <;> simp only [takes, hop]
  · -- a choice
    rename_i c a b hop
    split at hy
    · rename_i t hc
      split at hy
      rename_i z ob' r' hd
      cases hy
      have := decideA_spec hd hob
      subst this
      simp only [monoOp, hop, hc, Option.map_eq_some_iff, Prod.mk.injEq] at hm
      obtain ⟨_, _, rfl, rfl, rfl, rfl⟩ := hm
      exact ⟨[.way t], fun k => by simp only [takes, hop, List.cons_append, List.nil_append], fun x hx => by rw [List.mem_singleton.1 hx]; exact rfl, rfl, Nat.le_refl _, fun n hn => (by cases hn), fun _ => rfl, by simp⟩
    · cases hy
  · -- a variable
    rename_i t hop
    split at hy
    · split at hy
      · rename_i h _ _ _ _ z _ _ _ _ _ _ _ _ _ ht
        split at hy
        · rename_i cs hcs
          cases hy
          simp only [monoOp, hop, ht, hcs] at hm
          cases pd
          · simp only [Option.some.injEq, Prod.mk.injEq] at hm
            obtain ⟨rfl, rfl, rfl, rfl⟩ := hm
            exact ⟨[.name h.length], fun k => by simp only [takes, hop, List.cons_append, List.nil_append], by simp, by simp [Mem.mu, rowsMu_app], by simp [Mem.size], fun n hn => by rw [List.mem_singleton.1 hn]; simp [Mem.size], fun h => by simp at h, by simp⟩
          · simp only [Option.some.injEq, Prod.mk.injEq] at hm
            obtain ⟨rfl, rfl, rfl, rfl⟩ := hm
            exact ⟨[.pend h.length], fun k => by simp only [takes, hop, List.cons_append, List.nil_append], by simp, by simp [Mem.mu, rowsMu_hole], by simp [Mem.size], fun n hn => by rw [List.mem_singleton.1 hn]; simp [Mem.size], fun h => by simp at h, by simp⟩
        · cases hy
      · rename_i m0 n0 _ _ _ _ z _ _ _ _ _ _ _ _ _ ht
        split at hy
        · rename_i cs hcs
          cases hy
          simp only [monoOp, hop, ht, hcs] at hm
          cases pd
          · simp only [Option.some.injEq, Prod.mk.injEq] at hm
            obtain ⟨rfl, rfl, rfl, rfl⟩ := hm
            exact ⟨[.name n0], fun k => by simp only [takes, hop, List.cons_append, List.nil_append], by simp, by simp [Mem.mu], by simp [Mem.size], fun n hn => by rw [List.mem_singleton.1 hn]; simp [Mem.size], fun h => by simp at h, by simp⟩
          · simp only [Option.some.injEq, Prod.mk.injEq] at hm
            obtain ⟨rfl, rfl, rfl, rfl⟩ := hm
            exact ⟨[.pend n0], fun k => by simp only [takes, hop, List.cons_append, List.nil_append], by simp, by simp [Mem.mu], by simp [Mem.size], fun n hn => by rw [List.mem_singleton.1 hn]; simp [Mem.size], fun h => by simp at h, by simp⟩
        · cases hy
      · cases hy
    · cases hy
      obtain ⟨c1, c2⟩ := calm rfl (by rw [hop]; rfl) rfl
      exact ⟨[.pass], fun k => by simp only [takes, hop, List.cons_append, List.nil_append], c1, c2⟩
  · -- a boxed value
    rename_i el x hop
    split at hy
    · split at hy
      · rename_i h dx hx
        cases hy
        simp only [monoOp, hop, hx] at hm
        cases pd
        · simp only at hm
          split at hm
          · simp only [Option.some.injEq, Prod.mk.injEq] at hm
            obtain ⟨rfl, rfl, rfl, rfl⟩ := hm
            exact ⟨[.name h.length], fun k => by simp only [takes, hop, List.cons_append, List.nil_append], by simp, by simp [Mem.mu, rowsMu_app], by simp [Mem.size], fun n hn => by rw [List.mem_singleton.1 hn]; simp [Mem.size], fun h => by simp at h, by simp⟩
          · cases hm
        · simp only at hm
          split at hm
          · simp only [Option.some.injEq, Prod.mk.injEq] at hm
            obtain ⟨rfl, rfl, rfl, rfl⟩ := hm
            exact ⟨[.pend h.length], fun k => by simp only [takes, hop, List.cons_append, List.nil_append], by simp, by simp [Mem.mu, rowsMu_hole], by simp [Mem.size], fun n hn => by rw [List.mem_singleton.1 hn]; simp [Mem.size], fun h => by simp at h, by simp⟩
          · cases hm
      · rename_i m0 n0 dx hx
        cases hy
        simp only [monoOp, hop, hx] at hm
        cases pd
        · simp only at hm
          split at hm
          · simp only [Option.some.injEq, Prod.mk.injEq] at hm
            obtain ⟨rfl, rfl, rfl, rfl⟩ := hm
            exact ⟨[.name n0], fun k => by simp only [takes, hop, List.cons_append, List.nil_append], by simp, by simp [Mem.mu], by simp [Mem.size], fun n hn => by rw [List.mem_singleton.1 hn]; simp [Mem.size], fun h => by simp at h, by simp⟩
          · cases hm
        · simp only at hm
          split at hm
          · simp only [Option.some.injEq, Prod.mk.injEq] at hm
            obtain ⟨rfl, rfl, rfl, rfl⟩ := hm
            exact ⟨[.pend n0], fun k => by simp only [takes, hop, List.cons_append, List.nil_append], by simp, by simp [Mem.mu], by simp [Mem.size], fun n hn => by rw [List.mem_singleton.1 hn]; simp [Mem.size], fun h => by simp at h, by simp⟩
          · cases hm
      · cases hy
    · cases hy
      obtain ⟨c1, c2⟩ := calm rfl (by rw [hop]; rfl) rfl
      exact ⟨[.pass], fun k => by simp only [takes, hop, List.cons_append, List.nil_append], c1, c2⟩
  · -- a slice that is built
    rename_i t len parts hop
    split at hy
    · split at hy
      · rename_i h _ _ _ _ _ _ el _ _ _ _ _ _ _ ps ht hps
        split at hy
        · rename_i sz _ _ _ _ _ _ _ _ _ _ _ hte
          split at hy
          · rename_i cs hfill
            cases hy
            simp only [monoOp, hop, ht, hps, hte] at hm
            split at hm
            · rename_i hz
              cases hz
              split at hm
              · rw [hfill] at hm
                cases pd
                · simp only [Option.some.injEq, Prod.mk.injEq] at hm
                  obtain ⟨rfl, rfl, rfl, rfl⟩ := hm
                  replace hq := hq.resolve_left (by rw [show isPick o.op = false by rw [hop]; rfl]; simp)
                  exact ⟨[.sname h.length false], fun k => by simp only [takes, hop, List.cons_append, List.nil_append], fun x hx => by have := List.mem_singleton.1 hx; subst this; exact EqsOk.at hq hx, by simp [Mem.mu, rowsMu_app], by simp [Mem.size], fun n hn => by rw [List.mem_singleton.1 hn]; simp [Mem.size], fun h => by simp at h, by simp⟩
                · simp only [Option.some.injEq, Prod.mk.injEq] at hm
                  obtain ⟨rfl, rfl, rfl, rfl⟩ := hm
                  replace hq := hq.resolve_left (by rw [show isPick o.op = false by rw [hop]; rfl]; simp)
                  exact ⟨[.sname h.length true], fun k => by simp only [takes, hop, List.cons_append, List.nil_append], fun x hx => by have := List.mem_singleton.1 hx; subst this; exact EqsOk.at hq hx, by simp [Mem.mu, rowsMu_hole], by simp [Mem.size], fun n hn => by rw [List.mem_singleton.1 hn]; simp [Mem.size], fun h => by simp at h, by simp⟩
              · cases hm
            · cases hm
          · cases hy
        · cases hy
      · cases hy
    · cases hy
      obtain ⟨c1, c2⟩ := calm rfl (by rw [hop]; rfl) rfl
      exact ⟨[.pass], fun k => by simp only [takes, hop, List.cons_append, List.nil_append], c1, c2⟩
  · -- a slice that is made
    rename_i t x z hop
    split at hy
    · rename_i h _ _ _ _ _ _ el _ _ _ _ _ _ _ kl l ht hx
      split at hy
      · rename_i sz _ zl _ _ _ _ _ _ _ _ _ hte
        split at hy
        · rename_i zs hzs
          cases hy
          simp only [monoOp, hop, ht, hx] at hm
          rcases hz : ev z with _ | dz
          · simp only [hz] at hm; cases hm
          cases dz <;> simp only [hz] at hm <;> first | (cases hm; done) | skip
          split at hm
          · rename_i hte2
            rw [hte] at hte2
            cases hte2
            simp only [hzs] at hm
            split at hm
            case isFalse => cases hm
            rename_i hzl
            have hzl2 := mapM_length hzs
            cases pd
            · rw [if_neg (by simp)] at hm
              simp only [Option.some.injEq, Prod.mk.injEq] at hm
              obtain ⟨rfl, rfl, rfl, rfl⟩ := hm
              replace hq := hq.resolve_left (by rw [show isPick o.op = false by rw [hop]; rfl]; simp)
              exact ⟨[.name h.length], fun k => by simp only [takes, hop, List.cons_append, List.nil_append], fun x hx => by have := List.mem_singleton.1 hx; subst this; exact EqsOk.at hq hx, rowsMu_make h zs _ l.toNat (by omega), by simp [Mem.size], fun n hn => by rw [List.mem_singleton.1 hn]; simp [Mem.size], fun h => by simp at h, by simp⟩
            · rw [if_pos rfl] at hm
              simp only [Option.some.injEq, Prod.mk.injEq] at hm
              obtain ⟨rfl, rfl, rfl, rfl⟩ := hm
              replace hq := hq.resolve_left (by rw [show isPick o.op = false by rw [hop]; rfl]; simp)
              exact ⟨[.pend h.length], fun k => by simp only [takes, hop, List.cons_append, List.nil_append], fun x hx => by have := List.mem_singleton.1 hx; subst this; exact EqsOk.at hq hx, by simp [Mem.mu, rowsMu_hole], by simp [Mem.size], fun n hn => by rw [List.mem_singleton.1 hn]; simp [Mem.size], fun h => by simp at h, by simp⟩
          · cases hm
        · cases hy
      · cases hy
    · rename_i m0 n0 _ _ _ _ _ _ el _ _ _ _ _ _ _ kl l ht hx
      split at hy
      · rename_i sz _ zl _ _ _ _ _ _ _ _ _ hte
        split at hy
        · rename_i zs hzs
          cases hy
          simp only [monoOp, hop, ht, hx] at hm
          rcases hz : ev z with _ | dz
          · simp only [hz] at hm; cases hm
          cases dz <;> simp only [hz] at hm <;> first | (cases hm; done) | skip
          split at hm
          · rename_i hte2
            rw [hte] at hte2
            cases hte2
            simp only [hzs] at hm
            split at hm
            case isFalse => cases hm
            cases pd
            · rw [if_neg (by simp)] at hm
              simp only [Option.some.injEq, Prod.mk.injEq] at hm
              obtain ⟨rfl, rfl, rfl, rfl⟩ := hm
              replace hq := hq.resolve_left (by rw [show isPick o.op = false by rw [hop]; rfl]; simp)
              exact ⟨[.name n0], fun k => by simp only [takes, hop, List.cons_append, List.nil_append], fun x hx => by have := List.mem_singleton.1 hx; subst this; exact EqsOk.at hq hx, rfl, by simp [Mem.size], fun n hn => by rw [List.mem_singleton.1 hn]; simp [Mem.size], fun h => by simp at h, by simp⟩
            · rw [if_pos rfl] at hm
              simp only [Option.some.injEq, Prod.mk.injEq] at hm
              obtain ⟨rfl, rfl, rfl, rfl⟩ := hm
              replace hq := hq.resolve_left (by rw [show isPick o.op = false by rw [hop]; rfl]; simp)
              exact ⟨[.pend n0], fun k => by simp only [takes, hop, List.cons_append, List.nil_append], fun x hx => by have := List.mem_singleton.1 hx; subst this; exact EqsOk.at hq hx, rfl, by simp [Mem.size], fun n hn => by rw [List.mem_singleton.1 hn]; simp [Mem.size], fun h => by simp at h, by simp⟩
          · cases hm
        · cases hy
      · cases hy
    · cases hy
  · -- append
    rename_i args ts hop
    split at hy
    · rename_i h x z t t' hargs hts
      split at hy
      · rename_i _ cs m hT hx hz
        cases hy
        simp only [monoOp, hop, hargs, hts] at hm
        split at hm
        case isFalse => cases hm
        split at hm
        case h_2 => cases hm
        split at hm
        case h_2 => cases hm
        simp only [hx, hz] at hm
        split at hm
        case isFalse => cases hm
        simp only [Option.some.injEq, Prod.mk.injEq] at hm
        obtain ⟨rfl, rfl, rfl, rfl⟩ := hm
        replace hq := hq.resolve_left (by rw [show isPick o.op = false by rw [hop]; rfl]; simp)
        refine ⟨[.name h.length], fun k => by simp only [takes, hop, List.cons_append, List.nil_append], fun x hx => ?_, rowsMu_app0 h cs, by simp [Mem.size], fun n hn => by rw [List.mem_singleton.1 hn]; simp [Mem.size], fun h => by simp at h, by simp⟩
        simp only [List.mem_cons, List.not_mem_nil, or_false] at hx
        rcases hx with rfl | rfl
        · exact EqsOk.at hq (by simp)
        · exact EqsOk.at hq (by simp)
      · rename_i _ b off m sz hT hx hz
        cases hy
        simp only [monoOp, hop, hargs, hts] at hm
        split at hm
        case isFalse => cases hm
        split at hm
        case h_2 => cases hm
        split at hm
        case h_2 => cases hm
        simp only [hx, hz] at hm
        split at hm
        case isFalse => cases hm
        rename_i hsz
        obtain ⟨rfl, _⟩ := hsz
        simp only [Option.some.injEq, Prod.mk.injEq] at hm
        obtain ⟨rfl, rfl, rfl, rfl⟩ := hm
        replace hq := hq.resolve_left (by rw [show isPick o.op = false by rw [hop]; rfl]; simp)
        refine ⟨[.name h.length], fun k => by simp only [takes, hop, List.cons_append, List.nil_append], fun x hx => ?_, rowsMu_app0 h _, by simp [Mem.size], fun n hn => by rw [List.mem_singleton.1 hn]; simp [Mem.size], fun h => by simp at h, by simp⟩
        simp only [List.mem_cons, List.not_mem_nil, or_false] at hx
        rcases hx with rfl | rfl
        · exact EqsOk.at hq (by simp)
        · exact EqsOk.at hq (by simp)
      · rename_i _ _ _ _ el _ _ _ _ _ _ _ b l sz' cs m hT hx hz
        split at hy
        · rename_i te row hte hrow
          cases hy
          simp only [monoOp, hop, hargs, hts] at hm
          split at hm
          case isFalse => cases hm
          split at hm
          case h_2 => cases hm
          rename_i hT2
          rw [hT] at hT2
          cases hT2
          split at hm
          case h_2 => cases hm
          rename_i hte2
          rw [hte] at hte2
          cases hte2
          simp only [hx, hz] at hm
          split at hm
          case isFalse => cases hm
          rename_i hcond
          simp only [Option.some.injEq, Prod.mk.injEq] at hm
          obtain ⟨rfl, rfl, rfl, rfl⟩ := hm
          replace hq := hq.resolve_left (by rw [show isPick o.op = false by rw [hop]; rfl]; simp)
          have hk : ∀ o, o < l * _ → (rowsMu h b o).isSome = true := fun o ho => by
            have := EqsOk.at hq (List.mem_cons_of_mem _ (List.mem_cons_of_mem _ (List.mem_singleton.2 rfl)))
            exact (List.all_eq_true.1 this) o (List.mem_range.2 ho)
          refine ⟨[.name h.length], fun k => by simp only [takes, hop, List.cons_append, List.nil_append], fun x hx => ?_, rowsMu_appl cs hrow hk, by simp [Mem.size], fun n hn => by rw [List.mem_singleton.1 hn]; simp [Mem.size], fun h => by simp at h, by simp⟩
          simp only [List.mem_cons, List.not_mem_nil, or_false] at hx
          rcases hx with rfl | rfl | rfl
          · exact EqsOk.at hq (by simp)
          · exact EqsOk.at hq (by simp)
          · exact EqsOk.at hq (by simp)
        · cases hy
      · cases hy
    · rename_i m0 n0 x z t t' hargs hts
      split at hy
      · rename_i cs m hx hz
        cases hy
        simp only [monoOp, hop, hargs, hts] at hm
        split at hm
        case isFalse => cases hm
        split at hm
        case h_2 => cases hm
        split at hm
        case h_2 => cases hm
        simp only [hx, hz] at hm
        split at hm
        case isFalse => cases hm
        simp only [Option.some.injEq, Prod.mk.injEq] at hm
        obtain ⟨rfl, rfl, rfl, rfl⟩ := hm
        replace hq := hq.resolve_left (by rw [show isPick o.op = false by rw [hop]; rfl]; simp)
        refine ⟨[.name n0], fun k => by simp only [takes, hop, List.cons_append, List.nil_append], fun x hx => ?_, rfl, by simp [Mem.size], fun n hn => by rw [List.mem_singleton.1 hn]; simp [Mem.size], fun h => by simp at h, by simp⟩
        simp only [List.mem_cons, List.not_mem_nil, or_false] at hx
        rcases hx with rfl | rfl
        · exact EqsOk.at hq (by simp)
        · exact EqsOk.at hq (by simp)
      · rename_i b off m sz hx hz
        cases hy
        simp only [monoOp, hop, hargs, hts] at hm
        split at hm
        case isFalse => cases hm
        split at hm
        case h_2 => cases hm
        split at hm
        case h_2 => cases hm
        simp only [hx, hz] at hm
        split at hm
        case isFalse => cases hm
        rename_i hsz
        obtain ⟨rfl, _⟩ := hsz
        simp only [Option.some.injEq, Prod.mk.injEq] at hm
        obtain ⟨rfl, rfl, rfl, rfl⟩ := hm
        replace hq := hq.resolve_left (by rw [show isPick o.op = false by rw [hop]; rfl]; simp)
        refine ⟨[.name n0], fun k => by simp only [takes, hop, List.cons_append, List.nil_append], fun x hx => ?_, rfl, by simp [Mem.size], fun n hn => by rw [List.mem_singleton.1 hn]; simp [Mem.size], fun h => by simp at h, by simp⟩
        simp only [List.mem_cons, List.not_mem_nil, or_false] at hx
        rcases hx with rfl | rfl
        · exact EqsOk.at hq (by simp)
        · exact EqsOk.at hq (by simp)
      · rename_i b l sz' cs m hx hz
        cases hy
        simp only [monoOp, hop, hargs, hts] at hm
        split at hm
        case isFalse => cases hm
        split at hm
        case h_2 => cases hm
        split at hm
        case h_2 => cases hm
        simp only [hx, hz] at hm
        split at hm
        case isFalse => cases hm
        rename_i hcond
        obtain ⟨rfl, _, _⟩ := hcond
        simp only [Option.some.injEq, Prod.mk.injEq] at hm
        obtain ⟨rfl, rfl, rfl, rfl⟩ := hm
        replace hq := hq.resolve_left (by rw [show isPick o.op = false by rw [hop]; rfl]; simp)
        refine ⟨[.name n0], fun k => by simp only [takes, hop, List.cons_append, List.nil_append], fun x hx => ?_, rfl, by simp [Mem.size], fun n hn => by rw [List.mem_singleton.1 hn]; simp [Mem.size], fun h => by simp at h, by simp⟩
        simp only [List.mem_cons, List.not_mem_nil, or_false] at hx
        rcases hx with rfl | rfl | rfl
        · exact EqsOk.at hq (by simp)
        · exact EqsOk.at hq (by simp)
        · exact EqsOk.at hq (by simp)
      · cases hy
    · cases hy
  · -- a map's entry
    rename_i t x i ok hop
    split at hy
    · rename_i n hx
      split at hy
      · rename_i h
        split at hy
        · rename_i ks vs k key kt zv hrow hi hmp
          split at hy
          · rename_i z hz
            split at hy
            · rename_i r1 hl
              cases hy
              have hmu : rowsMu h n 0 = some (.ents ks vs) := by simp [rowsMu, hrow]
              simp only [monoOp, hop, Option.map_eq_some_iff, Prod.mk.injEq] at hm
              obtain ⟨⟨d1, e1, ob1⟩, hr, rfl, rfl, rfl, rfl⟩ := hm
              obtain ⟨q1, q2, kt', zv', k', key', z', q3, q4, q5, rfl⟩ := lookup_eff hx hr
              rw [hi] at q3; cases q3
              rw [hmp] at q4; cases q4
              rw [hz] at q5; cases q5
              refine ⟨[.val (.tup [.ents ks vs, r1])], fun k => by simp only [takes, hop, hx, List.cons_append, List.nil_append], fun x hx => ?_, by rw [q1]; rfl, Nat.le_refl _, by rw [q2]; simp, fun _ => rfl, fun _ => .inl q2⟩
              simp only [List.mem_cons, List.not_mem_nil, or_false] at hx
              rcases hx with rfl | rfl
              · exact hmu
              · exact hl
            · cases hy
          · cases hy
        · cases hy
      · rename_i m0 z0
        split at hy
        · rename_i ks vs r1 r0
          cases hy
          simp only [monoOp, hop, Option.map_eq_some_iff, Prod.mk.injEq] at hm
          obtain ⟨⟨d1, e1, ob1⟩, hr, rfl, rfl, rfl, rfl⟩ := hm
          obtain ⟨q1, q2, kt', zv', k', key', z', q3, q4, q5, rfl⟩ := lookup_eff hx hr
          refine ⟨[.val (.tup [.ents ks vs, r1])], fun k => by simp only [takes, hop, hx, List.cons_append, List.nil_append], ?_, by rw [q1]; rfl, Nat.le_refl _, by rw [q2]; simp, fun _ => rfl, fun _ => .inl q2⟩
          simp only [q3, q4, q5] at hob
          exact hob
        · cases hy
    · rename_i hno
      cases hy
      obtain ⟨c1, c2⟩ := calm rfl (by rw [hop]; rfl) rfl
      refine ⟨[], fun k => ?_, c1, c2⟩
      rw [List.nil_append]
      cases k with
      | nil => simp only [takes, hop]
      | cons sy k =>
        cases sy <;> first
          | (simp only [takes, hop]; done)
          | (simp only [takes, hop]; split <;> first | rfl | (rename_i n hn; exact absurd hn (hno _)))
  · -- an entry put
    rename_i t x i v hop
    split at hy
    · rename_i n k key d0 hx hi hv
      split at hy
      · rename_i h
        split at hy
        · rename_i ks vs hrow
          split at hy
          · rename_i ks' vs' hput
            cases hy
            have hmu : rowsMu h n 0 = some (.ents ks vs) := by simp [rowsMu, hrow]
            simp only [monoOp, hop, Option.map_eq_some_iff, Prod.mk.injEq] at hm
            obtain ⟨⟨d1, e1, ob1⟩, hr, rfl, rfl, rfl, rfl⟩ := hm
            obtain ⟨q1, q2, rfl⟩ := update_eff hx hi hv hr
            refine ⟨[.val (.tup [.ents ks vs, .ents ks' vs'])], fun k => by simp only [takes, hop, List.cons_append, List.nil_append], fun x hx => ?_, ?_, by simp [Mem.size], by rw [q2]; simp, fun hh => by rw [q1] at hh; simp at hh, fun _ => .inl q2⟩
            · simp only [List.mem_cons, List.not_mem_nil, or_false] at hx
              rcases hx with rfl | rfl
              · exact hmu
              · show putD ks vs k key d0 = some _
                unfold putD; rw [hput]; rfl
            · rw [q1]
              exact (rowsMu_store (off := 0) (cs := [.ents ks' vs']) hrow (.inr (by simp))).symm
          · cases hy
        · cases hy
      · rename_i m0 z0
        split at hy
        · rename_i ks vs ks' vs' r0
          cases hy
          simp only [monoOp, hop, Option.map_eq_some_iff, Prod.mk.injEq] at hm
          obtain ⟨⟨d1, e1, ob1⟩, hr, rfl, rfl, rfl, rfl⟩ := hm
          obtain ⟨q1, q2, rfl⟩ := update_eff hx hi hv hr
          exact ⟨[.val (.tup [.ents ks vs, .ents ks' vs'])], fun k => by simp only [takes, hop, List.cons_append, List.nil_append], hob, by rw [q1]; rfl, by simp [Mem.size], by rw [q2]; simp, fun hh => by rw [q1] at hh; simp at hh, fun _ => .inl q2⟩
        · cases hy
    · cases hy
  · -- a new map
    rename_i t r0 hop
    split at hy
    · split at hy
      · rename_i h
        cases hy
        simp only [monoOp, hop, Option.map_eq_some_iff, Prod.mk.injEq] at hm
        obtain ⟨⟨d1, e1, ob1⟩, hr, rfl, rfl, rfl, rfl⟩ := hm
        obtain ⟨q1, q2, q3⟩ := make_eff hr
        exact ⟨[.name h.length], fun k => by simp only [takes, hop, List.cons_append, List.nil_append], by rw [q3]; simp, by rw [q1]; simp [Mem.mu, rowsMu_app], by simp [Mem.size], fun n hn => by rw [q2] at hn; rw [List.mem_singleton.1 hn]; simp [Mem.size], fun h => by rw [q1] at h; simp at h, by rw [q1]; simp⟩
      · rename_i m0 n0
        cases hy
        simp only [monoOp, hop, Option.map_eq_some_iff, Prod.mk.injEq] at hm
        obtain ⟨⟨d1, e1, ob1⟩, hr, rfl, rfl, rfl, rfl⟩ := hm
        obtain ⟨q1, q2, q3⟩ := make_eff hr
        exact ⟨[.name n0], fun k => by simp only [takes, hop, List.cons_append, List.nil_append], by rw [q3]; simp, by rw [q1]; simp [Mem.mu], by simp [Mem.size], fun n hn => by rw [q2] at hn; rw [List.mem_singleton.1 hn]; simp [Mem.size], fun h => by rw [q1] at h; simp at h, by rw [q1]; simp⟩
    · cases hy
      obtain ⟨c1, c2⟩ := calm rfl (by rw [hop]; rfl) rfl
      exact ⟨[.pass], fun k => by simp only [takes, hop, List.cons_append, List.nil_append], c1, c2⟩
  · rename_i hop
    split at hy
    · rename_i hx
      split at hy
      · rename_i h
        cases hy
        simp only [monoOp, hop, Option.map_eq_some_iff, Prod.mk.injEq] at hm
        obtain ⟨⟨d1, e1, ob1⟩, hr, rfl, rfl, rfl, rfl⟩ := hm
        obtain ⟨k, c, q0, q1, q2, q3⟩ := chan_eff hr
        rw [hx] at q0; cases q0
        exact ⟨[.name h.length], fun k => by simp only [takes, hop, List.cons_append, List.nil_append], fun x hx => (by rw [q3] at hx; have := List.mem_singleton.1 hx; subst this; exact EqsOk.at (hq.resolve_left (by rw [show isPick o.op = false by rw [hop]; rfl]; simp)) (by rw [q3]; exact List.mem_singleton.2 rfl)), by rw [q1]; simp [Mem.mu, rowsMu_app], by simp [Mem.size], fun n hn => by rw [q2] at hn; rw [List.mem_singleton.1 hn]; simp [Mem.size], fun h => by rw [q1] at h; simp at h, by rw [q1]; simp⟩
      · rename_i m0 n0
        cases hy
        simp only [monoOp, hop, Option.map_eq_some_iff, Prod.mk.injEq] at hm
        obtain ⟨⟨d1, e1, ob1⟩, hr, rfl, rfl, rfl, rfl⟩ := hm
        obtain ⟨k, c, q0, q1, q2, q3⟩ := chan_eff hr
        rw [hx] at q0; cases q0
        exact ⟨[.name n0], fun k => by simp only [takes, hop, List.cons_append, List.nil_append], fun x hx => (by rw [q3] at hx; have := List.mem_singleton.1 hx; subst this; exact EqsOk.at (hq.resolve_left (by rw [show isPick o.op = false by rw [hop]; rfl]; simp)) (by rw [q3]; exact List.mem_singleton.2 rfl)), by rw [q1]; simp [Mem.mu], by simp [Mem.size], fun n hn => by rw [q2] at hn; rw [List.mem_singleton.1 hn]; simp [Mem.size], fun h => by rw [q1] at h; simp at h, by rw [q1]; simp⟩
    · cases hy
  · rename_i n1 n2 n3 n4 n5 n6 n7 n8 n9 n10 n11 n12
    cases hy
    have hpk : isPick o.op = false := by
      cases hop : o.op <;> first | rfl | exact absurd hop (n3 _ _ _)
    obtain ⟨c1, c2⟩ := calm rfl hpk rfl
    refine ⟨[], fun k => ?_, c1, c2⟩
    rw [List.nil_append]
    unfold takes
    split <;> first
    | rfl
    | (rename_i h _; exact absurd h (n1 _ _ _))
    | (rename_i h _; exact absurd h (n2 _ _))
    | (rename_i h _; exact absurd h (n3 _ _ _))
    | (rename_i h _; exact absurd h (n4 _))
    | (rename_i h _; exact absurd h (n5 _ _))
    | (rename_i h _; exact absurd h (n6 _ _ _))
    | (rename_i h _; exact absurd h (n7 _ _ _))
    | (rename_i h _; exact absurd h (n8 _ _))
    | (rename_i h _; exact absurd h (n9 _ _ _ _))
    | (rename_i h _; exact absurd h (n10 _ _ _ _))
    | (rename_i h _; exact absurd h (n11 _ _))
    | (rename_i h; exact absurd h (n9 _ _ _ _))
    | (rename_i h; exact absurd h (n10 _ _ _ _))
    | (rename_i h; exact absurd h (n11 _ _))
    | (exfalso; simp_all)
theorem useObs_of {e : Eff} {F : List Nat} (h : ∀ n ∈ e.use, n ∈ F) (hp : e.mu = none → e.use = [] ∨ e.pend.isSome = true) : ∀ x ∈ useObs e F, x.ok P := by
  have hall : (e.use.all fun n => F.contains n) = true := List.all_eq_true.2 fun n hn => by simpa using h n hn
  unfold useObs
  split
  · intro x hx; rw [List.mem_singleton.1 hx]; exact hall
  · rename_i hmu
    rcases hp hmu with h0 | h0
    · rw [h0]; simp
    · obtain ⟨g, hg⟩ := Option.isSome_iff_exists.1 h0
      rw [hg]
      cases hu : e.use with
      | nil => simp
      | cons a l =>
        rw [hu] at hall
        intro x hx
        rw [List.mem_singleton.1 hx]; exact hall
theorem apply_mu {s s' : St} {o : Oper} {d : DV} {e : Eff} {dirty : Bool} (h : s.apply o d e dirty = some s') : s'.mu = e.mu.getD s.mu := by
  unfold St.apply at h
  split at h
  · split at h
    · cases h; rfl
    · cases h
  · split at h
    · cases h; rfl
    · split at h
      · split at h
        · cases h; rfl
        · cases h
      · cases h
theorem someObs_eqs {mu : Mu} {b : Nat} : ∀ {ds : List DV} {off : Nat}, ∀ x ∈ someObs mu b off ds, ∃ a c, x = .eq a c
  | [], _, x, hx => by simp [someObs] at hx
  | d :: ds, off, x, hx => by
    simp only [someObs, List.mem_cons] at hx
    rcases hx with rfl | hx
    · exact ⟨_, _, rfl⟩
    · exact someObs_eqs x hx
theorem store_mem {s : ASt} {o : Oper} {s' : St} {ob : List Ob} {mem' : Mem} (h : storeOp T (s.st []) o = some (s', ob)) (hm : memStore s o = some mem') (hq : EqsOk ob) :
    (∀ x ∈ ob, x.ok P) ∧ s'.mu = mem'.mu ∧ mem'.size = s.mem.size ∧ (storeAdr (s.st []) o = false → mem' = s.mem) := by
  unfold storeOp at h
  split at h
  · rename_i t a x hop
    unfold memStore at hm
    rw [hop] at hm
    simp only at hm
    unfold storeAdr
    rw [hop]
    split at h
    · rename_i ti n off d hti ha hx
      simp only [ha] at hm
      cases hm
      split at h
      · split at h
        · cases h
          exact ⟨by simp, rfl, rfl, fun _ => rfl⟩
        · cases h
      · cases h
    · rename_i ti b off d hti ha hx
      simp only [ha, hx] at hm
      split at h
      · cases h
        have hok : ∀ y ∈ someObs (s.st []).mu b off d.cells, y.ok P := fun y hy => by
          obtain ⟨p, q, rfl⟩ := someObs_eqs y hy
          exact hq.at hy
        refine ⟨hok, ?_⟩
        have hmem : (s.st []).mu = s.mem.mu := rfl
        split at hm
        · rename_i hrows
          simp only [Option.map_eq_some_iff] at hm
          obtain ⟨row, hrow, rfl⟩ := hm
          rw [hmem, hrows] at hok ⊢
          refine ⟨(rowsMu_store hrow ?_).symm, by simp [Mem.size], fun h => by simp only [ha] at h; cases h⟩
          cases hc : d.cells with
          | nil => exact .inl rfl
          | cons y ys =>
            right
            rw [hc] at hok
            obtain ⟨dd, hdd, _⟩ := someObs_get hok (y :: ys).length.pred (by simp)
            simp only [Mem.mu, rowsMu, hrow, Option.bind_some] at hdd
            have := (List.getElem?_eq_some_iff.1 hdd).1
            simp only [List.length_cons, Nat.pred_succ] at this ⊢
            omega
        · rename_i hhid
          cases hm
          rw [hmem, hhid]
          exact ⟨rfl, rfl, fun h => by simp only [ha] at h; cases h⟩
      · cases h
    · cases h
  · cases h
/-- One operation. -/
theorem stepA_sound {orc : Orc} (horc : OrcOk P orc) {named : Tmp → Bool} {pd : Bool} {ops : Array Oper} {hide : List Nat} {mine : Option Nat} {i : Nat} {s : ASt} {sc : Sc} {out : OutA}
    (h : stepA T orc named pd ops hide mine i s sc = some out) (hob : ∀ x ∈ out.obs, x.ok P) (F : List Nat) (hF : ∀ n, s.mem.size ≤ n → n < out.st.mem.size → n ∈ F) :
    ∃ pre obs F', (∀ x ∈ obs, x.ok P) ∧ (∀ n ∈ F, out.st.mem.size ≤ n → n ∈ F') ∧ s.mem.size ≤ out.st.mem.size ∧ (out.ever = false → out.st.mem = s.mem) ∧
      ∀ k, stepI T ops hide mine i (s.st F) (pre ++ k) = some ⟨out.st.st F', k, obs, out.loud, out.wr, out.sens, []⟩ := by
  unfold stepA at h
  split at h
  · cases h
  · rename_i o ho
    split at h
    · rename_i hdst
      split at h
      · cases h
      · rename_i ob r hg
        cases h
        obtain ⟨pre, obs, h1, h2⟩ := guardA_sound (P := P) hg hob
        refine ⟨pre, obs, F, h1, fun n hn _ => hn, Nat.le_refl _, fun _ => rfl, fun k => ?_⟩
        unfold stepI
        simp only [ho]
        rw [show (s.st F).tm = s.tm from rfl, if_pos hdst, h2 k]
        rfl
      · rename_i ob r hg
        split at h
        · rename_i hst
          split at h
          · rename_i s' ob' mem' hs' hmem'
            have fin : ∀ (r' : Sc) (obx : List Ob), (⟨{ tm := s'.tm, lo := s'.lo, dirty := s'.dirty, mem := mem', el := s'.el, pend := s'.pend }, r', obx, !storeFull mine (s.st []) o && !storeAdr (s.st []) o, storeAdr (s.st []) o, storeAdr (s.st []) o, [], storeAdr (s.st []) o⟩ : OutA) = out → EqsOk ob' → (∀ x ∈ ob, x.ok P) →
                ∃ pre obs F', (∀ x ∈ obs, x.ok P) ∧ (∀ n ∈ F, out.st.mem.size ≤ n → n ∈ F') ∧ s.mem.size ≤ out.st.mem.size ∧ (out.ever = false → out.st.mem = s.mem) ∧
                  ∀ k, stepI T ops hide mine i (s.st F) (pre ++ k) = some ⟨out.st.st F', k, obs, out.loud, out.wr, out.sens, []⟩ := by
              intro r' obx h hq ho1
              subst h
              obtain ⟨pre, obs, h1, h2⟩ := guardA_sound (P := P) hg ho1
              obtain ⟨g1, g2, g3, g4⟩ := store_mem (P := P) hs' hmem' hq
              refine ⟨pre, obs ++ ob', F, fun x hx => (List.mem_append.1 hx).elim (h1 x) (g1 x), fun n hn _ => hn, by simp only [g3]; exact Nat.le_refl _, g4, fun k => ?_⟩
              unfold stepI
              simp only [ho]
              rw [show (s.st F).tm = s.tm from rfl, if_pos hdst, h2 k]
              simp only
              rw [if_pos hst, show s.st F = { s.st [] with free := F } from rfl, storeOp_free, hs']
              simp only [Option.map_some, Option.some.injEq]
              have e : ({ tm := s'.tm, lo := s'.lo, dirty := s'.dirty, mem := mem', el := s'.el, pend := s'.pend } : ASt).st F = { s' with free := F } := by unfold ASt.st; rw [← g2]
              rw [e]
              rfl
            split at h
            · rename_i a0 b0 l0 r'
              cases h
              have hob' : ∀ x ∈ ob ++ (Ob.eq a0 b0 :: l0), x.ok P := hob
              exact fin _ _ rfl (fun a b hx => hob' (.eq a b) (List.mem_append_right _ hx)) (fun x hx => hob' x (List.mem_append_left _ hx))
            · split at h
              · rename_i hq
                cases h
                exact fin _ _ rfl (fun a b hx => eqsOk_ok hq hx) hob
              · cases h
          · cases h
        · rename_i hst
          split at h
          · cases h
          · rename_i y hy
            split at h
            · rename_i d e ob' dirty hm
              have fin : ∀ (r' : Sc) (obx : List Ob), (applyA s o d e dirty y.mem).map (fun s' => (⟨s', r', obx, dirty, e.wr, sensOp (s.st []).ev o || e.wr, [], e.mu.isSome || !e.use.isEmpty⟩ : OutA)) = some out → (isPick o.op = true ∨ EqsOk ob') → (∀ x ∈ ob, x.ok P) → (∀ x ∈ y.obs, x.ok P) →
                  ∃ pre obs F', (∀ x ∈ obs, x.ok P) ∧ (∀ n ∈ F, out.st.mem.size ≤ n → n ∈ F') ∧ s.mem.size ≤ out.st.mem.size ∧ (out.ever = false → out.st.mem = s.mem) ∧
                    ∀ k, stepI T ops hide mine i (s.st F) (pre ++ k) = some ⟨out.st.st F', k, obs, out.loud, out.wr, out.sens, []⟩ := by
                intro r' obx h hq ho1 ho2
                simp only [Option.map_eq_some_iff] at h
                obtain ⟨s1, hs1, rfl⟩ := h
                obtain ⟨pre, obs, h1, h2⟩ := guardA_sound (P := P) hg ho1
                obtain ⟨pre2, t1, t2, t3, t4, t5, t6, t7⟩ := say_sound (P := P) horc hy hm hq ho2
                unfold applyA at hs1
                simp only [Option.map_eq_some_iff] at hs1
                obtain ⟨s2, hs2, rfl⟩ := hs1
                have hmu := apply_mu hs2
                rw [show (s.st []).mu = s.mem.mu from rfl, t3] at hmu
                have huse : ∀ n ∈ e.use, n ∈ F := fun n hn => hF n (t5 n hn).1 (t5 n hn).2
                refine ⟨pre ++ pre2, obs ++ (ob' ++ useObs e F), offUse e.use F, fun x hx => ?_, fun n hn hle => ?_, t4, t6, fun k => ?_⟩
                · rcases List.mem_append.1 hx with hx | hx
                  · exact h1 x hx
                  · rcases List.mem_append.1 hx with hx | hx
                    · exact t2 x hx
                    · exact useObs_of huse t7 x hx
                · refine mem_offUse_of hn ?_
                  simp only [Bool.not_eq_true', List.contains_eq_mem, decide_eq_false_iff_not]
                  intro hin
                  have := (t5 n hin).2
                  simp only at hle
                  omega
                · unfold stepI
                  simp only [ho]
                  rw [show (s.st F).tm = s.tm from rfl, if_pos hdst, List.append_assoc, h2 (pre2 ++ k)]
                  simp only
                  rw [if_neg hst, show (s.st F).ev = (s.st []).ev from rfl, t1 k]
                  rw [show (s.st F).mu = s.mem.mu from rfl, show (s.st F).lo = s.lo from rfl, show (s.st F).leH hide = (s.st []).leH hide from rfl, hm]
                  simp only
                  rw [show s.st F = { s.st [] with free := F } from rfl, apply_free, hs2]
                  simp only [Option.map_some, Option.some.injEq]
                  have e1 : ({ tm := s2.tm, lo := s2.lo, dirty := s2.dirty, mem := y.mem, el := s2.el, pend := s2.pend } : ASt).st (offUse e.use F) = { s2 with free := offUse e.use F } := by unfold ASt.st; rw [← hmu]
                  rw [e1]
              split at h
              · rename_i a0 b0 l0 r' hpk hsc
                have h' := h
                simp only [Option.map_eq_some_iff] at h'
                obtain ⟨s1, hs1, rfl⟩ := h'
                have hob' : ∀ x ∈ ob ++ (y.obs ++ (Ob.eq a0 b0 :: l0)), x.ok P := hob
                exact fin _ _ h (.inr fun a b hx => hob' (.eq a b) (List.mem_append_right _ (List.mem_append_right _ hx))) (fun x hx => hob' x (List.mem_append_left _ hx)) (fun x hx => hob' x (List.mem_append_right _ (List.mem_append_left _ hx)))
              · split at h
                · rename_i hq
                  have h' := h
                  simp only [Option.map_eq_some_iff] at h'
                  obtain ⟨s1, hs1, rfl⟩ := h'
                  have hob' : ∀ x ∈ ob ++ y.obs, x.ok P := hob
                  refine fin _ _ h ?_ (fun x hx => hob' x (List.mem_append_left _ hx)) (fun x hx => hob' x (List.mem_append_right _ hx))
                  rcases Bool.or_eq_true_iff.1 hq with hq | hq
                  · exact .inl hq
                  · exact .inr fun a b hx => eqsOk_ok hq hx
                · cases h
            · cases h
    · cases h
/-- Operations in a row. -/
theorem runOpsA_sound {orc : Orc} (horc : OrcOk P orc) {named : Tmp → Bool} {pd : Bool} {ops : Array Oper} {hide : List Nat} {g : Nat → Option Nat} : ∀ (l : List Nat) {s : ASt} {sc : Sc} {out : OutA},
    runOpsA T orc named pd ops hide g l s sc = some out → (∀ x ∈ out.obs, x.ok P) → s.mem.size ≤ out.st.mem.size ∧ ∀ (F : List Nat), (∀ n, s.mem.size ≤ n → n < out.st.mem.size → n ∈ F) →
    ∃ pre obs F', (∀ x ∈ obs, x.ok P) ∧ (∀ n ∈ F, out.st.mem.size ≤ n → n ∈ F') ∧ (out.ever = false → out.st.mem = s.mem) ∧
      ∀ k, runOps T ops hide g l (s.st F) (pre ++ k) = some ⟨out.st.st F', k, obs, out.loud, false, false, out.fl⟩
  | [], s, sc, out, h, hob => by
    simp only [runOpsA, Option.some.injEq] at h
    subst h
    exact ⟨Nat.le_refl _, fun F _ => ⟨[], [], F, by simp, fun n hn _ => hn, fun _ => rfl, fun k => rfl⟩⟩
  | i :: l, s, sc, out, h, hob => by
    simp only [runOpsA] at h
    split at h
    · cases h
    · rename_i r hr
      split at h
      · cases h
      · rename_i q hq
        cases h
        obtain ⟨hsz2, hrest⟩ := runOpsA_sound horc l hq (fun x hx => hob x (List.mem_append_right _ hx))
        have hstep := stepA_sound horc hr (fun x hx => hob x (List.mem_append_left _ hx))
        obtain ⟨_, _, _, _, _, hsz1, _⟩ := hstep (List.range r.st.mem.size) (fun n _ h => List.mem_range.2 h)
        refine ⟨Nat.le_trans hsz1 hsz2, fun F hF => ?_⟩
        obtain ⟨p1, o1, F1, a1, a2, _, a4, a5⟩ := hstep F (fun n h1 h2 => hF n h1 (Nat.lt_of_lt_of_le h2 hsz2))
        obtain ⟨p2, o2, F2, b1, b2, b4, b5⟩ := hrest F1 (fun n h1 h2 => a2 n (hF n (Nat.le_trans hsz1 h1) h2) h1)
        refine ⟨p1 ++ p2, o1 ++ o2, F2, fun x hx => (List.mem_append.1 hx).elim (a1 x) (b1 x), fun n hn hle => b2 n (a2 n hn (Nat.le_trans hsz2 hle)) hle, fun he => ?_, fun k => ?_⟩
        · obtain ⟨h1, h2⟩ := Bool.or_eq_false_iff.1 he
          exact (b4 h2).trans (a4 h1)
        · simp only [runOps]
          rw [List.append_assoc, a5 (p2 ++ k)]
          simp only
          rw [b5 k]
theorem pub1A_sound {s s' : ASt} {p : Nat × Nat} (h : pub1A s p = some s') : s'.mem.size = s.mem.size ∧ ∀ F, pub1 (s.st F) p = s'.st F := by
  unfold pub1A at h
  unfold pub1
  split at h
  · rename_i cs hl
    split at h
    · rename_i htm
      split at h
      · rename_i hh hrows
        split at h
        · rename_i hrow
          cases h
          refine ⟨by simp [Mem.size, hrows], fun F => ?_⟩
          rw [show (s.st F).lo = s.lo from rfl, hl]
          simp only
          refine (if_pos htm).trans ?_
          unfold ASt.st
          simp only [hrows, Mem.mu]
          rw [rowsMu_set hrow]
        · cases h
      · rename_i m0 n0 hhid
        cases h
        refine ⟨by simp [Mem.size, hhid], fun F => ?_⟩
        rw [show (s.st F).lo = s.lo from rfl, hl]
        simp only
        refine (if_pos htm).trans ?_
        unfold ASt.st
        simp only [hhid, Mem.mu]
    · rename_i htm
      cases h
      refine ⟨rfl, fun F => ?_⟩
      rw [show (s.st F).lo = s.lo from rfl, hl]
      simp only
      exact if_neg htm
  · rename_i hno
    cases h
    refine ⟨rfl, fun F => ?_⟩
    rw [show (s.st F).lo = s.lo from rfl]
    split
    · rename_i cs hl; exact absurd hl (hno cs)
    · rfl
theorem pubAllA_sound : ∀ {ps : List (Nat × Nat)} {s s' : ASt}, pubAllA ps s = some s' → s'.mem.size = s.mem.size ∧ ∀ F, pubAll ps (s.st F) = s'.st F
  | [], s, s', h => by simp only [pubAllA, Option.some.injEq] at h; subst h; exact ⟨rfl, fun _ => rfl⟩
  | p :: ps, s, s', h => by
    simp only [pubAllA] at h
    split at h
    · rename_i s1 h1
      obtain ⟨a1, a2⟩ := pub1A_sound h1
      obtain ⟨b1, b2⟩ := pubAllA_sound h
      exact ⟨b1.trans a1, fun F => by simp only [pubAll]; rw [a2 F, b2 F]⟩
    · cases h
theorem publishA_sound {s s' : ASt} (h : publishA s = some s') : s'.mem.size = s.mem.size ∧ (s.pend.isEmpty = true → s'.mem = s.mem) ∧ ∀ F, publish (s.st F) = s'.st F := by
  unfold publishA at h
  split at h
  · rename_i hp
    cases h
    refine ⟨rfl, fun _ => rfl, fun F => ?_⟩
    unfold publish
    rw [show (s.st F).pend = s.pend from rfl, hp]
    simp only [pubAll]
    unfold ASt.st
    rw [hp]
  · rename_i hne
    simp only [Option.map_eq_some_iff] at h
    obtain ⟨s1, h1, rfl⟩ := h
    obtain ⟨a1, a2⟩ := pubAllA_sound h1
    refine ⟨a1, fun hp => absurd (List.isEmpty_iff.1 hp) hne, fun F => ?_⟩
    unfold publish
    rw [show (s.st F).pend = s.pend from rfl, a2 F]
    rfl
/-- The pieces of a region. -/
theorem runPiecesA_sound {orc : Orc} (horc : OrcOk P orc) {named : Tmp → Bool} {ops : Array Oper} {ms : List Nat} : ∀ (l : List (Nat × Nat)) {s : ASt} {sc : Sc} {out : OutA},
    runPiecesA T orc named ops ms l s sc = some out → (∀ x ∈ out.obs, x.ok P) → s.mem.size ≤ out.st.mem.size ∧ ∀ (F : List Nat), (∀ n, s.mem.size ≤ n → n < out.st.mem.size → n ∈ F) →
    ∃ pre obs F', (∀ x ∈ obs, x.ok P) ∧ (∀ n ∈ F, out.st.mem.size ≤ n → n ∈ F') ∧ (out.ever = false → out.st.mem = s.mem) ∧
      ∀ k, runPieces T ops ms l (s.st F) (pre ++ k) = some ⟨out.st.st F', k, obs, false, false, false, []⟩
  | [], s, sc, out, h, hob => by
    simp only [runPiecesA, Option.some.injEq] at h
    subst h
    exact ⟨Nat.le_refl _, fun F _ => ⟨[], [], F, by simp, fun n hn _ => hn, fun _ => rfl, fun k => rfl⟩⟩
  | (a, b) :: l, s, sc, out, h, hob => by
    simp only [runPiecesA] at h
    split at h
    · rename_i hab
      split at h
      · cases h
      · rename_i r hr
        split at h
        · cases h
        · rename_i p hp
          split at h
          · cases h
          · rename_i q hq
            cases h
            obtain ⟨c1, c2, c3⟩ := publishA_sound hp
            obtain ⟨hsz1, h1⟩ := runOpsA_sound horc _ hr (fun x hx => hob x (List.mem_append_left _ hx))
            obtain ⟨hsz2, h2⟩ := runPiecesA_sound horc l hq (fun x hx => hob x (List.mem_append_right _ hx))
            rw [c1] at hsz2
            refine ⟨Nat.le_trans hsz1 hsz2, fun F hF => ?_⟩
            obtain ⟨p1, o1, F1, a1, a2, a4, a5⟩ := h1 F (fun n h1 h2 => hF n h1 (Nat.lt_of_lt_of_le h2 hsz2))
            obtain ⟨p2, o2, F2, b1, b2, b4, b5⟩ := h2 F1 (fun n h1 h2 => by rw [c1] at h1; exact a2 n (hF n (Nat.le_trans hsz1 h1) h2) h1)
            refine ⟨p1 ++ p2, o1 ++ o2, F2, fun x hx => (List.mem_append.1 hx).elim (a1 x) (b1 x), fun n hn hle => b2 n (a2 n hn (Nat.le_trans hsz2 hle)) hle, fun he => ?_, fun k => ?_⟩
            · simp only [Bool.or_eq_false_iff] at he
              exact (b4 he.2).trans ((c2 (by simpa using he.1.2)).trans (a4 he.1.1))
            · simp only [runPieces]
              rw [if_pos hab, List.append_assoc, a5 (p2 ++ k)]
              simp only
              rw [c3 F1, b5 k]
    · rename_i hab
      split at h
      · cases h
      · rename_i r hr
        split at h
        · rename_i hcond
          split at h
          · cases h
          · rename_i p hp
            split at h
            · cases h
            · rename_i q hq
              cases h
              obtain ⟨c1, c2, c3⟩ := publishA_sound hp
              obtain ⟨hsz1, h1⟩ := runOpsA_sound horc _ hr (fun x hx => hob x (List.mem_append_left _ hx))
              obtain ⟨hsz2, h2⟩ := runPiecesA_sound horc l hq (fun x hx => hob x (List.mem_append_right _ hx))
              rw [c1] at hsz2
              refine ⟨Nat.le_trans hsz1 hsz2, fun F hF => ?_⟩
              obtain ⟨p1, o1, F1, a1, a2, a4, a5⟩ := h1 F (fun n h1 h2 => hF n h1 (Nat.lt_of_lt_of_le h2 hsz2))
              obtain ⟨p2, o2, F2, b1, b2, b4, b5⟩ := h2 F1 (fun n h1 h2 => by rw [c1] at h1; exact a2 n (hF n (Nat.le_trans hsz1 h1) h2) h1)
              refine ⟨p1 ++ p2, o1 ++ o2, F2, fun x hx => (List.mem_append.1 hx).elim (a1 x) (b1 x), fun n hn hle => b2 n (a2 n hn (Nat.le_trans hsz2 hle)) hle, fun he => ?_, fun k => ?_⟩
              · simp only [Bool.or_eq_false_iff] at he
                exact (b4 he.2).trans ((c2 (by simpa using he.1.2)).trans (a4 he.1.1))
              · simp only [runPieces]
                rw [if_neg hab, List.append_assoc, show guess ops (s.st F) = guess ops (s.st []) from rfl, a5 (p2 ++ k)]
                simp only
                rw [show guessOk ops (s.st F) a b = guessOk ops (s.st []) a b from rfl, show (s.st F).pend = s.pend from rfl, if_pos hcond, c3 F1, b5 k]
        · cases h
theorem ASt.forget_st (s : ASt) (drops : List Nat) (F : List Nat) : (s.forget drops).st F = (s.st F).forget (keepMask drops s.tm) drops := rfl
/-- What is to be shown of a code. -/
def RunsA (P : Program) (T : TypeId → Option TI) (c : Code) (s : ASt) (out : FinA) : Prop := s.mem.size ≤ out.st.mem.size ∧ ∀ (F : List Nat), (∀ n, s.mem.size ≤ n → n < out.st.mem.size → n ∈ F) →
    ∃ pre obs F', (∀ x ∈ obs, x.ok P) ∧ (∀ n ∈ F, out.st.mem.size ≤ n → n ∈ F') ∧ (out.ever = false → out.st.mem = s.mem) ∧
      ∀ k, runCode T c (s.st F) (pre ++ k) = some ⟨out.way, out.st.st F', k, obs⟩
variable (hT : ∀ t ti, T t = some ti → tiOf P t = some ti) (hm : P.follows .mixedOrders = true)
include hT hm in
/-- A loop. -/
theorem loopA_sound {c : Code} {drops : List Nat} {run : ASt → Sc → Option FinA} (hrun : ∀ s sc out, run s sc = some out → (∀ x ∈ out.obs, x.ok P) → RunsA P T c s out) : ∀ (n : Nat) {s : ASt} {sc : Sc} {out : FinA},
    loopA run drops n s sc = some out → (∀ x ∈ out.obs, x.ok P) → s.mem.size ≤ out.st.mem.size ∧ locsOk ((s.forget drops).st []) = true ∧ ∀ (F : List Nat), (∀ n, s.mem.size ≤ n → n < out.st.mem.size → n ∈ F) →
      ∃ F', (∀ n ∈ F, out.st.mem.size ≤ n → n ∈ F') ∧ (out.ever = false → out.st.mem = s.mem) ∧ LoopOk P c ((s.forget drops).st F) out.way (out.st.st F')
  | 0, s, sc, out, h, _ => by simp [loopA] at h
  | n + 1, s, sc, out, h, hob => by
    simp only [loopA] at h
    split at h
    · rename_i hl
      split at h
      · cases h
      · rename_i r hr
        split at h
        · rename_i hw
          split at h
          · cases h
          · rename_i q hq
            cases h
            obtain ⟨hsz1, h1⟩ := hrun _ _ _ hr (fun x hx => hob x (List.mem_append_left _ hx))
            obtain ⟨hsz2, hl2, h2⟩ := loopA_sound hrun n hq (fun x hx => hob x (List.mem_append_right _ hx))
            have hsz1' : s.mem.size ≤ r.st.mem.size := hsz1
            refine ⟨Nat.le_trans hsz1' hsz2, hl, fun F hF => ?_⟩
            obtain ⟨p1, o1, F1, a1, a2, a3, a4⟩ := h1 F (fun n h1 h2 => hF n h1 (Nat.lt_of_lt_of_le h2 hsz2))
            obtain ⟨F2, b1, b2, b3⟩ := h2 F1 (fun n h1 h2 => a2 n (hF n (Nat.le_trans hsz1' h1) h2) h1)
            refine ⟨F2, fun n hn hle => b1 n (a2 n hn (Nat.le_trans hsz2 hle)) hle, fun he => ?_, ?_⟩
            · obtain ⟨e1, e2⟩ := Bool.or_eq_false_iff.1 he
              exact (b2 e2).trans (a3 e1)
            · have hc : CodeOk P c ((s.forget drops).st F) .normal (r.st.st F1) := by rw [← hw]; exact codeOk_of_run (P := P) hT hm (a4 []) a1
              have hle : (r.st.st F1).le ((r.st.forget drops).st F1) := by
                rw [ASt.forget_st]
                exact forget_le (by rw [← ASt.forget_st]; exact hl2)
              exact LoopOk.step (CodeOk.forget hc hle) b3
        · rename_i hw
          cases h
          obtain ⟨hsz1, h1⟩ := hrun _ _ _ hr hob
          refine ⟨hsz1, hl, fun F hF => ?_⟩
          obtain ⟨p1, o1, F1, a1, a2, a3, a4⟩ := h1 F hF
          exact ⟨F1, a2, a3, LoopOk.last hw (codeOk_of_run (P := P) hT hm (a4 []) a1)⟩
    · cases h
include hT hm in
theorem runCodeA_sound {orc : Orc} (horc : OrcOk P orc) {named : Tmp → Bool} {rounds : Nat} : ∀ (c : Code) {s : ASt} {sc : Sc} {out : FinA}, runCodeA T orc named rounds c s sc = some out → (∀ x ∈ out.obs, x.ok P) → RunsA P T c s out := by
  have triv : ∀ (c : Code) (s : ASt) (w : Way) (sc : Sc), (∀ F k, runCode T c (s.st F) k = some ⟨w, s.st F, k, []⟩) → RunsA P T c s ⟨w, s, sc, [], false⟩ := fun c s w sc h =>
    ⟨Nat.le_refl _, fun F _ => ⟨[], [], F, by simp, fun n hn _ => hn, fun _ => rfl, fun k => h F k⟩⟩
  intro c
  induction c with
  | skip => intro s sc out h _; simp only [runCodeA, Option.some.injEq] at h; subst h; exact triv _ _ _ _ (fun _ _ => rfl)
  | label l => intro s sc out h _; simp only [runCodeA, Option.some.injEq] at h; subst h; exact triv _ _ _ _ (fun _ _ => rfl)
  | ret => intro s sc out h _; simp only [runCodeA, Option.some.injEq] at h; subst h; exact triv _ _ _ _ (fun _ _ => rfl)
  | exit id => intro s sc out h _; simp only [runCodeA, Option.some.injEq] at h; subst h; exact triv _ _ _ _ (fun _ _ => rfl)
  | region id ops draw =>
    intro s sc out h hob
    simp only [runCodeA] at h
    split at h
    · rename_i hd
      split at h
      · rename_i hE
        split at h
        · rename_i r hr
          cases h
          have hlen : (masks ops.toList []).length = ops.size := by rw [masks_length]; simp
          rw [← hlen, piecesF_eq, hlen] at hr
          obtain ⟨hsz, h1⟩ := runPiecesA_sound horc _ hr hob
          refine ⟨hsz, fun F hF => ?_⟩
          obtain ⟨p1, o1, F1, a1, a2, a3, a4⟩ := h1 F hF
          refine ⟨p1, o1, F1, a1, a2, a3, fun k => ?_⟩
          simp only [runCode]
          rw [if_pos hd, if_pos hE, a4 k]
        · cases h
      · cases h
    · rename_i hd
      split at h
      · rename_i r hr
        cases h
        obtain ⟨hsz, h1⟩ := runOpsA_sound horc _ hr hob
        refine ⟨hsz, fun F hF => ?_⟩
        obtain ⟨p1, o1, F1, a1, a2, a3, a4⟩ := h1 F hF
        refine ⟨p1, o1, F1, a1, a2, a3, fun k => ?_⟩
        simp only [runCode]
        rw [if_neg hd, a4 k]
      · cases h
  | seq a b iha ihb =>
    intro s sc out h hob
    simp only [runCodeA] at h
    split at h
    · cases h
    · rename_i r hr
      split at h
      · rename_i hw
        split at h
        · rename_i q hq
          cases h
          obtain ⟨hsz1, h1⟩ := iha hr (fun x hx => hob x (List.mem_append_left _ hx))
          obtain ⟨hsz2, h2⟩ := ihb hq (fun x hx => hob x (List.mem_append_right _ hx))
          refine ⟨Nat.le_trans hsz1 hsz2, fun F hF => ?_⟩
          obtain ⟨p1, o1, F1, a1, a2, a3, a4⟩ := h1 F (fun n h1 h2 => hF n h1 (Nat.lt_of_lt_of_le h2 hsz2))
          obtain ⟨p2, o2, F2, b1, b2, b3, b4⟩ := h2 F1 (fun n h1 h2 => a2 n (hF n (Nat.le_trans hsz1 h1) h2) h1)
          refine ⟨p1 ++ p2, o1 ++ o2, F2, fun x hx => (List.mem_append.1 hx).elim (a1 x) (b1 x), fun n hn hle => b2 n (a2 n hn (Nat.le_trans hsz2 hle)) hle, fun he => ?_, fun k => ?_⟩
          · obtain ⟨e1, e2⟩ := Bool.or_eq_false_iff.1 he
            exact (b3 e2).trans (a3 e1)
          · simp only [runCode]
            rw [List.append_assoc, a4 (p2 ++ k), hw]
            simp only
            rw [b4 k]
        · cases h
      · rename_i hw
        cases h
        obtain ⟨hsz1, h1⟩ := iha hr hob
        refine ⟨hsz1, fun F hF => ?_⟩
        obtain ⟨p1, o1, F1, a1, a2, a3, a4⟩ := h1 F hF
        refine ⟨p1, o1, F1, a1, a2, a3, fun k => ?_⟩
        simp only [runCode]
        rw [a4 k]
        cases hh : out.way <;> first | exact absurd hh hw | rfl
  | cond c a b iha ihb =>
    intro s sc out h hob
    simp only [runCodeA] at h
    split at h
    · rename_i t hc
      rcases hd : decideA t sc with ⟨y, ob, r⟩
      rw [hd] at h
      simp only [Option.map_eq_some_iff] at h
      obtain ⟨q, hq, rfl⟩ := h
      have := decideA_spec (P := P) hd (fun x hx => hob x (List.mem_append_left _ hx))
      subst this
      have hob2 : ∀ x ∈ q.obs, x.ok P := fun x hx => hob x (List.mem_append_right _ hx)
      have key : RunsA P T (if t then a else b) s q := by
        cases t
        · exact ihb hq hob2
        · exact iha hq hob2
      obtain ⟨hsz1, h1⟩ := key
      refine ⟨hsz1, fun F hF => ?_⟩
      obtain ⟨p1, o1, F1, a1, a2, a3, a4⟩ := h1 F hF
      refine ⟨.way t :: p1, .eq t t :: o1, F1, fun x hx => ?_, a2, a3, fun k => ?_⟩
      · rcases List.mem_cons.1 hx with rfl | hx
        · exact rfl
        · exact a1 x hx
      · simp only [runCode, List.cons_append]
        rw [show (s.st F).ev c = (s.st []).ev c from rfl, hc]
        simp only
        cases t
        · rw [if_neg (by simp)]
          have := a4 k
          rw [if_neg (by simp)] at this
          rw [this]
        · rw [if_pos rfl]
          have := a4 k
          rw [if_pos rfl] at this
          rw [this]
    · cases h
  | block id c ih =>
    intro s sc out h hob
    simp only [runCodeA] at h
    split at h
    · cases h
    · rename_i r hr
      split at h
      · rename_i hw
        cases h
        obtain ⟨hsz1, h1⟩ := ih hr hob
        refine ⟨hsz1, fun F hF => ?_⟩
        obtain ⟨p1, o1, F1, a1, a2, a3, a4⟩ := h1 F hF
        refine ⟨p1, o1, F1, a1, a2, a3, fun k => ?_⟩
        simp only [runCode]
        rw [a4 k, hw]
        simp
      · rename_i hw
        cases h
        obtain ⟨hsz1, h1⟩ := ih hr hob
        refine ⟨hsz1, fun F hF => ?_⟩
        obtain ⟨p1, o1, F1, a1, a2, a3, a4⟩ := h1 F hF
        refine ⟨p1, o1, F1, a1, a2, a3, fun k => ?_⟩
        simp only [runCode]
        rw [a4 k]
        cases hh : out.way with
        | exit j => simp only; rw [if_neg (by rintro rfl; exact hw hh)]
        | normal => rfl
        | ret => rfl
  | loop c ih =>
    intro s sc out h hob
    simp only [runCodeA] at h
    obtain ⟨hsz, hl, h1⟩ := loopA_sound hT hm (fun s sc out h1 h2 => ih h1 h2) rounds h hob
    refine ⟨hsz, fun F hF => ?_⟩
    obtain ⟨F1, a1, a2, a3⟩ := h1 F hF
    refine ⟨[.loop (keepMask (makes c) s.tm) (makes c) out.way (out.st.st F1)], [.code (.loop c) ((s.st F).forget (keepMask (makes c) s.tm) (makes c)) out.way (out.st.st F1)], F1, fun x hx => ?_, a1, a2, fun k => ?_⟩
    · rw [List.mem_singleton.1 hx]
      exact a3.code
    · simp only [runCode, List.cons_append, List.nil_append]
      rw [if_pos]
      exact hl
  | _ => intro s sc out h _; simp only [runCodeA] at h; cases h
theorem resultsOf_free (s : ASt) (F : List Nat) : ∀ rs : List ResultVar, resultsOf T (s.st F) rs = resultsOf T (s.st []) rs
  | [] => rfl
  | r :: rs => by
    simp only [resultsOf]
    rw [resultsOf_free s F rs]
    rfl
def FnsOk (P : Program) (fns : Fns) : Prop := ∀ f x, fns f = some x → P.funcs[f]? = some x.1 ∧ (x.1.name == "runtime.NumGoroutine") = false
include hT hm in
theorem runBodyA_sound {orc : Orc} (horc : OrcOk P orc) {rounds : Nat} {f : FuncId} {fn : Func} {nms : List Tmp} (hf : P.funcs[f]? = some fn) (hn : (fn.name == "runtime.NumGoroutine") = false) {args : List DV} {mem mem' : Mem} {sc sc' : Sc} {d : DV} {dirty wrote : Bool} {obs : List Ob}
    (h : runBodyA T orc rounds fn nms args mem sc = some (d, mem', dirty, wrote, obs, sc')) (hob : ∀ x ∈ obs, x.ok P) : CallOk P f args mem.mu d mem'.mu dirty (names mem mem') ∧ mem.size ≤ mem'.size ∧ (wrote = false → mem' = mem) := by
  unfold runBodyA at h
  split at h
  · cases h
  · rename_i c hc
    split at h
    · cases h
    · rename_i r hr
      split at h
      · rename_i hw
        split at h
        · rename_i ds hds
          cases h
          obtain ⟨hsz, h1⟩ := runCodeA_sound hT hm horc c hr hob
          have hmem : (if r.ever = true then r.st.mem else mem) = r.st.mem := by
            split
            · rfl
            · rename_i he
              obtain ⟨_, _, _, _, _, a3, _⟩ := h1 (List.range r.st.mem.size) (fun n _ h => List.mem_range.2 h)
              exact (a3 (by simpa using he)).symm
          rw [hmem]
          have hsz' : mem.size ≤ r.st.mem.size := hsz
          obtain ⟨p1, o1, F1, a1, a2, a3, a4⟩ := h1 (names mem r.st.mem) (fun n h1 h2 => List.mem_range'_1.2 ⟨h1, by have : mem.size ≤ n := h1; omega⟩)
          refine ⟨?_, hsz', fun he => a3 he⟩
          refine callOk_of_run hT hm hf hn (script := p1 ++ []) (obs := o1) ?_ a1
          unfold runBody
          rw [hc]
          simp only
          have e := a4 []
          rw [show ({ tm := args ++ List.replicate (fn.ntmps - args.length) (.tup []), lo := [], mu := mem.mu, free := names mem r.st.mem } : St) = ({ tm := args ++ List.replicate (fn.ntmps - args.length) (.tup []), lo := [], mem := mem } : ASt).st (names mem r.st.mem) from rfl, e]
          rcases hw with hw | hw
          · rw [hw]
            simp only
            rw [resultsOf_free, hds]
            rfl
          · rw [hw]
            simp only
            rw [resultsOf_free, hds]
            rfl
        · cases h
      · cases h
include hT hm in
/-- The evaluator by itself is right. -/
theorem deep_ok {fns : Fns} (hfns : FnsOk P fns) (rounds : Nat) : ∀ n, OrcOk P (deep T fns rounds n)
  | 0 => fun f args mem sc d mem' dirty wrote obs sc' h _ => by simp [deep] at h
  | n + 1 => fun f args mem sc d mem' dirty wrote obs sc' h hob => by
    simp only [deep] at h
    split at h
    · rename_i fn nms hf
      obtain ⟨h1, h2⟩ := hfns f _ hf
      exact runBodyA_sound hT hm (deep_ok hfns rounds n) h1 h2 h hob
    · cases h
end
end Go.Proofs.YtpckjfncecoibaaGreat.Fun
