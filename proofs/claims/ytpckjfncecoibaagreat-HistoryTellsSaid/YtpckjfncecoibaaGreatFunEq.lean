/- Two structs of whole numbers, Booleans and strings are equal just if their cells are. -/
import Derived.Test.YtpckjfncecoibaaGreatFunMono
import Derived.Laws.StructEq
namespace Go.Proofs.YtpckjfncecoibaaGreat.Fun
open Go
set_option linter.unusedSimpArgs false
set_option linter.unusedVariables false
section
variable {P : Program}
theorem strEq_spec (a b : ByteArray) : (a.toList == b.toList) = strEq a b := by
  unfold strEq
  rw [ByteArray.toList_eq, ByteArray.toList_eq]
theorem eqD_split : ∀ {ks ks' : List Nat} {a b : List DV} {r : Bool}, eqD (ks ++ ks') a b = some r → ∃ r1 r2, eqD ks (a.take ks.length) (b.take ks.length) = some r1 ∧ eqD ks' (a.drop ks.length) (b.drop ks.length) = some r2 ∧ r = (r1 && r2)
  | [], ks', a, b, r, h => ⟨true, r, rfl, by simpa using h, by simp⟩
  | k :: ks, ks', x :: a, y :: b, r, h => by
    simp only [List.cons_append, eqD] at h
    split at h
    · rename_i p q hp hq
      cases h
      obtain ⟨r1, r2, h1, h2, rfl⟩ := eqD_split hq
      exact ⟨p && r1, r2, by simp only [List.length_cons, List.take_succ_cons, eqD, hp, h1], by simpa using h2, by rw [Bool.and_assoc]⟩
    · cases h
  | k :: ks, ks', [], _, r, h => by simp [eqD] at h
  | k :: ks, ks', _ :: _, [], r, h => by simp [eqD] at h
theorem eqD_length : ∀ {ks : List Nat} {a b : List DV} {r : Bool}, eqD ks a b = some r → a.length = ks.length ∧ b.length = ks.length
  | [], [], [], _, _ => ⟨rfl, rfl⟩
  | [], _ :: _, _, _, h => by simp [eqD] at h
  | [], [], _ :: _, _, h => by simp [eqD] at h
  | k :: ks, [], _, r, h => by simp [eqD] at h
  | k :: ks, _ :: _, [], r, h => by simp [eqD] at h
  | k :: ks, x :: a, y :: b, r, h => by
    simp only [eqD] at h
    split at h
    · rename_i p q hp hq
      obtain ⟨h1, h2⟩ := eqD_length hq
      exact ⟨by simp [h1], by simp [h2]⟩
    · cases h
theorem part_one {t : TypeId} {u : TypeDesc} (hu : P.underlying t = some u) (ha : isAggD u = false) {vs : List Value} {off : Nat} {v : Value} (h : vs[off]? = some v) (w : World) : (part t vs.toArray off).run P w = .ok v w := by
  simp [part, run_agg hu, ha, Sem.run_bind, Result.andThen, h, Sem.run_pure]
theorem part_agg {t : TypeId} {u : TypeDesc} {i : TypeInfo} (hu : P.underlying t = some u) (hi : P.info? t = some i) (ha : isAggD u = true) (vs : List Value) (off : Nat) (w : World) : (part t vs.toArray off).run P w = .ok (.agg ((vs.drop off).take i.size).toArray) w := by
  simp only [part, Sem.run_bind, run_agg hu, ha, if_true, run_size hi, Result.andThen, Sem.run_pure]
  congr 2
  apply Array.ext'
  simp [List.extract_eq_take_drop]
/-- What is to be shown of a type. -/
def CmpOk (P : Program) (d : Nat) (t : TypeId) (l : List Nat) : Prop := ∀ (ρ : Nat → Option Nat) (S : Nat → Prop) (w : World) (ds es : List DV) (b : Bool) (vs us : List Value), AbsL ρ S w ds vs → AbsL ρ S w es us → eqD l ds es = some b →
    ∃ i u, P.info? t = some i ∧ P.underlying t = some u ∧ i.size = l.length ∧ (isAggD u = true → (Op.equalIn d t (.agg vs.toArray) (.agg us.toArray)).run P w = .ok b w) ∧ (isAggD u = false → ∃ v x, vs = [v] ∧ us = [x] ∧ (Op.equalIn d t v x).run P w = .ok b w)
theorem cmpRow_run {d : Nat} {g : TypeId → Option (List Nat)} (hg : ∀ t l, g t = some l → CmpOk P d t l) {ρ : Nat → Option Nat} {S : Nat → Prop} {w : World} {ds es : List DV} {vs us : List Value} (hv : AbsL ρ S w ds vs) (hu : AbsL ρ S w es us) :
    ∀ (fs : List Field) (n : Nat) (l : List Nat) (b : Bool), cmpRow g fs n = some l → eqD l (ds.drop n) (es.drop n) = some b → (Op.eqFields d vs.toArray us.toArray fs).run P w = .ok b w
  | [], n, l, b, h, he => by
    simp only [cmpRow, Option.some.injEq] at h
    subst h
    cases hd : ds.drop n <;> cases hd' : es.drop n <;> rw [hd, hd'] at he <;> simp [eqD] at he
    subst he
    simp [Op.eqFields, Sem.run_pure]
  | f :: fs, n, l, b, h, he => by
    simp only [cmpRow] at h
    split at h
    · rename_i hc
      split at h
      · rename_i l1 hl1
        simp only [Option.map_eq_some_iff] at h
        obtain ⟨l2, hl2, rfl⟩ := h
        obtain ⟨r1, r2, h1, h2, rfl⟩ := eqD_split he
        rw [List.drop_drop, List.drop_drop] at h2
        obtain ⟨i, u, hi, hun, hsz, hag, hna⟩ := hg _ _ hl1 _ _ _ _ _ _ _ _ ((hv.drop n).take l1.length) ((hu.drop n).take l1.length) h1
        have ih := cmpRow_run hg hv hu fs (n + l1.length) l2 r2 hl2 h2
        simp only [Op.eqFields]
        rw [if_pos (by simpa using hc.1)]
        have key : ∀ a x, (part f.type vs.toArray f.offset).run P w = .ok a w → (part f.type us.toArray f.offset).run P w = .ok x w → (Op.equalIn d f.type a x).run P w = .ok r1 w →
            (do let a ← part f.type vs.toArray f.offset; let b ← part f.type us.toArray f.offset; let r ← Op.equalIn d f.type a b; if (!r) = true then pure false else Op.eqFields d vs.toArray us.toArray fs : Sem Bool).run P w = .ok (r1 && r2) w := fun a x ha hx hr => by
          simp only [Sem.run_bind, ha, hx, hr, Result.andThen]
          cases r1
          · simp [Sem.run_pure]
          · simpa using ih
        cases hA : isAggD u with
        | true =>
          have := hag hA
          refine key _ _ (part_agg hun hi hA vs f.offset w) (part_agg hun hi hA us f.offset w) ?_
          rw [hc.2, hsz]; exact this
        | false =>
          obtain ⟨v, x, hvv, hxx, hr⟩ := hna hA
          have g0 : ∀ (ys : List Value) (y : Value), (ys.drop n).take l1.length = [y] → ys[n]? = some y := fun ys y hy => by
            have : ((ys.drop n).take l1.length)[0]? = some y := by rw [hy]; rfl
            rw [List.getElem?_take] at this
            split at this
            · rw [List.getElem?_drop] at this; simpa using this
            · cases this
          exact key v x (part_one hun hA (by rw [hc.2]; exact g0 _ _ hvv) w) (part_one hun hA (by rw [hc.2]; exact g0 _ _ hxx) w) hr
      · cases h
    · cases h
theorem cmp_run : ∀ (d m : Nat) (t : TypeId) (l : List Nat), cmpOf P d t = some l → CmpOk P (m + d) t l
  | 0, _, _, _, h => by simp [cmpOf] at h
  | d + 1, m, t, l, h => fun ρ S w ds es b vs us hv hu hb => by
    obtain ⟨hl1, hl2⟩ := eqD_length hb
    simp only [cmpOf] at h
    split at h
    · rename_i i u hi hun
      split at h
      · rename_i l' hl'
        split at h
        · rename_i hs
          cases h
          refine ⟨i, u, hi, hun, hs.symm, ?_⟩
          have one : ∀ k, l = [k] → isAggD u = false → (∀ v x r, eq1 k v x = some r → ∀ V X, Abs ρ S w v V → Abs ρ S w x X → (Op.equalIn ((m + d) + 1) t V X).run P w = .ok r w) →
              (isAggD u = true → (Op.equalIn (m + (d + 1)) t (.agg vs.toArray) (.agg us.toArray)).run P w = .ok b w) ∧ (isAggD u = false → ∃ v x, vs = [v] ∧ us = [x] ∧ (Op.equalIn (m + (d + 1)) t v x).run P w = .ok b w) := by
            intro k hk hag hone
            subst hk
            refine ⟨fun h => (by rw [hag] at h; cases h), fun _ => ?_⟩
            match ds, es, hl1, hl2 with
            | [x], [y], _, _ =>
              obtain ⟨V, r1, rfl, hx, hr1⟩ := hv.cons_inv
              obtain ⟨X, r2, rfl, hy, hr2⟩ := hu.cons_inv
              rw [hr1.nil_inv, hr2.nil_inv]
              simp only [eqD] at hb
              split at hb
              · rename_i p q hp hq
                simp only [Option.some.injEq] at hq
                subst hq
                cases hb
                exact ⟨V, X, rfl, rfl, by rw [Bool.and_true]; exact hone _ _ _ hp V X hx hy⟩
              · cases hb
          cases u <;> simp only [] at hl' <;> first | (cases hl'; done) | skip
          case int k =>
            cases hl'
            refine one 0 rfl rfl fun v x r he V X hV hX => ?_
            cases v <;> cases x <;> simp only [eq1] at he <;> first | (cases he; done) | skip
            split at he
            · rename_i hk
              cases he
              simp only [Abs] at hV hX; subst hV; subst hX; subst hk
              exact run_equalIn_int w _ t _ _ _ _ hun
            · cases he
          case bool =>
            cases hl'
            refine one 1 rfl rfl fun v x r he V X hV hX => ?_
            cases v <;> cases x <;> simp only [eq1] at he <;> first | (cases he; done) | skip
            cases he
            simp only [Abs] at hV hX; subst hV; subst hX
            exact run_equalIn_bool' w _ t _ _ hun
          case string =>
            cases hl'
            refine one 2 rfl rfl fun v x r he V X hV hX => ?_
            cases v <;> cases x <;> simp only [eq1] at he <;> first | (cases he; done) | skip
            cases he
            simp only [Abs] at hV hX; subst hV; subst hX
            rw [← strEq_spec]
            exact run_equalIn_string w _ t _ _ hun
          case struct fs =>
            split at hl'
            · cases hl'
            · rename_i hst
              refine ⟨fun _ => ?_, fun h => by cases h⟩
              have hf : P.fieldsOf t = fs := by simp [Program.fieldsOf, hun]
              rw [show m + (d + 1) = (m + d) + 1 from rfl, run_equalIn_struct (P := P) w (m + d) t _ _ (by rw [hf]; exact hun) (by simpa using hst), hf]
              exact cmpRow_run (fun t l => cmp_run d m t l) hv hu fs.toList 0 l b hl' (by simpa using hb)
        · cases h
      · cases h
    · cases h
end
end Go.Proofs.YtpckjfncecoibaaGreat.Fun
