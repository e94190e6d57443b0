/- Maps whose keys are whole numbers, as lists; the last of each kind, found by a map, and by looking back. -/
import Derived.Test.YtpckjfncecoibaaGreatFunDefs
namespace Go.Proofs.YtpckjfncecoibaaGreat.Fun
open Go
section
variable {α : Type} (th : α → Int) (dv : α → DV)
def ksL (al : List α) : List DV := al.map fun a => .int .i64 (th a)
def vsL (al : List α) : List DV := al.map dv
def idxL (t : Int) : List α → Option Nat
  | [] => none
  | a :: al => if t == th a then some 0 else (idxL t al).map (· + 1)
def putL (c : α) : List α → List α
  | [] => [c]
  | a :: al => if th c == th a then c :: al else a :: putL c al
theorem keyAt_ks (t : Int) : ∀ (al : List α) (i : Nat), keyAt .i64 t (ksL th al) i = some ((idxL th t al).map (· + i))
  | [], i => rfl
  | a :: al, i => by
    simp only [ksL, List.map_cons, keyAt, if_true, idxL]
    cases h : t == th a with
    | true => simp
    | false =>
      have := keyAt_ks t al (i + 1)
      simp only [ksL] at this
      simp only [Bool.false_eq_true, if_false, this]
      cases idxL th t al <;> simp; omega
theorem idx_find (t : Int) : ∀ (al : List α), (idxL th t al).bind (fun j => (vsL dv al)[j]?) = (al.find? fun a => t == th a).map dv
  | [] => rfl
  | a :: al => by
    simp only [idxL, List.find?_cons]
    cases h : t == th a with
    | true => simp [vsL]
    | false =>
      have := idx_find t al
      simp only [Bool.false_eq_true, if_false]
      rw [← this]
      cases idxL th t al <;> simp [vsL]
theorem idx_lt (t : Int) : ∀ (al : List α) (j : Nat), idxL th t al = some j → j < al.length
  | [], _, h => by simp [idxL] at h
  | a :: al, j, h => by
    simp only [idxL] at h
    cases hx : t == th a with
    | true => rw [hx, if_pos rfl] at h; cases h; simp
    | false =>
      rw [hx, if_neg (by simp)] at h
      obtain ⟨i, hi, rfl⟩ := Option.map_eq_some_iff.1 h
      have := idx_lt t al i hi
      simp; omega
theorem look_L (z : DV) (t : Int) (al : List α) : lookD true z (ksL th al) (vsL dv al) .i64 t = some (match al.find? (fun a => t == th a) with | some b => .tup [dv b, .bool true] | none => .tup [z, .bool false]) := by
  unfold lookD
  rw [keyAt_ks]
  have h := idx_find th dv t al
  cases hi : idxL th t al with
  | none =>
    rw [hi] at h
    simp only [Option.bind_none] at h
    cases hf : al.find? fun a => t == th a with
    | none => rfl
    | some b => rw [hf] at h; cases h
  | some j =>
    rw [hi] at h
    simp only [Option.bind_some] at h
    simp only [Option.map_some, Nat.add_zero]
    have hj : j < (vsL dv al).length := by simpa [vsL] using idx_lt th t al j hi
    cases hf : al.find? fun a => t == th a with
    | none => rw [hf, List.getElem?_eq_getElem hj] at h; cases h
    | some b => rw [hf] at h; rw [h]; rfl
theorem put_key (c : α) : ∀ (al : List α), (match idxL th (th c) al with | some j => ((ksL th al).set j (.int .i64 (th c)), (vsL dv al).set j (dv c)) | none => (ksL th al ++ [.int .i64 (th c)], vsL dv al ++ [dv c])) = (ksL th (putL th c al), vsL dv (putL th c al))
  | [] => rfl
  | a :: al => by
    simp only [idxL, putL]
    cases h : th c == th a with
    | true => simp [ksL, vsL]
    | false =>
      have ih := put_key c al
      simp only [Bool.false_eq_true, if_false]
      cases hi : idxL th (th c) al with
      | none =>
        rw [hi] at ih
        simp only [Prod.mk.injEq] at ih
        simp only [Option.map_none, Prod.mk.injEq]
        exact ⟨by simp only [ksL, List.map_cons, List.cons_append]; rw [← show ksL th (putL th c al) = (putL th c al).map fun a => DV.int .i64 (th a) from rfl, ← ih.1]; rfl, by simp only [vsL, List.map_cons, List.cons_append]; rw [← show vsL dv (putL th c al) = (putL th c al).map dv from rfl, ← ih.2]; rfl⟩
      | some j =>
        rw [hi] at ih
        simp only [Prod.mk.injEq] at ih
        simp only [Option.map_some, Prod.mk.injEq]
        exact ⟨by simp only [ksL, List.map_cons, List.set_cons_succ]; rw [← show ksL th (putL th c al) = (putL th c al).map fun a => DV.int .i64 (th a) from rfl, ← ih.1]; rfl, by simp only [vsL, List.map_cons, List.set_cons_succ]; rw [← show vsL dv (putL th c al) = (putL th c al).map dv from rfl, ← ih.2]; rfl⟩
theorem put_L (c : α) (al : List α) : putD (ksL th al) (vsL dv al) .i64 (th c) (dv c) = some (.ents (ksL th (putL th c al)) (vsL dv (putL th c al))) := by
  unfold putD putEnts
  rw [keyAt_ks]
  have h := put_key th dv c al
  cases hi : idxL th (th c) al with
  | none => rw [hi] at h; simp only [Option.map_none, Option.map_some]; simp only [Prod.mk.injEq] at h; rw [h.1, h.2]
  | some j => rw [hi] at h; simp only [Option.map_some, Nat.add_zero]; simp only [Prod.mk.injEq] at h; rw [h.1, h.2]
theorem find_put (c : α) (t : Int) : ∀ (al : List α), (putL th c al).find? (fun a => t == th a) = if t == th c then some c else al.find? fun a => t == th a
  | [] => by simp only [putL, List.find?_cons, List.find?_nil]; cases t == th c <;> rfl
  | a :: al => by
    simp only [putL]
    cases h : th c == th a with
    | true =>
      have e : th c = th a := by simpa using h
      simp only [if_true, List.find?_cons]
      rw [e]
      cases t == th a <;> rfl
    | false =>
      simp only [Bool.false_eq_true, if_false, List.find?_cons]
      rw [find_put c t al]
      cases ha : t == th a with
      | true =>
        have e : t = th a := by simpa using ha
        have : (t == th c) = false := by rw [e]; rw [beq_eq_false_iff_ne] at h ⊢; exact fun q => h q.symm
        rw [this]; rfl
      | false => rfl
variable (ah : α → α → Bool) (bad : α → Bool)
/-- By a map of the last ones. -/
def soundH : List α → List α → Bool
  | [], _ => true
  | c :: l, al => if bad c then false else (match al.find? (fun a => th c == th a) with | some b => if ah b c then soundH l (putL th c al) else false | none => soundH l (putL th c al))
/-- By looking back. -/
def soundR : List α → List α → Bool
  | [], _ => true
  | c :: l, pre => if bad c then false else (match pre.find? (fun a => th c == th a) with | some b => if ah b c then soundR l (c :: pre) else false | none => soundR l (c :: pre))
theorem sound_same : ∀ (l al pre : List α), (∀ t, al.find? (fun a => t == th a) = pre.find? fun a => t == th a) → soundH th ah bad l al = soundR th ah bad l pre
  | [], _, _, _ => rfl
  | c :: l, al, pre, h => by
    have h2 : ∀ t, (putL th c al).find? (fun a => t == th a) = (c :: pre).find? fun a => t == th a := fun t => by
      rw [find_put, List.find?_cons, h t]
      cases t == th c <;> rfl
    simp only [soundH, soundR, h (th c), sound_same l (putL th c al) (c :: pre) h2]
end
end Go.Proofs.YtpckjfncecoibaaGreat.Fun
