/- HistoryTells: of all calls it is told whether they are sound, and which are ahead of which, as the document says. -/
import Derived.Test.YtpckjfncecoibaaGreatHistWays
import Derived.Test.YtpckjfncecoibaaGreatAwakeH
import Derived.Test.YtpckjfncecoibaaGreatMapL
import Derived.Test.YtpckjfncecoibaaGreatHistOp
import Derived.Test.YtpckjfncecoibaaGreatFunLaw
namespace Go.Proofs.YtpckjfncecoibaaGreat.Fun
open Go
set_option linter.unusedVariables false
set_option linter.unusedSimpArgs false
/-- A call. -/
structure Ca where
  th : Int
  co : Int
  d : Int
  f : Int
  h : Int
  a : Int
  b : Int
  fr : Int
  to : Int
  e : Int
  v : Int
abbrev Ca.cs (c : Ca) : List DV := [.int .i64 c.th, .int .i64 c.co, .int .i64 c.d, .int .i64 c.f, .int .u64 c.h, .int .u64 c.a, .int .u64 c.b, .int .i64 c.fr, .int .i64 c.to, .int .i64 c.e, .int .u64 c.v]
abbrev Ca.op (c : Ca) : Ope := ⟨c.co, c.d, c.f, c.h, c.a, c.b⟩
def ahC (a b : Ca) : Bool := (a.to != -1) && decide (a.to < b.fr)
def badC (c : Ca) : Bool := !(opG c.op) || (decide (c.fr < 0) || ((c.to != -1) && decide (c.to < c.fr) || (c.to == -1) && (!((c.e == 0) && ((c.v == 0) && true)))))
theorem sh_bad {c : Ca} {l al : List Ca} (hb : badC c = true) : soundH Ca.th ahC badC (c :: l) al = false := by simp only [soundH, hb, if_pos]
theorem sh_new {c : Ca} {l al : List Ca} (hb : badC c = false) (hf : al.find? (fun a => c.th == a.th) = none) : soundH Ca.th ahC badC (c :: l) al = soundH Ca.th ahC badC l (putL Ca.th c al) := by simp only [soundH, hb, hf]; rfl
theorem sh_old {c b : Ca} {l al : List Ca} (hb : badC c = false) (hf : al.find? (fun a => c.th == a.th) = some b) (ha : ahC b c = true) : soundH Ca.th ahC badC (c :: l) al = soundH Ca.th ahC badC l (putL Ca.th c al) := by simp only [soundH, hb, hf, ha]; rfl
theorem sh_late {c b : Ca} {l al : List Ca} (hb : badC c = false) (hf : al.find? (fun a => c.th == a.th) = some b) (ha : ahC b c = false) : soundH Ca.th ahC badC (c :: l) al = false := by simp only [soundH, hb, hf, ha]; rfl
theorem wrap64' {x : Int} (h0 : -9223372036854775808 ≤ x) (h1 : x ≤ 9223372036854775807) : IntKind.i64.wrap x = x := by
  unfold IntKind.wrap
  simp only [IntKind.signed, IntKind.bits]
  simp
  omega
theorem flat11 : ∀ (xs : List Ca) (k : Nat) (c : Ca), xs[k]? = some c → ∃ rest, (xs.flatMap Ca.cs).drop (k * 11) = c.cs ++ rest
  | [], k, c, h => by simp at h
  | x :: xs, 0, c, h => by simp at h; subst h; exact ⟨xs.flatMap Ca.cs, by simp⟩
  | x :: xs, k + 1, c, h => by
    obtain ⟨r, hr⟩ := flat11 xs k c (by simpa using h)
    refine ⟨r, ?_⟩
    rw [List.flatMap_cons, show (k + 1) * 11 = 11 + k * 11 by omega, ← List.drop_drop]
    exact hr
section
variable {xs : List Ca}
theorem call_at {k : Nat} {c : Ca} (h : xs[k]? = some c) : (if 0 + 11 ≤ ((xs.flatMap Ca.cs).drop (((k : Nat) : Int).toNat * 11)).length then some (DV.agg ((((xs.flatMap Ca.cs).drop (((k : Nat) : Int).toNat * 11)).drop 0).take 11)) else none) = some (.agg c.cs) := by
  obtain ⟨r, hr⟩ := flat11 xs k c h
  rw [Int.toNat_natCast, hr, if_pos (by simp)]
  rfl
theorem thread_at {k : Nat} {c : Ca} (h : xs[k]? = some c) : ((xs.flatMap Ca.cs).drop (((k : Nat) : Int).toNat * 11))[0]? = some (.int .i64 c.th) := by
  obtain ⟨r, hr⟩ := flat11 xs k c h
  rw [Int.toNat_natCast, hr]; rfl
theorem ahead67 (a b : Ca) (m : Mu) : CallOk Tryz.prog 67 [.agg a.cs, .agg b.cs] m (.bool (ahC a b)) m false [] := by
  unfold ahC
  cases h : a.to != -1 with
  | false => exact f_history_Ahead_1 h
  | true => exact f_history_Ahead_2 h
theorem ahead68 (a b : Ca) (m : Mu) : CallOk Tryz.prog 68 [.agg a.cs, .agg b.cs] m (.bool (ahC a b)) m false [] := by
  unfold ahC
  cases h : a.to != -1 with
  | false => exact f_cubicleref23_Ahead_1 h
  | true => exact f_cubicleref23_Ahead_2 h
theorem formed82 (c : Ca) (m : Mu) : CallOk Tryz.prog 82 [.agg [.int .i64 c.co, .int .i64 c.d, .int .i64 c.f, .int .u64 c.h, .int .u64 c.a, .int .u64 c.b]] m (.bool (opG c.op)) m false [] := opG_ok c.op m
theorem formed130 (c : Ca) (m : Mu) : CallOk Tryz.prog 130 [.agg [.int .i64 c.co, .int .i64 c.d, .int .i64 c.f, .int .u64 c.h, .int .u64 c.a, .int .u64 c.b]] m (.bool (opG c.op)) m false [] := by
  rw [opGR]; exact opR_ok c.op m
/-- The program's round. -/
noncomputable abbrev cS : Code := codeAt [true, true, false, true, false, false] (Tryz.f66.body.getD .skip)
attribute [local irreducible] CodeOk
abbrev zC : DV := .agg [.int .i64 0, .int .i64 0, .int .i64 0, .int .i64 0, .int .u64 0, .int .u64 0, .int .u64 0, .int .i64 0, .int .i64 0, .int .i64 0, .int .u64 0]
abbrev LS (xs : List Ca) (g : Nat) (k : Int) (m : Mu) (fr : List Nat) : St := L_history_Sound_1 (xs.flatMap Ca.cs) xs.length g false k m false fr
abbrev ksC (al : List Ca) : List DV := ksL Ca.th al
abbrev vsC (al : List Ca) : List DV := vsL (fun c => .agg c.cs) al
variable (hlen : xs.length ≤ 30) {k g : Nat} {c : Ca} {al : List Ca} {m : Mu} {fr : List Nat}
include hlen in
theorem round_in (hk : xs[k]? = some c) : decide (((k : Nat) : Int) < (((xs.length : Nat) : Int))) = true ∧ decide ((0 : Int) ≤ ((k : Nat) : Int) ∧ ((k : Nat) : Int) < ((xs.length : Nat) : Int)) = true ∧ IntKind.i64.wrap (((k : Nat) : Int) + 1) = ((k + 1 : Nat) : Int) := by
  have := (List.getElem?_eq_some_iff.1 hk).1
  exact ⟨decide_eq_true (by omega), decide_eq_true (by omega), by rw [wrap64' (by omega) (by omega)]; omega⟩
include hlen in
theorem round_bad (hk : xs[k]? = some c) (hb : badC c = true) : CodeOk Tryz.prog cS (LS xs g k m fr) .ret (LS xs g k m fr) := by
  obtain ⟨h0, h1, _⟩ := round_in hlen hk
  unfold badC at hb
  cases e1 : opG c.op with
  | false => exact L_history_Sound_1_18 h0 h1 (call_at hk) (formed82 c m) (by rw [e1]; rfl)
  | true =>
    rw [e1] at hb
    have f1 : (!(opG c.op)) = false := by rw [e1]; rfl
    cases e2 : decide (c.fr < 0) with
    | true => exact L_history_Sound_1_17 h0 h1 (call_at hk) (formed82 c m) f1 (by exact e2)
    | false =>
      rw [e2] at hb
      cases e3 : c.to != -1 with
      | false =>
        have e4 : (c.to == -1) = true := by simpa [bne] using e3
        rw [e3, e4] at hb
        have e5 : (!((c.e == 0) && ((c.v == 0) && true))) = true := by simpa using hb
        exact L_history_Sound_1_8 h0 h1 (call_at hk) (formed82 c m) f1 e2 e3 e4 (by exact e5)
      | true =>
        have e4 : (c.to == -1) = false := by simpa [bne] using e3
        rw [e3, e4] at hb
        have e5 : decide (c.to < c.fr) = true := by simpa using hb
        exact L_history_Sound_1_16 h0 h1 (call_at hk) (formed82 c m) f1 e2 e3 (by exact e5)
theorem good_of (hb : badC c = false) : opG c.op = true ∧ decide (c.fr < 0) = false ∧ ((c.to != -1) = true ∧ (c.to == -1) = false ∧ decide (c.to < c.fr) = false ∨ (c.to != -1) = false ∧ (c.to == -1) = true ∧ (!((c.e == 0) && ((c.v == 0) && true))) = false) := by
  unfold badC at hb
  simp only [Bool.or_eq_false_iff] at hb
  obtain ⟨h1, h2, h3, h4⟩ := hb
  refine ⟨by simpa using h1, h2, ?_⟩
  cases e3 : c.to != -1 with
  | false =>
    have e4 : (c.to == -1) = true := by simpa [bne] using e3
    rw [e4] at h4
    exact .inr ⟨rfl, e4, by simpa using h4⟩
  | true =>
    have e4 : (c.to == -1) = false := by simpa [bne] using e3
    rw [e3] at h3
    exact .inl ⟨rfl, e4, by simpa using h3⟩
include hlen in
theorem round_new (hk : xs[k]? = some c) (hb : badC c = false) (hm : m g 0 = some (.ents (ksC al) (vsC al))) (hf : al.find? (fun a => c.th == a.th) = none) :
    CodeOk Tryz.prog cS (LS xs g k m fr) .normal (LS xs g ((k + 1 : Nat) : Int) (updMu m g 0 [.ents (ksC (putL Ca.th c al)) (vsC (putL Ca.th c al))]) fr) := by
  obtain ⟨h0, h1, hw⟩ := round_in hlen hk
  obtain ⟨e1, e2, e3⟩ := good_of hb
  have f1 : (!(opG c.op)) = false := by rw [e1]; rfl
  have hl : lookD true zC (ksC al) (vsC al) .i64 c.th = some (.tup [zC, .bool false]) := by rw [look_L]; rw [hf]
  have hp := put_L Ca.th (fun c => .agg c.cs) c al
  rw [← hw]
  rcases e3 with ⟨e3, e4, e5⟩ | ⟨e3, e4, e5⟩
  · exact L_history_Sound_1_9 h0 h1 (call_at hk) (formed82 c m) f1 e2 e3 e5 e4 hm hl rfl hm (by exact hp)
  · exact L_history_Sound_1_5 h0 h1 (call_at hk) (formed82 c m) f1 e2 e3 e4 e5 hm hl rfl hm (by exact hp)
include hlen in
theorem round_old {b : Ca} (hk : xs[k]? = some c) (hb : badC c = false) (hm : m g 0 = some (.ents (ksC al) (vsC al))) (hf : al.find? (fun a => c.th == a.th) = some b) (ha : ahC b c = true) :
    CodeOk Tryz.prog cS (LS xs g k m fr) .normal (LS xs g ((k + 1 : Nat) : Int) (updMu m g 0 [.ents (ksC (putL Ca.th c al)) (vsC (putL Ca.th c al))]) fr) := by
  obtain ⟨h0, h1, hw⟩ := round_in hlen hk
  obtain ⟨e1, e2, e3⟩ := good_of hb
  have f1 : (!(opG c.op)) = false := by rw [e1]; rfl
  have hl : lookD true zC (ksC al) (vsC al) .i64 c.th = some (.tup [.agg b.cs, .bool true]) := by rw [look_L]; rw [hf]
  have hp := put_L Ca.th (fun c => .agg c.cs) c al
  have ac := ahead67 b c m
  rw [ha] at ac
  rw [← hw]
  rcases e3 with ⟨e3, e4, e5⟩ | ⟨e3, e4, e5⟩
  · exact L_history_Sound_1_10 h0 h1 (call_at hk) (formed82 c m) f1 e2 e3 e5 e4 hm hl rfl ac rfl hm (by exact hp)
  · exact L_history_Sound_1_6 h0 h1 (call_at hk) (formed82 c m) f1 e2 e3 e4 e5 hm hl rfl ac rfl hm (by exact hp)
include hlen in
theorem round_late {b : Ca} (hk : xs[k]? = some c) (hb : badC c = false) (hm : m g 0 = some (.ents (ksC al) (vsC al))) (hf : al.find? (fun a => c.th == a.th) = some b) (ha : ahC b c = false) :
    CodeOk Tryz.prog cS (LS xs g k m fr) .ret (LS xs g k m fr) := by
  obtain ⟨h0, h1, hw⟩ := round_in hlen hk
  obtain ⟨e1, e2, e3⟩ := good_of hb
  have f1 : (!(opG c.op)) = false := by rw [e1]; rfl
  have hl : lookD true zC (ksC al) (vsC al) .i64 c.th = some (.tup [.agg b.cs, .bool true]) := by rw [look_L]; rw [hf]
  have ac := ahead67 b c m
  rw [ha] at ac
  rcases e3 with ⟨e3, e4, e5⟩ | ⟨e3, e4, e5⟩
  · exact L_history_Sound_1_11 h0 h1 (call_at hk) (formed82 c m) f1 e2 e3 e5 e4 hm hl rfl ac (by exact rfl)
  · exact L_history_Sound_1_7 h0 h1 (call_at hk) (formed82 c m) f1 e2 e3 e4 e5 hm hl rfl ac (by exact rfl)
include hlen in
theorem loopH (g : Nat) (fr : List Nat) : ∀ (l : List Ca) (k : Nat) (al : List Ca) (m : Mu), xs.drop k = l → m g 0 = some (.ents (ksC al) (vsC al)) →
    ∃ (k' : Int) (m' : Mu), LoopOk Tryz.prog cS (LS xs g k m fr) (if soundH Ca.th ahC badC l al then .exit 0 else .ret) (LS xs g k' m' fr)
  | [], k, al, m, hd, hm => by
    have hk : xs.length ≤ k := List.drop_eq_nil_iff.1 hd
    exact ⟨k, m, .last (by simp [soundH]) (by
      show CodeOk Tryz.prog cS _ (if soundH Ca.th ahC badC [] al then .exit 0 else .ret) _
      rw [show soundH Ca.th ahC badC [] al = true from rfl, if_pos rfl]
      exact L_history_Sound_1_1 (decide_eq_false (by omega)))⟩
  | c :: l, k, al, m, hd, hm => by
    have hk : xs[k]? = some c := by
      have : (xs.drop k)[0]? = some c := by rw [hd]; rfl
      rw [List.getElem?_drop] at this; simpa using this
    have hd' : xs.drop (k + 1) = l := by rw [← List.drop_drop, hd]; rfl
    have hm' : ∀ (m : Mu) d, updMu m g 0 [d] g 0 = some d := fun m d => by simp [updMu]
    rcases Bool.eq_false_or_eq_true (badC c) with hb | hb
    · rw [sh_bad hb]
      exact ⟨k, m, .last (by simp) (by rw [if_neg (by simp)]; exact round_bad hlen hk hb)⟩
    · cases hf : al.find? (fun a => c.th == a.th) with
      | none =>
        rw [sh_new hb hf]
        obtain ⟨k', m', q⟩ := loopH g fr l (k + 1) (putL Ca.th c al) _ hd' (hm' m _)
        exact ⟨k', m', .step (round_new hlen hk hb hm hf) q⟩
      | some b =>
        rcases Bool.eq_false_or_eq_true (ahC b c) with ha | ha
        · rw [sh_old hb hf ha]
          obtain ⟨k', m', q⟩ := loopH g fr l (k + 1) (putL Ca.th c al) _ hd' (hm' m _)
          exact ⟨k', m', .step (round_old hlen hk hb hm hf ha) q⟩
        · rw [sh_late hb hf ha]
          exact ⟨k, m, .last (by simp) (by rw [if_neg (by simp)]; exact round_late hlen hk hb hm hf ha)⟩
include hlen in
theorem soundH_ok (m : Mu) (g : Nat) : ∃ m', CallOk Tryz.prog 66 [.slice (xs.flatMap Ca.cs) xs.length] m (.bool (soundH Ca.th ahC badC xs [])) m' false [g] := by
  obtain ⟨k', m', q⟩ := loopH hlen g (offUse [g] [g]) xs 0 [] (updMu m g 0 [.ents [] []]) rfl (by simp [updMu, ksL, vsL])
  have c : CodeOk Tryz.prog (codeAt [true, true, false, true, false] (Tryz.f66.body.getD .skip)) (LS xs g 0 (updMu m g 0 [.ents [] []]) (offUse [g] [g])) (if soundH Ca.th ahC badC xs [] then .exit 0 else .ret) (LS xs g k' m' (offUse [g] [g])) := by
    rw [L_history_Sound_1_loop]; exact q.code
  refine ⟨m', ?_⟩
  cases hs : soundH Ca.th ahC badC xs [] with
  | true => rw [hs, if_pos rfl] at c; exact f_history_Sound_1 (by simp) c
  | false => rw [hs, if_neg (by simp)] at c; exact f_history_Sound_2 (by simp) c
end
end Go.Proofs.YtpckjfncecoibaaGreat.Fun
