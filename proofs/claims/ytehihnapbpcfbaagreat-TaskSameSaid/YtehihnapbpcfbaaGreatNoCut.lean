/- Programs with fuel enough aren't cut within so many accesses. -/
import Derived.Test.YtehihnapbpcfbaaGreatDenT
namespace Go.Proofs.YtehihnapbpcfbaaGreat.Fun
open Go
set_option linter.unusedVariables false
/-- It isn't cut within k accesses. -/
def NC {R : Type} : Nat → LP R → Prop
  | _, .cut => False
  | _, .done _ => True
  | 0, .acc _ _ _ _ _ => True
  | k + 1, .acc _ _ _ _ f => ∀ x, NC k (f x)
section
variable {R A B : Type}
theorem NC.done {k : Nat} {r : R} : NC k (.done r) := by cases k <;> trivial
theorem NC.acc {k : Nat} {op a x y : Int} {f : Int → LP R} (h : ∀ v, 0 < k → NC (k - 1) (f v)) : NC k (.acc op a x y f) := by
  cases k with
  | zero => trivial
  | succ k => exact fun v => h v (Nat.succ_pos k)
theorem NC.ite {k : Nat} {b : Bool} {t u : LP R} (ht : b = true → NC k t) (hu : b = false → NC k u) : NC k (cond b t u) := by
  cases b
  · exact hu rfl
  · exact ht rfl
theorem NC.down {t : LP R} : ∀ {k : Nat}, NC (k + 1) t → NC k t := by
  induction t with
  | done r => exact fun _ => .done
  | cut => exact fun {k} h => by cases k <;> exact h
  | acc op a x y f ih =>
    exact fun {k} h => .acc fun v hk => by
      obtain ⟨j, rfl⟩ : ∃ j, k = j + 1 := ⟨k - 1, by omega⟩
      exact ih v (h v)
theorem NC.mono {t : LP R} {k j : Nat} (h : NC k t) (hj : j ≤ k) : NC j t := by
  induction k with
  | zero => rw [Nat.le_zero.1 hj]; exact h
  | succ k ih =>
    by_cases e : j = k + 1
    · rw [e]; exact h
    · exact ih h.down (by omega)
theorem NC.bind {f : A → LP B} : ∀ {t : LP A} {k : Nat}, NC k t → (∀ r, NC k (f r)) → NC k (t.bind f) := by
  intro t
  induction t with
  | done r => exact fun _ h => h r
  | cut => exact fun {k} h _ => by cases k <;> exact h.elim
  | acc op a x y g ih =>
    exact fun {k} h hf => .acc fun v hk => by
      obtain ⟨j, rfl⟩ : ∃ j, k = j + 1 := ⟨k - 1, by omega⟩
      exact ih v (h v) fun r => (hf r).down
end
section
variable (p : Pl)
theorem nc_pop : ∀ {n k : Nat}, k + 1 ≤ n → NC k (popL p n)
  | 0, _, h => by omega
  | n + 1, k, h => .acc fun _ _ => .ite (fun _ => .done) fun _ => .acc fun _ _ => .acc fun _ _ => .ite (fun _ => nc_pop (by omega)) fun _ => .done
theorem nc_push (x : Int) : ∀ {n k : Nat}, k + 1 ≤ n → NC k (pushL p x n)
  | 0, _, h => by omega
  | n + 1, k, h => .ite (fun _ => .done) fun _ => .acc fun _ _ => .acc fun _ _ => .acc fun _ _ => .ite (fun _ => nc_push x (by omega)) fun _ => .done
theorem nc_hset (t i x : Int) {k : Nat} : NC k (hset p t i x) := .acc fun _ _ => .done
theorem nc_clear (t : Int) {k : Nat} : NC k (clearL p t) := .bind (nc_hset p _ _ _) fun _ => .bind (nc_hset p _ _ _) fun _ => .bind (nc_hset p _ _ _) fun _ => .done
theorem nc_held (x : Int) : ∀ {n k : Nat} {i : Int}, k + 1 ≤ n → NC k (heldL p x n i)
  | 0, _, _, h => by omega
  | n + 1, k, i, h => .ite (fun _ => .done) fun _ => .acc fun _ _ => .ite (fun _ => .done) fun _ => nc_held x (by omega)
theorem nc_guarded (t i a s : Int) : ∀ {n k : Nat} {w : Int}, k + 1 ≤ n → NC k (guardedL p t i a s n w)
  | 0, _, _, h => by omega
  | n + 1, k, w, h => .ite (fun _ => .done) fun _ => .bind (nc_hset p _ _ _) fun _ => .acc fun _ _ => .ite (fun _ => .done) fun _ => nc_guarded t i a s (by omega)
theorem nc_guard (t i a s : Int) {n k : Nat} (h : k ≤ n) : NC k (guardL p t i a s n) := .acc fun _ _ => nc_guarded p t i a s (by omega)
theorem nc_rput (t x : Int) {k : Nat} : NC k (rputL p t x) := .acc fun _ _ => .ite (fun _ => .done) fun _ => .acc fun _ _ => .acc fun _ _ => .done
theorem nc_reclaim (x : Int) {n k : Nat} (h : k + 1 ≤ n) : NC k (reclaimL p n x) := .acc fun _ _ => .acc fun _ _ => .acc fun _ _ => .acc fun _ _ => .acc fun _ _ => .ite (fun _ => .done) fun _ => nc_push p x (by omega)
theorem nc_gone (t l : Int) {r go : LP Int} {k : Nat} (hr : 0 < k → NC (k - 1) r) (hg : 0 < k → NC (k - 1) go) : NC k (goneL p t l r go) := .acc fun _ hk => .bind (hr hk) fun _ => hg hk
theorem nc_scanned (t : Int) : ∀ {n k : Nat} {s : Scn}, k + 1 ≤ n → NC k (scannedL p t n s)
  | 0, _, _, h => by omega
  | n + 1, k, s, h => .ite (fun _ => .done) fun _ => .acc fun _ _ => .ite (fun _ => nc_scanned t (by omega)) fun _ => .ite (fun _ => nc_scanned t (by omega)) fun _ =>
      .bind (nc_held p _ (by omega)) fun b => .ite (fun _ => nc_scanned t (by omega)) fun _ => .ite (fun _ => nc_gone p _ _ (fun _ => nc_reclaim p _ (by omega)) fun _ => nc_scanned t (by omega))
        fun _ => .acc fun _ _ => .acc fun _ _ => nc_gone p _ _ (fun _ => nc_reclaim p _ (by omega)) fun _ => nc_scanned t (by omega)
theorem nc_scan (t : Int) {n k : Nat} (h : k + 1 ≤ n) : NC k (scanL p n t) := .acc fun _ _ => nc_scanned p t (by omega)
theorem nc_grant (x kind : Int) {k : Nat} : NC k (grantL p x kind) := .acc fun _ _ => .acc fun _ _ => .done
theorem nc_anew (t kind : Int) {n k : Nat} (h : k + 1 ≤ n) : NC k (anewL p n t kind) := .bind (nc_pop p h) fun _ => .ite (fun _ => nc_grant p _ _) fun _ => .bind (nc_scan p _ h) fun _ => .bind (nc_pop p h) fun _ => .ite (fun _ => .done) fun _ => nc_grant p _ _
theorem nc_stash (t x : Int) {n k : Nat} (h : k + 1 ≤ n) : NC k (stashL p n t x) := .bind (nc_rput p _ _) fun _ => .ite (fun _ => .done) fun _ => .bind (nc_scan p _ h) fun _ => .bind (nc_rput p _ _) fun _ => .ite (fun _ => .done) fun _ => .done
theorem nc_aretire (t x : Int) {n k : Nat} (h : k + 1 ≤ n) : NC k (aretireL p n t x) := .acc fun _ _ => .acc fun _ _ => nc_stash p _ _ (by omega)
end
section
variable (s : Se)
theorem nc_new {n k : Nat} (h : k + 1 ≤ n) : NC k (newL s n) := .ite (fun _ => .done) fun _ => .bind (nc_anew s.qP _ _ h) fun _ => .ite (fun _ => .done) fun _ => .done
theorem nc_drop (w : Int) {n k : Nat} (h : k + 1 ≤ n) : NC k (dropL s n w) := .ite (fun _ => .done) fun _ => .ite (fun _ => .done) fun _ => .acc fun _ _ => .ite (fun _ => .done) fun _ => .acc fun _ _ => .ite (fun _ => .done) fun _ => .bind (nc_stash s.qP _ _ (by omega)) fun _ => .done
theorem nc_hleave (r : Re) {k : Nat} : NC k (hleaveL s r) := .bind (nc_hset s.qP _ _ _) fun _ => .done
theorem nc_look (w f : Int) {go : Int → (Int → LP Re) → LP Re} (hg : ∀ (j : Nat) a (nx : Int → LP Re), (∀ v, NC j (nx v)) → NC j (go a nx)) {k : Nat} : NC k (lookL s w f go) :=
  .ite (fun _ => .done) fun _ => .ite (fun _ => .done) fun _ => .ite (fun _ => .done) fun _ => .ite (fun _ => .done) fun _ => .acc fun _ _ => .ite (fun _ => .done) fun _ => .bind (nc_hset s.qP _ _ _) fun _ => .acc fun _ _ =>
    .ite (fun _ => nc_hleave s _) fun _ => hg _ _ _ fun _ => nc_hleave s _
theorem nc_read (w f : Int) {k : Nat} : NC k (readL s w f) := nc_look s w f fun j a nx h => .acc fun v _ => (h v).mono (by omega)
theorem nc_write (w f v : Int) {k : Nat} : NC k (writeL s w f v) := nc_look s w f fun j a nx h => .acc fun _ _ => (h 0).mono (by omega)
theorem nc_swap (w f a b : Int) {k : Nat} : NC k (swapL s w f a b) := nc_look s w f fun j at_ nx h => .acc fun _ _ => .ite (fun _ => (h 1).mono (by omega)) fun _ => (h 0).mono (by omega)
end
section
variable (q : Wh)
theorem nc_granted {n k : Nat} (h : k + 1 ≤ n) {next : Int → LP Re} (hn : ∀ x, NC k (next x)) : NC k (grantedL q n next) := .bind (nc_anew q.p _ _ h) fun _ => .ite (fun _ => .done) fun _ => hn _
theorem nc_qset (i x : Int) {next : LP Re} {k : Nat} (h : NC k next) : NC k (qsetL q i x next) := .bind (nc_hset q.p _ _ _) fun _ => h
theorem nc_qmake {n k : Nat} (h : k + 1 ≤ n) : NC k (qmakeL q n) := nc_granted q h fun _ => .acc fun _ _ => .acc fun _ _ => .done
theorem nc_qput (x : Int) : ∀ {n k : Nat}, k + 1 ≤ n → NC k (qputL q x n)
  | 0, _, h => by omega
  | n + 1, k, h => .bind (nc_guard q.p _ _ _ _ (by omega)) fun _ => .acc fun _ _ => .acc fun _ _ => .ite (fun _ => nc_qput x (by omega)) fun _ => .ite (fun _ => .acc fun _ _ => nc_qput x (by omega)) fun _ =>
      .acc fun _ _ => .ite (fun _ => nc_qput x (by omega)) fun _ => .acc fun _ _ => nc_qset q _ _ .done
theorem nc_enq (v : Int) {n k : Nat} (h : k + 1 ≤ n) : NC k (enqL q n v) := nc_granted q h fun _ => .acc fun _ _ => nc_qput q _ (by omega)
theorem nc_qleave {next : LP Re} {k : Nat} (h : NC k next) : NC k (qleaveL q next) := nc_qset q _ _ (nc_qset q _ _ h)
theorem nc_take : ∀ {n k : Nat}, k + 1 ≤ n → NC k (takeL q n)
  | 0, _, h => by omega
  | n + 1, k, h => .bind (nc_guard q.p _ _ _ _ (by omega)) fun _ => .acc fun _ _ => .acc fun _ _ => nc_qset q _ _ (.acc fun _ _ => .ite (fun _ => nc_take (by omega)) fun _ => .ite (fun _ => nc_qleave q .done) fun _ =>
      .ite (fun _ => .acc fun _ _ => nc_take (by omega)) fun _ => .acc fun _ _ => .acc fun _ _ => .ite (fun _ => nc_take (by omega)) fun _ => nc_qleave q (.bind (nc_aretire q.p _ _ (by omega)) fun _ => .done))
end
theorem nc_lset (f : Wk) (i x : Int) {next : LP Wk} {k : Nat} (h : NC k next) : NC k (lsetL f i x next) := .bind (nc_hset f.p _ _ _) fun _ => h
theorem nc_walk : ∀ {n k : Nat} {f : Wk}, (k + 2 ≤ n → NC k (walkL n false f)) ∧ (k + 1 ≤ n → NC k (walkL n true f))
  | 0, _, _ => ⟨fun h => by omega, fun h => by omega⟩
  | n + 1, k, f => ⟨fun h => .bind (nc_guard f.p _ _ _ _ (by omega)) fun _ => nc_walk.2 (by omega),
    fun h => .ite (fun _ => .done) fun _ => .acc fun _ _ => nc_lset f _ _ (.acc fun _ _ => .ite (fun _ => nc_walk.1 (by omega)) fun _ => .acc fun _ _ => .acc fun _ _ => .ite (fun _ => nc_walk.1 (by omega)) fun _ =>
      .ite (fun _ => .acc fun _ _ => .ite (fun _ => nc_walk.1 (by omega)) fun _ => .bind (nc_aretire f.p _ _ (by omega)) fun _ => nc_lset f _ _ (nc_walk.2 (by omega))) fun _ =>
        .ite (fun _ => .done) fun _ => nc_lset f _ _ (nc_lset f _ _ (nc_walk.2 (by omega))))⟩
theorem nc_find (s : Se) (c x : Int) {n k : Nat} (h : k + 2 ≤ n) : NC k (findL s c x n) := nc_walk.1 h
section
variable (s : Se)
theorem nc_leave (r : Re) {k : Nat} : NC k (leaveL s r) := .bind (nc_clear s.qP _) fun _ => .done
theorem nc_put (c x nd : Int) : ∀ {n k : Nat}, k + 3 ≤ n → NC k (putL s c x nd n)
  | 0, _, h => by omega
  | n + 1, k, h => .bind (nc_find s _ _ (by omega)) fun f => .ite (fun _ => .bind (nc_clear s.qP _) fun _ => .bind (nc_reclaim s.qP _ (by omega)) fun _ => .done) fun _ =>
      .acc fun _ _ => .acc fun _ _ => .ite (fun _ => nc_put c x nd (by omega)) fun _ => nc_leave s _
theorem nc_ladd (c x v : Int) {n k : Nat} (h : k + 3 ≤ n) : NC k (laddL s c x v n) := .bind (nc_anew s.qP _ _ (by omega)) fun _ => .ite (fun _ => .done) fun _ => .acc fun _ _ => .acc fun _ _ => nc_put s _ _ _ (by omega)
theorem nc_lget (c x : Int) {n k : Nat} (h : k + 3 ≤ n) : NC k (lgetL s c x n) := .bind (nc_find s _ _ (by omega)) fun _ => .ite (fun _ => nc_leave s _) fun _ => .acc fun _ _ => nc_leave s _
theorem nc_ldel (c x : Int) : ∀ {n k : Nat}, k + 3 ≤ n → NC k (ldelL s c x n)
  | 0, _, h => by omega
  | n + 1, k, h => .bind (nc_find s _ _ (by omega)) fun f => .ite (fun _ => nc_leave s _) fun _ => .acc fun _ _ => .acc fun _ _ => .ite (fun _ => nc_ldel c x (by omega)) fun _ =>
      .acc fun _ _ => .ite (fun _ => .bind (nc_aretire s.qP _ _ (by omega)) fun _ => nc_leave s _) fun _ => .bind (nc_walk.1 (by omega)) fun _ => nc_leave s _
theorem nc_named (kind d : Int) {k : Nat} : NC k (namedL s kind d) := .acc fun _ _ => .done
theorem nc_claim (kind : Int) : ∀ {n k : Nat} {d : Int}, k + 1 ≤ n → NC k (claimL s kind n d)
  | 0, _, _, h => by omega
  | n + 1, k, d, h => .ite (fun _ => .done) fun _ => .acc fun _ _ => .ite (fun _ => nc_claim kind (by omega)) fun _ => .acc fun _ _ => .ite (fun _ => nc_claim kind (by omega)) fun _ =>
      .ite (fun _ => nc_named s _ _) fun _ => .bind (nc_qmake _ (by omega)) fun _ => .ite (fun _ => .acc fun _ _ => .done) fun _ => nc_named s _ _
theorem nc_use1 (d kind : Int) {t : LP Re} {k : Nat} (h : 0 < k → NC (k - 1) t) : NC k (use1 s d kind t) := .ite (fun _ => .done) fun _ => .acc fun _ hk => .ite (fun _ => .done) fun _ => h hk
theorem nc_use (o : Ope) {n k : Nat} (h : k + 3 ≤ n) : NC k (useL s o n) :=
  .ite (fun _ => nc_use1 s _ _ fun _ => nc_enq _ _ (by omega)) fun _ => .ite (fun _ => nc_use1 s _ _ fun _ => nc_take _ (by omega)) fun _ => .ite (fun _ => nc_use1 s _ _ fun _ => nc_ladd s _ _ _ (by omega)) fun _ =>
  .ite (fun _ => nc_use1 s _ _ fun _ => nc_lget s _ _ (by omega)) fun _ => .ite (fun _ => nc_use1 s _ _ fun _ => nc_ldel s _ _ (by omega)) fun _ => .done
/-- An operation, with fuel for so many accesses. -/
theorem nc_do (o : Ope) {n k : Nat} (h : k + 3 ≤ n) : NC k (doL s o n) :=
  .ite (fun _ => .done) fun _ => .ite (fun _ => nc_new s (by omega)) fun _ => .ite (fun _ => nc_drop s _ (by omega)) fun _ => .ite (fun _ => nc_read s _ _) fun _ => .ite (fun _ => nc_write s _ _ _) fun _ => .ite (fun _ => nc_swap s _ _ _ _) fun _ =>
  .ite (fun _ => nc_claim s _ (by omega)) fun _ => .ite (fun _ => nc_claim s _ (by omega)) fun _ => nc_use s o h
end
end Go.Proofs.YtehihnapbpcfbaaGreat.Fun
