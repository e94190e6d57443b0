/- Programs that keep no memory of their own: good for so many steps. -/
import Derived.Test.YtkhjkfbgcpjphaaGreatRD23
import Derived.Test.YtkhjkfbgcpjphaaGreatFunWaysC
namespace Go.Proofs.YtkhjkfbgcpjphaaGreat.Fun
open Go Go.Proofs.YtkhjkfbgcpjphaaGreat.Fun.B Go.Proofs.YtkhjkfbgcpjphaaGreat.Fun.C
set_option linter.unusedVariables false
/-- A kind of programs: those that are over, and one with an access, as values. -/
structure Kn where
  O : DV → Prop
  S : Int → Int → Int → Int → FuncId → List DV → DV
def kI : Kn := ⟨fun v => ∃ r : Int, v = .agg [.bool true, .int .i64 r, .int .i64 0, .int .i64 0, .int .u64 0, .int .u64 0, .nilf], fun op a x y g c => .agg [.bool false, .int .i64 0, .int .i64 op, .int .i64 a, .int .u64 x, .int .u64 y, .func g c]⟩
def kB : Kn := ⟨fun v => ∃ r : Bool, v = .agg [.bool true, .bool r, .int .i64 0, .int .i64 0, .int .u64 0, .int .u64 0, .nilf], fun op a x y g c => .agg [.bool false, .bool false, .int .i64 op, .int .i64 a, .int .u64 x, .int .u64 y, .func g c]⟩
def kR : Kn := ⟨fun v => ∃ e w : Int, v = .agg [.bool true, .int .i64 e, .int .u64 w, .int .i64 0, .int .i64 0, .int .u64 0, .int .u64 0, .nilf], fun op a x y g c => .agg [.bool false, .int .i64 0, .int .u64 0, .int .i64 op, .int .i64 a, .int .u64 x, .int .u64 y, .func g c]⟩
def kG : Kn := ⟨fun v => ∃ p q e : Int, v = .agg [.bool true, .int .i64 p, .int .i64 q, .int .i64 e, .int .i64 0, .int .i64 0, .int .u64 0, .int .u64 0, .nilf], fun op a x y g c => .agg [.bool false, .int .i64 0, .int .i64 0, .int .i64 0, .int .i64 op, .int .i64 a, .int .u64 x, .int .u64 y, .func g c]⟩
/-- Of this kind, by its looks. -/
def Kn.Is (k : Kn) (pv : DV) : Prop := k.O pv ∨ ∃ op a x y g c, pv = k.S op a x y g c
/-- Good for n steps. -/
def Good (k : Kn) : Nat → DV → Prop
  | 0, pv => k.O pv ∨ ∃ op a x y g c, pv = k.S op a x y g c ∧ Wd x ∧ Wd y
  | n + 1, pv => k.O pv ∨ ∃ op a x y g c, pv = k.S op a x y g c ∧ Wd x ∧ Wd y ∧ ∀ w, Wd w → ∃ qv, (∀ m, CallOk Tryz.prog g (.int .u64 w :: c) m qv m false []) ∧ Good k n qv
/-- A call that comes to a good program, whatever the memory is. -/
def Gd (k : Kn) (n : Nat) (f : FuncId) (args : List DV) : Prop := ∃ pv, (∀ m, CallOk Tryz.prog f args m pv m false []) ∧ Good k n pv
theorem Good.is {k : Kn} : ∀ {n : Nat} {pv : DV}, Good k n pv → k.Is pv
  | 0, pv, h => by
    rcases h with h | ⟨op, a, x, y, g, c, h, _⟩
    · exact .inl h
    · exact .inr ⟨op, a, x, y, g, c, h⟩
  | n + 1, pv, h => by
    rcases h with h | ⟨op, a, x, y, g, c, h, _⟩
    · exact .inl h
    · exact .inr ⟨op, a, x, y, g, c, h⟩
theorem Good.down {k : Kn} : ∀ {n : Nat} {pv : DV}, Good k (n + 1) pv → Good k n pv
  | 0, pv, h => by
    rcases h with h | ⟨op, a, x, y, g, c, h, hx, hy, _⟩
    · exact .inl h
    · exact .inr ⟨op, a, x, y, g, c, h, hx, hy⟩
  | n + 1, pv, h => by
    rcases h with h | ⟨op, a, x, y, g, c, h, hx, hy, hn⟩
    · exact .inl h
    · refine .inr ⟨op, a, x, y, g, c, h, hx, hy, fun w hw => ?_⟩
      obtain ⟨qv, h1, h2⟩ := hn w hw
      exact ⟨qv, h1, h2.down⟩
theorem Good.le {k : Kn} {n m : Nat} {pv : DV} (h : Good k n pv) (hm : m ≤ n) : Good k m pv := by
  induction n with
  | zero => obtain rfl : m = 0 := by omega
            exact h
  | succ n ih =>
    by_cases e : m = n + 1
    · rw [e]; exact h
    · exact ih h.down (by omega)
theorem Gd.le {k : Kn} {n m : Nat} {f : FuncId} {args : List DV} (h : Gd k n f args) (hm : m ≤ n) : Gd k m f args := by
  obtain ⟨pv, h1, h2⟩ := h
  exact ⟨pv, h1, h2.le hm⟩
/-- A call that hands on what another one comes to. -/
theorem Gd.pass {k : Kn} {n : Nat} {f g : FuncId} {args args' : List DV} (h : Gd k n f args) (hp : ∀ pv, k.Is pv → ∀ m, CallOk Tryz.prog f args m pv m false [] → CallOk Tryz.prog g args' m pv m false []) : Gd k n g args' := by
  obtain ⟨pv, h1, h2⟩ := h
  exact ⟨pv, fun m => hp pv h2.is m (h1 m), h2⟩
/-- A program that is over. -/
theorem gdOver {k : Kn} {n : Nat} {f : FuncId} {args : List DV} {pv : DV} (hc : ∀ m, CallOk Tryz.prog f args m pv m false []) (ho : k.O pv) : Gd k n f args := by
  refine ⟨pv, hc, ?_⟩
  cases n with
  | zero => exact .inl ho
  | succ n => exact .inl ho
/-- A program with an access. -/
theorem gdStep {k : Kn} {n : Nat} {f g : FuncId} {args c : List DV} {op a x y : Int} (hc : ∀ m, CallOk Tryz.prog f args m (k.S op a x y g c) m false []) (hx : Wd x) (hy : Wd y) (next : ∀ w, Wd w → ∀ j, j < n → Gd k j g (.int .u64 w :: c)) : Gd k n f args := by
  refine ⟨_, hc, ?_⟩
  cases n with
  | zero => exact .inr ⟨op, a, x, y, g, c, rfl, hx, hy⟩
  | succ n => exact .inr ⟨op, a, x, y, g, c, rfl, hx, hy, fun w hw => next w hw n (by omega)⟩
/-- Then, of whatever kinds. -/
structure ThenOk (kA kB : Kn) (arg : DV → DV) (cs : DV → List DV) (T C : FuncId) : Prop where
  over : ∀ pv, kA.O pv → ∀ f c qv, kB.Is qv → ∀ m, CallOk Tryz.prog f (arg pv :: c) m qv m false [] → CallOk Tryz.prog T [pv, .func f c] m qv m false []
  step : ∀ op a x y g c f c' m, CallOk Tryz.prog T [kA.S op a x y g c, .func f c'] m (kB.S op a x y C [.ptr (cs (kA.S op a x y g c)), .ptr [.func f c']]) m false []
  clo : ∀ op a x y g c f c' w q qv, kA.Is q → kB.Is qv → ∀ m, CallOk Tryz.prog g (.int .u64 w :: c) m q m false [] → CallOk Tryz.prog T [q, .func f c'] m qv m false [] → CallOk Tryz.prog C [.int .u64 w, .ptr (cs (kA.S op a x y g c)), .ptr [.func f c']] m qv m false []
theorem thenGd {kA kB : Kn} {arg : DV → DV} {cs : DV → List DV} {T C : FuncId} (h : ThenOk kA kB arg cs T C) : ∀ (n : Nat) (pv : DV), Good kA n pv → ∀ (f : FuncId) (c : List DV), (∀ qv, kA.O qv → ∀ j, j ≤ n → Gd kB j f (arg qv :: c)) → Gd kB n T [pv, .func f c] := by
  intro n
  induction n with
  | zero =>
    intro pv hg f c hf
    rcases hg with ho | ⟨op, a, x, y, g, c', rfl, hx, hy⟩
    · exact (hf pv ho 0 (Nat.le_refl _)).pass fun qv hq m q => h.over pv ho f c qv hq m q
    · exact gdStep (h.step op a x y g c' f c) hx hy fun w hw j hj => by omega
  | succ n ih =>
    intro pv hg f c hf
    rcases hg with ho | ⟨op, a, x, y, g, c', rfl, hx, hy, hn⟩
    · exact (hf pv ho (n + 1) (Nat.le_refl _)).pass fun qv hq m q => h.over pv ho f c qv hq m q
    · refine gdStep (h.step op a x y g c' f c) hx hy fun w hw j hj => ?_
      obtain ⟨q, hq1, hq2⟩ := hn w hw
      have g1 := ih q hq2 f c fun qv ho j hj => hf qv ho j (by omega)
      exact (g1.le (by omega : j ≤ n)).pass fun qv hqv m hc => h.clo op a x y g c' f c w q qv hq2.is hqv m (hq1 m) hc
end Go.Proofs.YtkhjkfbgcpjphaaGreat.Fun
