import Derived.Test.YtkhjkfbgcpjphaaTE2
namespace Go.Proofs.Ytkhjkfbgcpjphaa.Fun
open Go
theorem callOk_rows {P : Program} {orc : Orc} (horc : OrcOk P orc) {f : FuncId} {ds : List DV} {d : DV} {h h' : List (List DV)} {wrote : Bool} (hr : (orc f ds (.rows h) []).map (fun r => (r.1, r.2.1, r.2.2.1, r.2.2.2.1, r.2.2.2.2.1)) = some (d, .rows h', false, wrote, [])) :
    CallOk P f ds (rowsMu h) d (rowsMu h') false (names (.rows h) (.rows h')) := by
  simp only [Option.map_eq_some_iff, Prod.mk.injEq] at hr
  obtain ⟨⟨d0, m0, di, wr, obs, sc⟩, ho, rfl, rfl, rfl, rfl, rfl⟩ := hr
  exact (horc _ _ _ _ _ _ _ _ _ _ ho (by simp)).1
namespace Auto
set_option linter.unusedVariables false
noncomputable def t3 : List (Known Try.prog) := ⟨9, [], .bool true, k9⟩ :: t2
def smSlice : DV := .slice [.int .i64 2, .int .i64 1, .int .i64 4, .int .i64 0, .int .i64 1, .int .i64 1] 1
/-- The house's memory. -/
def He (e : Int) (l : Bool) : List (List DV) :=
  [[.adr 3 0, .vec 2 0 1 7], [.int .i64 19], [.int .i64 2, .int .i64 1, .int .i64 4, .int .i64 0, .int .i64 1, .int .i64 1, .bool l], [.vec 6 0 1 1, .int .i64 3],
    [.int .u64 1, .int .u64 0, .int .u64 0, .int .u64 0, .int .u64 0, .int .u64 0, .int .u64 0, .int .u64 0, .int .u64 0, .int .u64 0, .int .u64 2, .int .u64 0, .int .u64 0, .int .u64 0, .int .u64 0, .int .u64 0, .int .u64 0, .int .u64 0, .int .u64 0],
    [.vec 4 0 19 1, .int .u64 e], [.adr 5 0]]
theorem c33 (m : Mu) : CallOk Try.prog 33 [] m sm m false [] :=
  callOk_deep_hide (deepK_ok tabOk mixed fnsOk t3 1000 20) (by kernel_rfl) rfl rfl m
theorem cNew : CallOk Try.prog 11 [smSlice] noMu (.tup [.adr 0 0, .int .i64 0]) (rowsMu (He 1 true)) false [0, 1, 2, 3, 4, 5, 6] := by
  have h := callOk_rows (f := 11) (ds := [smSlice]) (d := .tup [.adr 0 0, .int .i64 0]) (h := []) (h' := He 1 true) (wrote := true) (deepK_ok tabOk mixed fnsOk t3 1000 20) (by kernel_rfl)
  rwa [rowsMu_nil] at h
theorem cCap (e : Int) : CallOk Try.prog 28 [.adr 0 0, .int .i64 0] (rowsMu (He e true)) (.agg [.int .i64 0, .int .u64 e]) (rowsMu (He e true)) false [] :=
  callOk_rows (wrote := false) (deepK_ok tabOk mixed fnsOk t3 1000 20) (by kernel_rfl)
theorem cCapNo (e : Int) : CallOk Try.prog 28 [.adr 0 0, .int .i64 0] (rowsMu (He e false)) (.agg [.int .i64 0, .int .u64 0]) (rowsMu (He e false)) false [] :=
  callOk_rows (wrote := false) (deepK_ok tabOk mixed fnsOk t3 1000 20) (by kernel_rfl)
theorem cRevoke (e : Int) : CallOk Try.prog 29 [.adr 0 0, .int .i64 0] (rowsMu (He e true)) (.tup [.any, .int .i64 0]) (rowsMu (He (IntKind.u64.wrap (e + 1)) false)) false [] :=
  (callOk_rows (wrote := true) (d := .tup [.agg [.bool false, .int .i64 0, .int .i64 1, .int .i64 0, .int .u64 0, .int .u64 0, .func 97 [.any]], .int .i64 0]) (deepK_ok tabOk mixed fnsOk t3 1000 20) (by kernel_rfl)).under rfl
theorem cCreate (e : Int) : CallOk Try.prog 30 [.adr 0 0, .int .i64 0] (rowsMu (He e false)) (.int .i64 0) (rowsMu (He e true)) false [] :=
  callOk_rows (wrote := true) (deepK_ok tabOk mixed fnsOk t3 1000 20) (by kernel_rfl)
theorem cLive (e : Int) : CallOk Try.prog 32 [.adr 0 0, .int .i64 0] (rowsMu (He e true)) (.bool true) (rowsMu (He e true)) false [] :=
  callOk_rows (wrote := false) (deepK_ok tabOk mixed fnsOk t3 1000 20) (by kernel_rfl)
theorem cMemory (e : Int) : CallOk Try.prog 27 [.adr 0 0] (rowsMu (He e true)) (.adr 3 0) (rowsMu (He e true)) false [] :=
  callOk_rows (wrote := false) (deepK_ok tabOk mixed fnsOk t3 1000 20) (by kernel_rfl)
theorem cGood (e : Int) : CallOk Try.prog 31 [.adr 3 0, .agg [.int .i64 0, .int .u64 e]] (rowsMu (He e true)) (.bool (e == e)) (rowsMu (He e true)) false [] :=
  callOk_rows (wrote := false) (deepK_ok tabOk mixed fnsOk t3 1000 20) (by kernel_rfl)
end Auto
end Go.Proofs.Ytkhjkfbgcpjphaa.Fun
