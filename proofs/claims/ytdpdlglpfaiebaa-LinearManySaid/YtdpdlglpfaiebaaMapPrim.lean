/- maps.Clone: what it makes of the area's empty map, and of a named one. -/
import Derived.Test.YtdpdlglpfaiebaaFunPrim
import Derived.Test.YtdpdlglpfaiebaaProg
import Derived.WalkKit
import Derived.Shelf.Lay
import Derived.Shelf.SlMaps.Clone
namespace Go.Proofs
open Go.Shelf
def Try.clone61_ren : Go.Shelf.Ren := ⟨fun | 5 => 61 | 7 => 85 | n => n, fun | 23 => 28 | 25 => 3 | 3 => 3 | 4 => 4 | 20 => 20 | n => n, fun | n => n⟩
theorem Try.clone61 : Go.Proofs.SlLaysW.n5 Try.prog Try.clone61_ren := {
  mixed := by kernel_rfl,
  f5 := ⟨Try.f61.name, by decide, Try.func61.trans (congrArg some (by kernel_rfl))⟩,
  f7 := Try.func85.trans (congrArg some (by kernel_rfl)),
  t4 := Try.underlying4,
  a4 := Try.isAgg4,
  z4 := Try.sizeOf4,
  v4 := Try.zeroValue4,
  t20 := Try.underlying20,
  a20 := Try.isAgg20,
  z20 := Try.sizeOf20,
  v20 := Try.zeroValue20,
  t23 := Try.underlying28,
  a23 := Try.isAgg28,
  z23 := Try.sizeOf28,
  v23 := Try.zeroValue28 }
def Try.clone66_ren : Go.Shelf.Ren := ⟨fun | 5 => 66 | 7 => 85 | n => n, fun | 23 => 27 | 25 => 35 | 3 => 125 | 4 => 4 | 20 => 20 | n => n, fun | n => n⟩
theorem Try.clone66 : Go.Proofs.SlLaysW.n5 Try.prog Try.clone66_ren := {
  mixed := by kernel_rfl,
  f5 := ⟨Try.f66.name, by decide, Try.func66.trans (congrArg some (by kernel_rfl))⟩,
  f7 := Try.func85.trans (congrArg some (by kernel_rfl)),
  t4 := Try.underlying4,
  a4 := Try.isAgg4,
  z4 := Try.sizeOf4,
  v4 := Try.zeroValue4,
  t20 := Try.underlying20,
  a20 := Try.isAgg20,
  z20 := Try.sizeOf20,
  v20 := Try.zeroValue20,
  t23 := Try.underlying27,
  a23 := Try.isAgg27,
  z23 := Try.sizeOf27,
  v23 := Try.zeroValue27 }
def Try.clone68_ren : Go.Shelf.Ren := ⟨fun | 5 => 68 | 7 => 85 | n => n, fun | 23 => 81 | 25 => 35 | 3 => 35 | 4 => 4 | 20 => 20 | n => n, fun | n => n⟩
theorem Try.clone68 : Go.Proofs.SlLaysW.n5 Try.prog Try.clone68_ren := {
  mixed := by kernel_rfl,
  f5 := ⟨Try.f68.name, by decide, Try.func68.trans (congrArg some (by kernel_rfl))⟩,
  f7 := Try.func85.trans (congrArg some (by kernel_rfl)),
  t4 := Try.underlying4,
  a4 := Try.isAgg4,
  z4 := Try.sizeOf4,
  v4 := Try.zeroValue4,
  t20 := Try.underlying20,
  a20 := Try.isAgg20,
  z20 := Try.sizeOf20,
  v20 := Try.zeroValue20,
  t23 := Try.underlying81,
  a23 := Try.isAgg81,
  z23 := Try.sizeOf81,
  v23 := Try.zeroValue81 }
end Go.Proofs
namespace Go.Proofs.Ytdpdlglpfaiebaa.Fun
open Go Go.RowKit Go.Shelf
set_option linter.unusedVariables false
set_option maxRecDepth 100000
/-- What a copy of a map is. -/
def cloneA : List DV → Mem → Option (DV × Mem)
  | [.mref n], .rows h => (match h[n]? with | some [.ents ks vs] => some (.mref h.length, .rows (h ++ [[.ents ks vs]])) | _ => none)
  | [.emap], .rows h => some (.mref h.length, .rows (h ++ [[.ents [] []]]))
  | _, _ => none
theorem cloneA_ok {f : FuncId} (he : ∃ fn, Try.prog.funcs[f]? = some fn ∧ (fn.name == "runtime.NumGoroutine") = false ∧ fn.body.isNone = false)
    (hc : ∀ (b : Nat) (es : Array MapEntry) (clock : Nat) (w : World), w.heap[b]? = some (.map es clock) → Calls Try.prog f #[.map (some b)] w fun e w' => e = .returned (.map (some w.heap.size)) ∧ w' = { w with heap := w.heap.push (.map es clock) })
    (args : List DV) (mem : Mem) (d : DV) (mem' : Mem) (h : cloneA args mem = some (d, mem')) : CallOk Try.prog f args mem.mu d mem'.mu false (names mem mem') ∧ mem.size ≤ mem'.size := by
  unfold cloneA at h
  split at h
  · rename_i n rows
    split at h
    · rename_i ks vs hrow
      cases h
      have hnm : names (.rows rows) (.rows (rows ++ [[.ents ks vs]])) = [rows.length] := by simp [names, Mem.size]
      refine ⟨?_, by simp [Mem.size]⟩
      rw [hnm]
      refine .ofNew he fun ρ S w args hnmd hn sane hmu hab => ?_
      obtain ⟨v, rest, rfl, hv, hr⟩ := hab.cons_inv
      cases hr.nil_inv
      simp only [Abs] at hv
      obtain ⟨p, hp, rfl⟩ := hv
      have hm : rowsMu rows n 0 = some (.ents ks vs) := by simp [rowsMu, hrow]
      obtain ⟨hS, es, cl, hh, hks, hvs⟩ := MuOk.ents (mu := rowsMu rows) hmu hm hp
      have hne : ∀ m b, ρ m = some b → m ≠ rows.length := fun m b hm he => by subst he; rw [hn] at hm; cases hm
      have hold : ∀ b, b < w.heap.size → (w.heap.push (Obj.map es cl))[b]? = w.heap[b]? := fun b hb => by rw [Array.getElem?_push, if_neg (by omega)]
      have hE : Ext ρ w (fun m => if m = rows.length then some w.heap.size else ρ m) { w with heap := w.heap.push (.map es cl) } := fun m b hm => ⟨(if_neg (hne m b hm)).trans hm, fun vs e fz hb => ⟨vs, by show (w.heap.push _)[b]? = _; rw [hold b (hnmd.lt m b hm)]; exact hb, rfl⟩⟩
      refine ⟨.map es cl, .map (some w.heap.size), hc p es cl w hh, fun b o hb => .inl ?_, fun o dd hd => ?_, ?_⟩
      · show rowsMu _ b o = rowsMu _ b o
        rw [rowsMu_app, updMu_get, if_neg (by rintro ⟨rfl, _⟩; exact hb rfl)]
      · replace hd : rowsMu (rows ++ [[.ents ks vs]]) rows.length o = some dd := hd
        simp only [rowsMu, List.getElem?_append_right (Nat.le_refl _), Nat.sub_self, List.getElem?_cons_zero, Option.bind_some] at hd
        cases o with
        | zero =>
          cases hd
          exact ⟨rfl, es, cl, by simp, AbsL.mono hE (fun b hb => hold b (sane b hb)) (fun _ h => h) _ _ hks, AbsL.mono hE (fun b hb => hold b (sane b hb)) (fun _ h => h) _ _ hvs⟩
        | succ o => simp at hd
      · simp only [Abs]; exact ⟨w.heap.size, by simp, rfl⟩
    · cases h
  · rename_i rows
    cases h
    have hnm : names (.rows rows) (.rows (rows ++ [[.ents [] []]])) = [rows.length] := by simp [names, Mem.size]
    refine ⟨?_, by simp [Mem.size]⟩
    rw [hnm]
    refine .ofNew he fun ρ S w args hnmd hn sane hmu hab => ?_
    obtain ⟨v, rest, rfl, hv, hr⟩ := hab.cons_inv
    cases hr.nil_inv
    simp only [Abs] at hv
    obtain ⟨p, rfl, _, hh⟩ := hv
    refine ⟨.map #[] 0, .map (some w.heap.size), hc p #[] 0 w hh, fun b o hb => .inl ?_, fun o dd hd => ?_, ?_⟩
    · show rowsMu _ b o = rowsMu _ b o
      rw [rowsMu_app, updMu_get, if_neg (by rintro ⟨rfl, _⟩; exact hb rfl)]
    · replace hd : rowsMu (rows ++ [[.ents [] []]]) rows.length o = some dd := hd
      simp only [rowsMu, List.getElem?_append_right (Nat.le_refl _), Nat.sub_self, List.getElem?_cons_zero, Option.bind_some] at hd
      cases o with
      | zero => cases hd; exact ⟨rfl, #[], 0, by simp, .nil, .nil⟩
      | succ o => simp at hd
    · simp only [Abs]; exact ⟨w.heap.size, by simp, rfl⟩
  · cases h
theorem clone61 (b : Nat) (es : Array MapEntry) (clock : Nat) (w : World) (hb : w.heap[b]? = some (.map es clock)) : Calls Try.prog 61 #[.map (some b)] w fun e w' => e = .returned (.map (some w.heap.size)) ∧ w' = { w with heap := w.heap.push (.map es clock) } := by
  have h := AnyW.maps_Clone Try.clone61 b es clock w hb
  change Calls Try.prog 61 _ _ _ at h
  exact h
theorem clone66 (b : Nat) (es : Array MapEntry) (clock : Nat) (w : World) (hb : w.heap[b]? = some (.map es clock)) : Calls Try.prog 66 #[.map (some b)] w fun e w' => e = .returned (.map (some w.heap.size)) ∧ w' = { w with heap := w.heap.push (.map es clock) } := by
  have h := AnyW.maps_Clone Try.clone66 b es clock w hb
  change Calls Try.prog 66 _ _ _ at h
  exact h
theorem clone68 (b : Nat) (es : Array MapEntry) (clock : Nat) (w : World) (hb : w.heap[b]? = some (.map es clock)) : Calls Try.prog 68 #[.map (some b)] w fun e w' => e = .returned (.map (some w.heap.size)) ∧ w' = { w with heap := w.heap.push (.map es clock) } := by
  have h := AnyW.maps_Clone Try.clone68 b es clock w hb
  change Calls Try.prog 68 _ _ _ at h
  exact h
theorem sclone_nil (w : World) : Calls Try.prog 48 #[.slice none 0 0] w fun e w' => e = .returned (.slice none 0 0) ∧ w' = w := by
  have q := fun (w : World) (a : Option Addr) (n c n' c' : Nat) => Lib.run_eql_slice_nil (P := Try.prog) w 50 _ a n c n' c' Try.underlying50
  go_enter Try.func48, Try.ntmps48
  go_wp2
  go_ret
  exact ⟨rfl, rfl⟩
theorem sclone_zero (w : World) (a : Addr) : Calls Try.prog 48 #[.slice (some a) 0 0] w fun e w' => ∃ a' o, e = .returned (.slice a' 0 0) ∧ w' = { w with heap := w.heap.push o } := by
  have q := fun (w : World) (a : Option Addr) (n c n' c' : Nat) => Lib.run_eql_slice_nil (P := Try.prog) w 50 _ a n c n' c' Try.underlying50
  go_enter Try.func48, Try.ntmps48
  go_wp2_with fail
  go_ret
  exact ⟨_, _, rfl, rfl⟩
/-- A copy of a row that is empty. -/
def scloneA : List DV → Mem → Option (DV × Mem)
  | [.nils], m => some (.nils, m)
  | _, _ => none
theorem scloneA_ok (args : List DV) (mem : Mem) (d : DV) (mem' : Mem) (h : scloneA args mem = some (d, mem')) : CallOk Try.prog 48 args mem.mu d mem'.mu false (names mem mem') ∧ mem.size ≤ mem'.size := by
  unfold scloneA at h
  split at h
  · cases h
    refine ⟨?_, Nat.le_refl _⟩
    rw [show names mem mem = [] by simp [names]]
    refine .ofPure ⟨Try.f48, Try.func48, by kernel_rfl, by kernel_rfl⟩ fun ρ S w vs hab => ?_
    obtain ⟨v, rest, rfl, hv, hr⟩ := hab.cons_inv
    cases hr.nil_inv
    simp only [Abs] at hv
    obtain ⟨a, rfl⟩ := hv
    cases a with
    | none => exact (sclone_nil w).mono fun e w' ⟨he, hw⟩ => ⟨_, he, .inl hw, by simp only [Abs]; exact ⟨none, rfl⟩⟩
    | some a => exact (sclone_zero w a).mono fun e w' ⟨a', o, he, hw⟩ => ⟨_, he, .inr ⟨o, hw⟩, by simp only [Abs]; exact ⟨a', rfl⟩⟩
  · cases h
def prims : Prims := fun f => if f = 61 ∨ f = 66 ∨ f = 68 then some cloneA else if f = 48 then some scloneA else none
theorem primsOk : PrimsOk Try.prog prims := fun f g args mem d mem' hf hg => by
  unfold prims at hf
  split at hf
  · rename_i h
    cases hf
    rcases h with rfl | rfl | rfl
    · exact cloneA_ok ⟨Try.f61, Try.func61, by kernel_rfl, by kernel_rfl⟩ clone61 args mem d mem' hg
    · exact cloneA_ok ⟨Try.f66, Try.func66, by kernel_rfl, by kernel_rfl⟩ clone66 args mem d mem' hg
    · exact cloneA_ok ⟨Try.f68, Try.func68, by kernel_rfl, by kernel_rfl⟩ clone68 args mem d mem' hg
  · split at hf
    · rename_i h
      subst h; cases hf
      exact scloneA_ok args mem d mem' hg
    · cases hf
end Go.Proofs.Ytdpdlglpfaiebaa.Fun
