/- HistoryTells: the law's call answers true and leaves what came in. -/
import Derived.Test.YtpckjfncecoibaaGreatHistRef
import Derived.Test.YtpckjfncecoibaaGreatLawRead
namespace Go.Proofs.YtpckjfncecoibaaGreat.Fun
set_option linter.unusedSimpArgs false
open Go
abbrev lvC : List Lf := [.int .i64, .int .i64, .int .i64, .int .i64, .int .u64, .int .u64, .int .u64, .int .i64, .int .i64, .int .i64, .int .u64]
theorem ca_of {r : List DV} (h : LfsHas lvC r) : ∃ c : Ca, r = c.cs := by
  simp only [lvC, LfsHas, LfHas] at h
  obtain ⟨_, _, rfl, ⟨a0, rfl, _⟩, _, _, rfl, ⟨a1, rfl, _⟩, _, _, rfl, ⟨a2, rfl, _⟩, _, _, rfl, ⟨a3, rfl, _⟩, _, _, rfl, ⟨a4, rfl, _⟩, _, _, rfl, ⟨a5, rfl, _⟩, _, _, rfl, ⟨a6, rfl, _⟩, _, _, rfl, ⟨a7, rfl, _⟩, _, _, rfl, ⟨a8, rfl, _⟩, _, _, rfl, ⟨a9, rfl, _⟩, _, _, rfl, ⟨a10, rfl, _⟩, rfl⟩ := h
  exact ⟨⟨a0, a1, a2, a3, a4, a5, a6, a7, a8, a9, a10⟩, rfl⟩
theorem cas_of : ∀ (rows : List (List DV)), (∀ r ∈ rows, LfsHas lvC r) → ∃ xs : List Ca, rows.flatten = xs.flatMap Ca.cs ∧ rows.length = xs.length
  | [], _ => ⟨[], rfl, rfl⟩
  | r :: rows, h => by
    obtain ⟨c, rfl⟩ := ca_of (h r (by simp))
    obtain ⟨xs, h1, h2⟩ := cas_of rows (fun r hr => h r (by simp [hr]))
    exact ⟨c :: xs, by simp [h1], by simp [h2]⟩
theorem calls_in {ds : List DV} (h : LfsHas [.row lvC] ds) : ∃ xs : List Ca, ds = [.slice (xs.flatMap Ca.cs) xs.length] := by
  simp only [LfsHas, LfHas] at h
  obtain ⟨_, _, rfl, ⟨rows, hr, rfl, _⟩, rfl⟩ := h
  obtain ⟨xs, h1, h2⟩ := cas_of rows hr
  exact ⟨xs, by rw [h1, h2]⟩
end Go.Proofs.YtpckjfncecoibaaGreat.Fun
namespace Go.Proofs.YtpckjfncecoibaaGreat.Pure
open Go Go.RowKit Go.Proofs.YtpckjfncecoibaaGreat.Fun
theorem HistoryTells (w : World) (b : Option Addr) (n c : Nat) (ds : List DV) (h : LfsHas [.row lvC] ds) (ha : AbsL (fun _ => none) (fun b => b < w.heap.size) w ds [.slice b n c]) :
    Calls Tryz.prog 12 #[.slice b n c] w fun e w' => e = .returned (.bool true) ∧ Below w.heap.size w w' := by
  obtain ⟨xs, rfl⟩ := calls_in h
  obtain ⟨m', q⟩ := tells_ok xs noMu 0
  exact calls_of_ok q ha
end Go.Proofs.YtpckjfncecoibaaGreat.Pure
