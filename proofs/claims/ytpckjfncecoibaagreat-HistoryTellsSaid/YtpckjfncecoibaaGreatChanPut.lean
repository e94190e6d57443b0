/- inbox.Put with room, inbox.Take of what is there, or of nothing: one step of communication each (strings; 208, 212 = the functions' numbers; 357 the channel's type, 359 the box's, 310 the pointer's). -/
import Derived.Test.YtpckjfncecoibaaGreatProg
import Derived.Conc.LoneCalls
import Derived.Conc.LoneSelect
import Derived.KernelRfl
import Derived.Laws.Rows
namespace Go.Proofs.YtpckjfncecoibaaGreat.Fun
open Go Go.Conc Go.RowKit
set_option linter.unusedVariables false
set_option maxRecDepth 100000 in
theorem put_room (w : World) (p o c cap s r : Nat) (buf : Array Value) (x : ByteArray) (hp : w.cell? ⟨p, o, none⟩ = some (.chan (some c))) (hc : w.heap[c]? = some (.chan cap buf false s r false)) (hroom : buf.size < cap) :
    Calls Tryz.prog 208 #[.pointer (some ⟨p, o, none⟩), .string x] w fun e w' => e = .returned (.int .i64 0) ∧ w' = w.setChan c cap (buf.push (.string x)) false (s + 1) r false := by
  refine calls_of_loneTo fun cs => ?_
  have e : Frame.enter Tryz.prog 208 #[.pointer (some ⟨p, o, none⟩), .string x] .normal = (base 208).at ⟨#[.pointer (some ⟨p, o, none⟩), .string x, undef, undef, undef, undef, undef, undef, undef, undef, undef, undef, undef], []⟩ [.code (Tryz.f208.body.getD .skip)] := by
    simp [Frame.enter, Frame.at, Tryz.func208, base, Tryz.f208]
  rw [e]
  refine LoneTo.goes (n := 25) ?_
  simp only [Tryz.f208, Option.getD_some]
  s_c stepG_seq
  s_reg
  s_op
  s_c stepG_region_end
  s_c stepG_seq
  s_c stepG_seq
  s_reg
  s_op
  s_op
  s_op
  s_op
  s_c stepG_region_end
  s_reg
  s_op
  s_c stepG_region_end
  s_c stepG_seq
  s_reg
  s_stop
  refine LoneTo.step (step_lone_select_send_room (c := c) (v := .string x) (z' := .string ⟨#[]⟩) (stepG_comm (cases := #[scase c (.string x) (.string ⟨#[]⟩)]) (blocking := false) (shape := .select) (w' := w) rfl rfl (by decide) (by simp [go_sem, execOp, scase, Act.eval])) hc hroom) ?_
  rw [Frame.finish_at]
  walk_nrm
  refine LoneTo.goes (n := 17) ?_
  s_op
  s_op
  s_c stepG_region_end
  s_c stepG_block
  s_cond true
  s_c stepG_seq
  s_reg
  s_op
  s_c stepG_region_end
  s_c stepG_ret'
  s_stop
  exact LoneTo.done ⟨.returned (.int .i64 0), _, rfl, ⟨rfl, rfl⟩, rfl, rfl, rfl, rfl, _, Tryz.func208, by simp [results, Tryz.f208, Frame.at]⟩
set_option maxRecDepth 100000 in
theorem put_full (w : World) (p o c cap s r : Nat) (buf : Array Value) (x : ByteArray) (hp : w.cell? ⟨p, o, none⟩ = some (.chan (some c))) (hc : w.heap[c]? = some (.chan cap buf false s r false)) (hfull : cap ≤ buf.size) :
    Calls Tryz.prog 208 #[.pointer (some ⟨p, o, none⟩), .string x] w fun e w' => e = .returned (.int .i64 8) ∧ w' = w := by
  refine calls_of_loneTo fun cs => ?_
  have e : Frame.enter Tryz.prog 208 #[.pointer (some ⟨p, o, none⟩), .string x] .normal = (base 208).at ⟨#[.pointer (some ⟨p, o, none⟩), .string x, undef, undef, undef, undef, undef, undef, undef, undef, undef, undef, undef], []⟩ [.code (Tryz.f208.body.getD .skip)] := by
    simp [Frame.enter, Frame.at, Tryz.func208, base, Tryz.f208]
  rw [e]
  refine LoneTo.goes (n := 25) ?_
  simp only [Tryz.f208, Option.getD_some]
  s_c stepG_seq
  s_reg
  s_op
  s_c stepG_region_end
  s_c stepG_seq
  s_c stepG_seq
  s_reg
  s_op
  s_op
  s_op
  s_op
  s_c stepG_region_end
  s_reg
  s_op
  s_c stepG_region_end
  s_c stepG_seq
  s_reg
  s_stop
  refine LoneTo.step (step_lone_select_send_full (c := c) (v := .string x) (z' := .string ⟨#[]⟩) (stepG_comm (cases := #[scase c (.string x) (.string ⟨#[]⟩)]) (blocking := false) (shape := .select) (w' := w) rfl rfl (by decide) (by simp [go_sem, execOp, scase, Act.eval])) hc hfull) ?_
  rw [Frame.finish_at]
  walk_nrm
  refine LoneTo.goes (n := 17) ?_
  s_op
  s_op
  s_c stepG_region_end
  s_c stepG_block
  s_cond false
  s_c stepG_seq
  s_reg
  s_op
  s_c stepG_region_end
  s_c stepG_ret'
  s_stop
  exact LoneTo.done ⟨.returned (.int .i64 8), _, rfl, ⟨rfl, rfl⟩, rfl, rfl, rfl, rfl, _, Tryz.func208, by simp [results, Tryz.f208, Frame.at]⟩
set_option maxRecDepth 100000 in
theorem take_some (w : World) (p o c cap s r : Nat) (buf : Array Value) (x : Value) (hp : w.cell? ⟨p, o, none⟩ = some (.chan (some c))) (hc : w.heap[c]? = some (.chan cap buf false s r false)) (hsome : 0 < buf.size) (hx : buf.getD 0 undef = x) :
    Calls Tryz.prog 212 #[.pointer (some ⟨p, o, none⟩)] w fun e w' => e = .returned (.tuple #[x, .bool true]) ∧ w' = w.setChan c cap (buf.extract 1 buf.size) false s (r + 1) false := by
  refine calls_of_loneTo fun cs => ?_
  have e : Frame.enter Tryz.prog 212 #[.pointer (some ⟨p, o, none⟩)] .normal = (base 212).at ⟨#[.pointer (some ⟨p, o, none⟩), undef, undef, undef, undef, undef, undef, undef, undef, undef, undef, undef, undef, undef, undef, undef], []⟩ [.code (Tryz.f212.body.getD .skip)] := by
    simp [Frame.enter, Frame.at, Tryz.func212, base, Tryz.f212]
  rw [e]
  refine LoneTo.goes (n := 25) ?_
  simp only [Tryz.f212, Option.getD_some]
  s_c stepG_seq
  s_reg
  s_op
  s_op
  s_c stepG_region_end
  s_c stepG_seq
  s_reg
  s_op
  s_op
  s_op
  s_op
  s_c stepG_region_end
  s_c stepG_seq
  s_reg
  s_stop
  refine LoneTo.step (step_lone_select_recv_buf (c := c) (z := .string ⟨#[]⟩) (stepG_comm (cases := #[rcase c (.string ⟨#[]⟩)]) (blocking := false) (shape := .select) (w' := w) rfl rfl (by decide) (by simp [go_sem, execOp, rcase, Act.eval])) hc hsome) ?_
  rw [hx, Frame.finish_at]
  walk_nrm
  refine LoneTo.goes (n := 25) ?_
  s_op
  s_op
  s_c stepG_region_end
  s_c stepG_block
  s_cond true
  s_c stepG_seq
  s_reg
  s_op
  s_op
  s_c stepG_region_end
  s_c stepG_seq
  s_reg
  s_op
  s_op
  s_op
  s_c stepG_region_end
  s_c stepG_ret'
  s_stop
  exact LoneTo.done ⟨.returned (.tuple #[x, .bool true]), _, rfl, ⟨rfl, rfl⟩, rfl, rfl, rfl, rfl, _, Tryz.func212, by simp [results, Tryz.f212, Frame.at]⟩
set_option maxRecDepth 100000 in
theorem take_none (w : World) (p o c cap s r : Nat) (hp : w.cell? ⟨p, o, none⟩ = some (.chan (some c))) (hc : w.heap[c]? = some (.chan cap #[] false s r false)) :
    Calls Tryz.prog 212 #[.pointer (some ⟨p, o, none⟩)] w fun e w' => e = .returned (.tuple #[.string ⟨#[]⟩, .bool false]) ∧ w' = w := by
  refine calls_of_loneTo fun cs => ?_
  have e : Frame.enter Tryz.prog 212 #[.pointer (some ⟨p, o, none⟩)] .normal = (base 212).at ⟨#[.pointer (some ⟨p, o, none⟩), undef, undef, undef, undef, undef, undef, undef, undef, undef, undef, undef, undef, undef, undef, undef], []⟩ [.code (Tryz.f212.body.getD .skip)] := by
    simp [Frame.enter, Frame.at, Tryz.func212, base, Tryz.f212]
  rw [e]
  refine LoneTo.goes (n := 25) ?_
  simp only [Tryz.f212, Option.getD_some]
  s_c stepG_seq
  s_reg
  s_op
  s_op
  s_c stepG_region_end
  s_c stepG_seq
  s_reg
  s_op
  s_op
  s_op
  s_op
  s_c stepG_region_end
  s_c stepG_seq
  s_reg
  s_stop
  refine LoneTo.step (step_lone_select_default (c := c) (z := .string ⟨#[]⟩) (stepG_comm (cases := #[rcase c (.string ⟨#[]⟩)]) (blocking := false) (shape := .select) (w' := w) rfl rfl (by decide) (by simp [go_sem, execOp, rcase, Act.eval])) hc) ?_
  rw [Frame.finish_at]
  walk_nrm
  refine LoneTo.goes (n := 25) ?_
  s_op
  s_op
  s_c stepG_region_end
  s_c stepG_block
  s_cond false
  s_c stepG_seq
  s_reg
  s_op
  s_c stepG_region_end
  s_c stepG_seq
  s_reg
  s_op
  s_op
  s_op
  s_c stepG_region_end
  s_c stepG_ret'
  s_stop
  exact LoneTo.done ⟨.returned (.tuple #[.string ⟨#[]⟩, .bool false]), _, rfl, ⟨rfl, rfl⟩, rfl, rfl, rfl, rfl, _, Tryz.func212, by simp [results, Tryz.f212, Frame.at]⟩
end Go.Proofs.YtpckjfncecoibaaGreat.Fun
