/- FieldApart: what is put into two fields without a common bit may be put in either order. -/
import Derived.Test.YtdmenimdhcicjaaGFieldApart
import Derived.Test.YtdmenimdhcicjaaFunWays
import Derived.Test.YtdmenimdhcicjaaFunExt
import Derived.Test.YtdmenimdhcicjaaFunLaw
namespace Go.Proofs.Ytdmenimdhcicjaa.Pure
open Go Go.RowKit Go.Proofs.Ytdmenimdhcicjaa.PFieldApart Go.Proofs.Ytdmenimdhcicjaa.FFieldApart Go.Proofs.Ytdmenimdhcicjaa.GFieldApart Go.Proofs.Ytdmenimdhcicjaa.FB Go.Proofs.Ytdmenimdhcicjaa.FL Go.Proofs.Ytdmenimdhcicjaa.Fun Go.Proofs.YtdmenimdhcicjaaW.PrintWords
set_option linter.unusedVariables false
theorem is5 : IsFn Try.prog 5 := ⟨_, Try.func5, by kernel_rfl, by kernel_rfl⟩
theorem is6 : IsFn Try.prog 6 := ⟨_, Try.func6, by kernel_rfl, by kernel_rfl⟩
theorem is7 : IsFn Try.prog 7 := ⟨_, Try.func7, by kernel_rfl, by kernel_rfl⟩
theorem is8 : IsFn Try.prog 8 := ⟨_, Try.func8, by kernel_rfl, by kernel_rfl⟩
theorem awakeOk (m : Mu) : CallOk Try.prog 5 [] m (.bool true) m false [] :=
  callOk_flat is5 (vs := []) (v := .bool true) rfl rfl fun w => cubiclelaw01_awake.calls true w awake_eq
theorem putOk {f : Fld} (h : Fm f.1 f.2) (w v : BitVec 64) (m : Mu) : CallOk Try.prog 7 [.agg [.int .i64 f.1, .int .i64 f.2], .int .u64 (u w), .int .u64 (u v)] m (.int .u64 (u (pt f w v))) m false [] :=
  callOk_flat is7 (vs := [.agg #[.int .i64 f.1, .int .i64 f.2], .int .u64 (u w), .int .u64 (u v)]) (v := .int .u64 (u (pt f w v))) rfl rfl fun w' => field_Field_Put.calls _ _ _ _ _ w' (put_f h w v)
theorem getOk {f : Fld} (h : Fm f.1 f.2) (w : BitVec 64) (m : Mu) : CallOk Try.prog 8 [.agg [.int .i64 f.1, .int .i64 f.2], .int .u64 (u w)] m (.int .u64 (u (gt f w))) m false [] :=
  callOk_flat is8 (vs := [.agg #[.int .i64 f.1, .int .i64 f.2], .int .u64 (u w)]) (v := .int .u64 (u (gt f w))) rfl rfl fun w' => field_Field_Get.calls _ _ _ _ w' (get_f h w)
theorem layoutOk (a n b k : Int) (m : Mu) : CallOk Try.prog 6 [.slice [.int .i64 a, .int .i64 n, .int .i64 b, .int .i64 k] 2] m (.bool (decide (Lay [(a, n), (b, k)]))) m false [] :=
  callOk_ext is6 fun ρ S w vs sane hab => by
    obtain ⟨v, rest, rfl, hv, hr⟩ := hab.cons_inv
    rw [hr.nil_inv]
    simp only [Abs] at hv
    obtain ⟨ad, cap, us, rfl, hcap, hus, hor⟩ := hv
    obtain ⟨bl, off, rfl, _, hc⟩ := hor.resolve_left (by omega)
    obtain ⟨u0, r0, rfl, h0, hr0⟩ := hus.cons_inv
    obtain ⟨u1, r1, rfl, h1, hr1⟩ := hr0.cons_inv
    obtain ⟨u2, r2, rfl, h2, hr2⟩ := hr1.cons_inv
    obtain ⟨u3, r3, rfl, h3, hr3⟩ := hr2.cons_inv
    simp only [Abs] at h0 h1 h2 h3
    subst h0 h1 h2 h3
    rw [hr3.nil_inv] at hc
    obtain ⟨K, hK⟩ := layout_f [⟨a, n⟩, ⟨b, k⟩] (by simp)
    have hrow : Kd.C k23 w (some ⟨bl, off, none⟩) 2 [⟨a, n⟩, ⟨b, k⟩] := by
      refine ⟨rfl, by omega, fun _ => ⟨_, rfl, fun j p hj => ?_⟩⟩
      match j, hj with
      | 0, hj =>
        cases hj
        refine ⟨_, rfl, k23_mk w _, fun i x hi => ?_⟩
        rw [addr_add]
        match i, hi with
        | 0, hi => cases hi; exact hc 0 _ rfl
        | 1, hi => cases hi; exact hc 1 _ rfl
      | 1, hj =>
        cases hj
        refine ⟨_, rfl, k23_mk w _, fun i x hi => ?_⟩
        rw [addr_add]
        match i, hi with
        | 0, hi => cases hi; exact hc 2 _ rfl
        | 1, hi => cases hi; exact hc 3 _ rfl
    refine (cubicleref01_Layout.calls K (some ⟨bl, off, none⟩) cap [⟨a, n⟩, ⟨b, k⟩] _ w hrow hcap (hK K (Nat.le_refl _))).mono ?_
    rintro e w' ⟨rfl, hb⟩
    exact ⟨_, S, rfl, hb, fun _ h => h, fun _ h => .inl h, by simp only [Abs]; rfl⟩
theorem pt_comm {f g : Fld} (hf : Fm f.1 f.2) (hg : Fm g.1 g.2) (hd : Dj f g) (w x y : BitVec 64) : pt g (pt f w x) y = pt f (pt g w y) x := by
  have hdj := (dj_iff hf hg).1 hd
  apply ext
  intro j hj
  rw [bit_pt hg, bit_pt hf, bit_pt hf, bit_pt hg]
  by_cases h1 : In f j
  · rw [if_neg (hdj j hj h1), if_pos h1, if_pos h1]
  · rw [if_neg h1, if_neg h1]
theorem gt_pt {f : Fld} (hf : Fm f.1 f.2) (w z x : BitVec 64) : gt f (pt f w x) = gt f (pt f z x) := by
  apply ext
  intro j hj
  rw [bit_gt hf, bit_gt hf]
  by_cases hjf : (j : Int) < f.2
  · have hin : In f (f.1.toNat + j) := by unfold Fm at hf; unfold In; omega
    rw [bit_pt hf, bit_pt hf, if_pos hin, if_pos hin]
  · simp [hjf]
theorem ok (a n b k : Int) (x y z : Int) (wx : (Lit.int .u64 x).wf = true) (wy : (Lit.int .u64 y).wf = true) (wz : (Lit.int .u64 z).wf = true) :
    CallOk Try.prog 3 [.agg [.int .i64 a, .int .i64 n], .agg [.int .i64 b, .int .i64 k], .agg [.int .u64 x, .int .u64 y, .int .u64 z]] noMu (.bool true) noMu false [] := by
  obtain ⟨x, rfl⟩ := u_of wx
  obtain ⟨y, rfl⟩ := u_of wy
  obtain ⟨z, rfl⟩ := u_of wz
  by_cases hl : Lay [(a, n), (b, k)]
  · obtain ⟨hf, hd, hg⟩ := lay_cons.1 hl
    have hd := hd (b, k) (by simp)
    have hg := (lay_cons.1 hg).1
    have e1 := pt_comm hf hg hd x y z
    have e2 : u (gt (a, n) (pt (b, k) (pt (a, n) x y) z)) = u (gt (a, n) (pt (a, n) 0#64 y)) := by rw [e1, gt_pt hf _ 0#64 y]
    have e3 : u (gt (b, k) (pt (b, k) (pt (a, n) x y) z)) = u (gt (b, k) (pt (b, k) 0#64 z)) := by rw [gt_pt hg _ 0#64 z]
    have := f3_3 (awakeOk noMu) rfl (layoutOk a n b k noMu) (by rw [decide_eq_true hl]; rfl) (putOk hf x y noMu) (putOk hg _ z noMu) (putOk hg x z noMu) (putOk hf _ y noMu) (by rw [e1]; simp) (getOk hf _ noMu) (putOk hf 0#64 y noMu) (getOk hf _ noMu) (by rw [e2]; simp) (getOk hg _ noMu) (putOk hg 0#64 z noMu) (getOk hg _ noMu)
    rw [e3] at this
    simpa using this
  · exact f3_4 (awakeOk noMu) rfl (layoutOk a n b k noMu) (by rw [decide_eq_false hl]; rfl) (awakeOk noMu)
theorem FieldApart (a n b k : Int) (zs : List Int) (_ : (Lit.int .i64 a).wf = true) (_ : (Lit.int .i64 n).wf = true) (_ : (Lit.int .i64 b).wf = true) (_ : (Lit.int .i64 k).wf = true) (hzs : zs.length = 3) (hw : ∀ z ∈ zs, (Lit.int .u64 z).wf = true) (w : World) :
    Calls Try.prog 3 #[.agg #[.int .i64 a, .int .i64 n], .agg #[.int .i64 b, .int .i64 k], .agg ⟨zs.map (Value.int .u64)⟩] w fun e w' => e = .returned (.bool true) ∧ Below w.heap.size w w' := by
  match zs, hzs with
  | [x, y, z], _ =>
    exact calls_of_ok (ok a n b k x y z (hw x (by simp)) (hw y (by simp)) (hw z (by simp))) (vs := [.agg #[.int .i64 a, .int .i64 n], .agg #[.int .i64 b, .int .i64 k], .agg #[.int .u64 x, .int .u64 y, .int .u64 z]])
      (((flatL_iff [.agg [.int .i64 a, .int .i64 n], .agg [.int .i64 b, .int .i64 k], .agg [.int .u64 x, .int .u64 y, .int .u64 z]] rfl) _).2 rfl)
end Go.Proofs.Ytdmenimdhcicjaa.Pure
