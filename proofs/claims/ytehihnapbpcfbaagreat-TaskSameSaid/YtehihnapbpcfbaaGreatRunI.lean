/- The instances of Run (printed by wip/runi.py). -/
import Derived.Test.YtehihnapbpcfbaaGreatRunL
namespace Go.Proofs.YtehihnapbpcfbaaGreat.Fun
open Go
set_option linter.unusedVariables false
theorem runR : RunW kR (⟨0, 0⟩ : Re) n_prog_Run_api_Res n_prog_Prog_api_Res_Step L_prog_Run_api_Res_1 (codeAt [true, true, false, false] (Tryz.f14.body.getD .skip)) (codeAt [true, true, false, false, false] (Tryz.f14.body.getD .skip)) where
  isloop := L_prog_Run_api_Res_1_loop
  no_o := by intro b i e most t r m fr h; exact L_prog_Run_api_Res_1_1 h
  no_t := by intro b i e most t r m fr h; exact L_prog_Run_api_Res_1_2 h
  no_s := by intro b i e most t o u v w g c m fr h; exact L_prog_Run_api_Res_1_3 h
  go_o := by intro b i e most t o u v w g c m m1 fr fs r h k a; exact L_prog_Run_api_Res_1_4_o h k a rfl
  go_s := by intro b i e most t o u v w g c m m1 fr fs o' u' v' w' g' c' h k a; exact L_prog_Run_api_Res_1_4_s h k a rfl
  stop := by intro b i e most t o u v w g c m m1 fr fs h k a; exact L_prog_Run_api_Res_1_5_s h k a rfl
  st_o := by intro b i e o u v w g c m m1 m2 x fs F r h k a; exact f_prog_Prog_api_Res_Step_2_o h rfl k a
  st_s := by intro b i e o u v w g c m m1 m2 x fs F o' u' v' w' g' c' h k a; exact f_prog_Prog_api_Res_Step_2_s h rfl k a
  st_n := by intro b i e o u v w g c m m1 x F h; exact f_prog_Prog_api_Res_Step_3 h rfl
  r_oo := by intro b i e most t r r' m m' d F fr h; exact f_prog_Run_api_Res_1 h
  r_os := by intro b i e most t r m m' d F fr o u v w g c h; exact f_prog_Run_api_Res_2 h
  r_so := by intro b i e most t r' m m' d F fr o u v w g c h; exact f_prog_Run_api_Res_3 h
  r_ss := by intro b i e most t m m' d F fr o u v w g c o' u' v' w' g' c' h; exact f_prog_Run_api_Res_4 h
theorem runN : RunW kN (⟨⟩ : Non) n_prog_Run_prog_None n_prog_Prog_prog_None_Step L_prog_Run_prog_None_1 (codeAt [true, true, false, false] (Tryz.f51.body.getD .skip)) (codeAt [true, true, false, false, false] (Tryz.f51.body.getD .skip)) where
  isloop := L_prog_Run_prog_None_1_loop
  no_o := by intro b i e most t r m fr h; exact L_prog_Run_prog_None_1_1 h
  no_t := by intro b i e most t r m fr h; exact L_prog_Run_prog_None_1_2 h
  no_s := by intro b i e most t o u v w g c m fr h; exact L_prog_Run_prog_None_1_3 h
  go_o := by intro b i e most t o u v w g c m m1 fr fs r h k a; exact L_prog_Run_prog_None_1_4_o h k a rfl
  go_s := by intro b i e most t o u v w g c m m1 fr fs o' u' v' w' g' c' h k a; exact L_prog_Run_prog_None_1_4_s h k a rfl
  stop := by intro b i e most t o u v w g c m m1 fr fs h k a; exact L_prog_Run_prog_None_1_5_s h k a rfl
  st_o := by intro b i e o u v w g c m m1 m2 x fs F r h k a; exact f_prog_Prog_prog_None_Step_2_o h rfl k a
  st_s := by intro b i e o u v w g c m m1 m2 x fs F o' u' v' w' g' c' h k a; exact f_prog_Prog_prog_None_Step_2_s h rfl k a
  st_n := by intro b i e o u v w g c m m1 x F h; exact f_prog_Prog_prog_None_Step_3 h rfl
  r_oo := by intro b i e most t r r' m m' d F fr h; exact f_prog_Run_prog_None_1 h
  r_os := by intro b i e most t r m m' d F fr o u v w g c h; exact f_prog_Run_prog_None_2 h
  r_so := by intro b i e most t r' m m' d F fr o u v w g c h; exact f_prog_Run_prog_None_3 h
  r_ss := by intro b i e most t m m' d F fr o u v w g c o' u' v' w' g' c' h; exact f_prog_Run_prog_None_4 h
end Go.Proofs.YtehihnapbpcfbaaGreat.Fun
