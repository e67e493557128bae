/- Texts of the second layer in one: Rc1. -/
import Derived.Test.YtibedaeefnjjlaaGreatG39
import Derived.Test.YtibedaeefnjjlaaGreatG29
set_option maxRecDepth 100000
set_option linter.unusedVariables false
set_option linter.unusedSimpArgs false
namespace Go.Proofs.YtibedaeefnjjlaaGreat
open Go.RowKit Go.Ab Go.Wd
set_option maxHeartbeats 1000000 in
theorem rcStart_m : Meets Tryz.prog 19 [] [] (cn true 0 0 0 0) [] := by
 refine fn_of Tryz.func19 rfl (Nat.le_of_ble_eq_true rfl) rfl rfl ?_
 (repeat' (first | refine r_4eabd4 ?_ | (refine r_0efca5 (fun hb => ?_) (fun hb => ?_) <;> (try (exfalso; omega))) | fail))
 all_goals exact ret1c [] (Rt.cn _ _ _ _ _) rfl rfl rfl rfl (post_none rfl) rfl
set_option maxHeartbeats 8000000 in
theorem rcValid0_m : Meets Tryz.prog 40 [cn true 0 0 0 0] [] (.r (.v (.bool true))) [] := by
 refine fn_of Tryz.func40 rfl (Nat.le_of_ble_eq_true rfl) rfl rfl ?_
 (repeat' (first | (refine is_bin ?_; refine is_b_eql ?_; refine w_read rfl q_85eb5 (p_eqcn0 rfl rfl) ?_) | refine r_4eabd4 ?_ | (refine is_f 19 ?_; refine r_bb2b31 (rcStart_m) ?_) | (refine r_0efca5 (fun hb => ?_) (fun hb => ?_) <;> (try (exfalso; omega))) | fail))
 all_goals exact ret1 [] (.bool rfl) rfl rfl rfl
end Go.Proofs.YtibedaeefnjjlaaGreat
