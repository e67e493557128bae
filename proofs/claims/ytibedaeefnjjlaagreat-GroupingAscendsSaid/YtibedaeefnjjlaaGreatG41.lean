/- Texts of the second layer in one: Rc2. -/
import Derived.Test.YtibedaeefnjjlaaGreatG40
set_option maxRecDepth 100000
set_option linter.unusedVariables false
set_option linter.unusedSimpArgs false
namespace Go.Proofs.YtibedaeefnjjlaaGreat
open Go.RowKit Go.Ab Go.Wd
set_option maxHeartbeats 16000000 in
theorem rcMeet0l_m (o : Bool) (p q r s : Int) (cV : Meets Tryz.prog 40 [cn o p q r s] [] (.r (.v (.bool true))) []) : Meets Tryz.prog 59 [cn true 0 0 0 0, cn o p q r s] [] (.tu [cn o p q r s, .r (.v (.bool true))]) [] := by
 refine fn_of Tryz.func59 rfl (Nat.le_of_ble_eq_true rfl) rfl rfl ?_
 (repeat' (first | refine r_4eabd4 ?_ | (refine is_f 40 ?_; refine r_bb2b31 (rcValid0_m) ?_) | (refine is_f 40 ?_; refine r_bb2b31 (cV) ?_) | (refine r_0efca5 (fun hb => ?_) (fun hb => ?_) <;> (try (exfalso; omega))) | fail))
 all_goals (first | (exfalso; omega) | exact absurd rfl hb | exact ret2c [] (Rt.cn _ _ _ _ _) (.bool rfl) rfl rfl rfl rfl rfl (post_none rfl) rfl)
end Go.Proofs.YtibedaeefnjjlaaGreat
