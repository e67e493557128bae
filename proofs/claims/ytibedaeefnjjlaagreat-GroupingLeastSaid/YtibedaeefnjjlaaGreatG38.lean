/- Texts of the second layer in one: Rc1. -/
import Derived.Test.YtibedaeefnjjlaaGreatG37
import Derived.Test.YtibedaeefnjjlaaGreatG26
/- The reference's cones: Start, Valid, Contains. Conditions: valid ones of one word. --ext6 -/
namespace Go.Proofs.YtibedaeefnjjlaaGreat
open Go.RowKit Go.Ab Go.Wd
set_option maxRecDepth 100000
set_option linter.unusedVariables false
set_option linter.unusedSimpArgs false

set_option maxHeartbeats 1000000 in
theorem rcStart_m : Meets Tryz.prog 19 [] [] (cn true 0 0 0 0) [] := by
  refine fn_of Tryz.func19 rfl (Nat.le_of_ble_eq_true rfl) rfl rfl ?_
  (repeat' (first | refine r_4eabd4 ?_ | (refine r_48b933 (fun hb => ?_) (fun hb => ?_) <;> (try (exfalso; omega))) | (refine awp_cond rfl (fun hb => ?_) (fun hb => ?_) <;> (try simp only [Bool.not_eq_true', Bool.not_eq_false', decide_eq_true_eq, decide_eq_false_iff_not] at hb) <;> (try (exfalso; omega)))))
  all_goals exact ret1c [] (Rt.cn _ _ _ _ _) rfl rfl rfl rfl (post_none rfl) rfl
end Go.Proofs.YtibedaeefnjjlaaGreat
