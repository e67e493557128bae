/- Texts of the second layer in one: Rc2. -/
import Derived.Test.YtibedaeefnjjlaaGreatG29
set_option maxHeartbeats 16000000
set_option maxRecDepth 100000
set_option linter.unusedVariables false
set_option linter.unusedSimpArgs false
namespace Go.Proofs.YtibedaeefnjjlaaGreat
open Go.RowKit Go.Ab Go.Wd
theorem zm1 (o : Bool) (p q r s : Int) (cV : zan Tryz.prog 40 [cn o p q r s] [] (.r (.v (.bool true))) []) : zan Tryz.prog 59 [cn true 0 0 0 0, cn o p q r s] [] (.tu [cn o p q r s, .r (.v (.bool true))]) [] := by
 refine zap Tryz.func59 rfl (Nat.le_of_ble_eq_true rfl) rfl rfl ?_
 (repeat' (first | refine zad ?_ | (refine is_f 40 ?_; refine zaa (zdK) ?_) | (refine is_f 40 ?_; refine zaa (cV) ?_) | (refine zac (fun hb => ?_) (fun hb => ?_) <;> (try (exfalso; omega))) | fail))
 all_goals (first | (exfalso; omega) | exact absurd rfl hb | exact zbb [] (Rt.cn _ _ _ _ _) (.bool rfl) rfl rfl rfl rfl rfl (zak rfl) rfl)
end Go.Proofs.YtibedaeefnjjlaaGreat
