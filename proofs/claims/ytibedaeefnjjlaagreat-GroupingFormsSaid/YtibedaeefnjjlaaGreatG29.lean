/- Texts of the second layer in one: Rc1 Rg3. -/
import Derived.Test.YtibedaeefnjjlaaGreatG26
import Derived.Test.YtibedaeefnjjlaaGreatG19
import Derived.Test.YtibedaeefnjjlaaGreatG28
set_option maxHeartbeats 8000000
set_option maxRecDepth 100000
set_option linter.unusedVariables false
set_option linter.unusedSimpArgs false
namespace Go.Proofs.YtibedaeefnjjlaaGreat
open Go.RowKit Go.Ab Go.Wd
theorem zeH : zan Tryz.prog 19 [] [] (cn true 0 0 0 0) [] := by
 refine zap Tryz.func19 rfl (Nat.le_of_ble_eq_true rfl) rfl rfl ?_
 (repeat' (first | refine zad ?_ | (refine zac (fun hb => ?_) (fun hb => ?_) <;> (try (exfalso; omega))) | fail))
 all_goals exact zbO [] (Rt.cn _ _ _ _ _) rfl rfl rfl rfl (zak rfl) rfl
theorem zdK : zan Tryz.prog 40 [cn true 0 0 0 0] [] (.r (.v (.bool true))) [] := by
 refine zap Tryz.func40 rfl (Nat.le_of_ble_eq_true rfl) rfl rfl ?_
 (repeat' (first | (refine zbP ?_; refine zbl ?_; refine zag rfl zab (zkY rfl rfl) ?_) | refine zad ?_ | (refine is_f 19 ?_; refine zaa (zeH) ?_) | (refine zac (fun hb => ?_) (fun hb => ?_) <;> (try (exfalso; omega))) | fail))
 all_goals exact ret1 [] (.bool rfl) rfl rfl rfl
theorem zcH (p q r s : Int) (h1 : VR p q) (h2 : VR r s) (h3 : p * s ≤ r * q) : zan Tryz.prog 40 [cn false p q r s] [] (.r (.v (.bool true))) [] := by
 have v1 := zdk p q h1
 have v2 := zdk r s h2
 have cC := zeG p q r s h1 h2
 have hcmp := zga h3
 generalize cmpZ (p * s) (r * q) = e at *
 refine zap Tryz.func40 rfl (Nat.le_of_ble_eq_true rfl) rfl rfl ?_
 (repeat' (first | refine zad ?_ | (refine is_f 41 ?_; refine zaa (v1) ?_) | (refine is_f 41 ?_; refine zaa (v2) ?_) | (refine is_f 18 ?_; refine zaa (cC) ?_) | (refine zac (fun hb => ?_) (fun hb => ?_) <;> (try (exfalso; omega))) | fail))
 all_goals (first | (exfalso; omega) | exact ret1 [] (.bool rfl) rfl rfl rfl)
end Go.Proofs.YtibedaeefnjjlaaGreat
