/- Texts of the second layer in one: Rr2. -/
import Derived.Test.YtibedaeefnjjlaaGreatG22
import Derived.Test.YtibedaeefnjjlaaGreatG17
set_option maxRecDepth 100000
set_option linter.unusedVariables false
set_option linter.unusedSimpArgs false
namespace Go.Proofs.YtibedaeefnjjlaaGreat
open Go.RowKit Go.Ab Go.Wd
def VS (p q : Int) : Prop := VR p q ∧ p.natAbs < B64 ∧ q.natAbs < B64
theorem zfS (z : Int) (hz : W4 z) : zan Tryz.prog 77 [wz z] [] (.r (.v (.bool (decide (z.natAbs < N127))))) [] := zoQ _ _ hz
theorem zio (v : Int) (hv : I64 v) : zan Tryz.prog 31 [.r (.v (.int .i64 v))] [] (rt v 1) [] := by
 have c1 := zhY v hv
 refine zap Tryz.func31 rfl (Nat.le_of_ble_eq_true rfl) rfl rfl ?_
 (repeat' (first | refine zad ?_ | (refine is_f 21 ?_; refine zaa (c1) ?_) | (refine is_f 60 ?_; refine zaa (zoO) ?_) | (refine zac (fun hb => ?_) (fun hb => ?_) <;> (try (exfalso; omega))) | fail))
 all_goals exact zbO [] (Rt.rt v 1) rfl rfl rfl rfl (zak rfl) rfl
end Go.Proofs.YtibedaeefnjjlaaGreat
