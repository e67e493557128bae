/- Texts of the second layer in one: Rc2. -/
import Derived.Test.YtibedaeefnjjlaaGreatG38
/- The reference's cones: Meet. Conditions: valid ones of one word. --ext6 -/
namespace Go.Proofs.YtibedaeefnjjlaaGreat
open Go.RowKit Go.Ab Go.Wd
set_option maxRecDepth 100000
set_option linter.unusedVariables false
set_option linter.unusedSimpArgs false

theorem mLo_VS {p q p' q' : Int} (h : VS p q) (h' : VS p' q') : VS (mLo p q p' q').1 (mLo p q p' q').2 := by unfold mLo; split <;> assumption
theorem mHi_VS {p q p' q' : Int} (h : VS p q) (h' : VS p' q') : VS (mHi p q p' q').1 (mHi p q p' q').2 := by unfold mHi; split <;> assumption
end Go.Proofs.YtibedaeefnjjlaaGreat
