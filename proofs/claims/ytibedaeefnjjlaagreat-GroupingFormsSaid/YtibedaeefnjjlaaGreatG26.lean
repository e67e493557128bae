/- Texts of the second layer in one: Rr3. -/
import Derived.Test.YtibedaeefnjjlaaGreatG25
set_option maxRecDepth 100000
set_option linter.unusedVariables false
set_option linter.unusedSimpArgs false
namespace Go.Proofs.YtibedaeefnjjlaaGreat
open Go.RowKit Go.Ab Go.Wd
theorem zdS {n : Nat} (h : n < B64) : n < N127 := by unfold N127; unfold B64 at h; omega
end Go.Proofs.YtibedaeefnjjlaaGreat
