/- Texts of the second layer in one: Tq4. -/
import Derived.Test.YtibedaeefnjjlaaGreatG32
import Derived.Test.YtibedaeefnjjlaaGreatG4
import Derived.Test.YtibedaeefnjjlaaGreatG5
set_option maxRecDepth 100000
set_option linter.unusedVariables false
set_option linter.unusedSimpArgs false
namespace Go.Proofs.YtibedaeefnjjlaaGreat
open Go.RowKit Go.Ab
def smps (l : List (Int × Int)) : List (List RV) := l.map fun s => [.v (.int .i64 s.1), .v (.int .i64 s.2)]
theorem zjp (l : List (Int × Int)) : (smps l).length = l.length := by simp [smps]
theorem zjo {l : List (Int × Int)} {j : Nat} (h : j < l.length) : (smps l)[j]? = some [.v (.int .i64 (l.getD j (0, 0)).1), .v (.int .i64 (l.getD j (0, 0)).2)] := by simp [smps, h]
theorem zb6 (a b : List (Int × Int)) : smps (a ++ b) = smps a ++ smps b := by simp [smps]
def rng (l : List (Int × Int)) (a b : Int) : List (Int × Int) := l.filter fun s => decide (a ≤ s.1 ∧ s.1 ≤ b)
end Go.Proofs.YtibedaeefnjjlaaGreat
