/- Samples: rows of them; Range. Conditions: lengths. --ext3 -/
import Derived.Test.YtbndknhljkpijaaDoorTq3
import Derived.Test.YtbndknhljkpijaaDoorGB
import Derived.Test.YtbndknhljkpijaaDoorUn
namespace Go.Proofs.YtbndknhljkpijaaDoor
open Go.RowKit Go.Ab
set_option maxRecDepth 100000
set_option linter.unusedVariables false
set_option linter.unusedSimpArgs false

def smps (l : List (Int × Int)) : List (List RV) := l.map fun s => [.v (.int .i64 s.1), .v (.int .i64 s.2)]
theorem smps_len (l : List (Int × Int)) : (smps l).length = l.length := by simp [smps]
theorem smps_get {l : List (Int × Int)} {j : Nat} (h : j < l.length) : (smps l)[j]? = some [.v (.int .i64 (l.getD j (0, 0)).1), .v (.int .i64 (l.getD j (0, 0)).2)] := by simp [smps, h]
theorem smps_append (a b : List (Int × Int)) : smps (a ++ b) = smps a ++ smps b := by simp [smps]
def rng (l : List (Int × Int)) (a b : Int) : List (Int × Int) := l.filter fun s => decide (a ≤ s.1 ∧ s.1 ≤ b)
theorem rng_snoc (l : List (Int × Int)) (a b : Int) (s : Int × Int) : rng (l ++ [s]) a b = rng l a b ++ if a ≤ s.1 ∧ s.1 ≤ b then [s] else [] := by
  unfold rng
  rw [List.filter_append]
  congr 1
  by_cases h : a ≤ s.1 ∧ s.1 ≤ b <;> simp [h]
theorem rng_len (l : List (Int × Int)) (a b : Int) : (rng l a b).length ≤ l.length := List.length_filter_le _ _
def rgS (l : List (Int × Int)) (a b : Int) (k : Nat) : St :=
  ⟨[(0, .r (.sl 2 (smps l))), (1, .r (.v (.int .i64 a))), (2, .r (.v (.int .i64 b))), (7, .ow 0), (8, .r (.v (.int .i64 k)))], [(0, some (.row 53 2 (smps (rng (l.take k) a b))))], 1⟩
def raS (l : List (Int × Int)) (a b : Int) (k : Nat) : St :=
  ⟨[(1, .r (.v (.int .i64 a))), (2, .r (.v (.int .i64 b))), (7, .ow 0), (10, .r (.sl 2 (smps l))), (11, .r (.v (.int .i64 l.length))), (12, .r (.v (.int .i64 k)))], [(0, some (.row 53 2 (smps (rng (l.take k) a b))))], 1⟩
end Go.Proofs.YtbndknhljkpijaaDoor
