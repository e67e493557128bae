/- Texts of the second layer in one: Wr1 Wr2. -/
import Derived.Test.YtibedaeefnjjlaaGreatG26
/- The reference's magnitudes: add, sub. Conditions: lengths. --ext6 -/
namespace Go.Proofs.YtibedaeefnjjlaaGreat
open Go.RowKit Go.Ab Go.Wd
set_option maxRecDepth 100000
set_option linter.unusedVariables false
set_option linter.unusedSimpArgs false

/-- The sum in place: j rounds to go, i done. -/
def raG (b : List Nat) : Nat → Nat → Nat → List Nat → Nat × List Nat
  | 0, _, c, l => (c, l)
  | j + 1, i, c, l => raG b j (i + 1) ((l.getD i 0 + b.getD i 0 + c) / B64) (l.set i ((l.getD i 0 + b.getD i 0 + c) % B64))
/-- The difference in place. -/
def rsG (b : List Nat) : Nat → Nat → Nat → List Nat → Nat × List Nat
  | 0, _, c, l => (c, l)
  | j + 1, i, c, l => rsG b j (i + 1) (if l.getD i 0 < b.getD i 0 + c then 1 else 0) (l.set i ((l.getD i 0 + B64 - b.getD i 0 - c) % B64))
def raS (b l : List Nat) (i c : Nat) : St := ⟨[(1, .r (.sl 1 (wns b))), (5, .ow 0), (6, .r (.v (.int .u64 (c : Int)))), (7, .r (.v (.int .i64 (i : Int))))], [(0, some (.row 33 1 (wns l)))], 1⟩
end Go.Proofs.YtibedaeefnjjlaaGreat

/- The reference's sum of magnitudes. Conditions: lengths. --ext6 -/
namespace Go.Proofs.YtibedaeefnjjlaaGreat
open Go.RowKit Go.Ab Go.Wd
set_option maxRecDepth 100000
set_option linter.unusedVariables false
set_option linter.unusedSimpArgs false

end Go.Proofs.YtibedaeefnjjlaaGreat
