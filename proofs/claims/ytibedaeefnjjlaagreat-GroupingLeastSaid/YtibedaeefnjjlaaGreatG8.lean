/- Texts of the second layer in one: Un. -/
import Derived.Test.YtibedaeefnjjlaaGreatAu
/- Small words: numbers of 64 bits; tests of all indexes; the first k + 1 elements. No conditions. -/
namespace Go.Proofs.YtibedaeefnjjlaaGreat
set_option linter.unusedVariables false

def I64 (x : Int) : Prop := -9223372036854775808 ≤ x ∧ x < 9223372036854775808
def allR (n : Nat) (f : Nat → Bool) : Bool := (List.range n).all f
end Go.Proofs.YtibedaeefnjjlaaGreat
