/- Texts of the second layer in one: Wd9 Wd10 Wg1 Wg2. -/
import Derived.Test.YthiioppfnmcclaaGreatG12
import Derived.Shelf.Spec.BitsCarry
set_option maxRecDepth 100000
set_option linter.unusedVariables false
set_option linter.unusedSimpArgs false
namespace Go.Proofs.YthiioppfnmcclaaGreat
open Go.RowKit Go.Ab Go.Wd
section
variable {env:Nat→AV} {H:Nat→Option Blk} {d:Option Tmp} {ty:TypeId} {pos:String} {af:Array Edge} {g:Option (Nat×Bool)} {x y z:Operand} {t1 t2 t3:TypeId}
end
end Go.Proofs.YthiioppfnmcclaaGreat
