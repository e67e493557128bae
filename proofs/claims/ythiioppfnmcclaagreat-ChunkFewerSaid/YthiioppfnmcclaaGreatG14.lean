/- Texts of the second layer in one: Wg3 Wg4. -/
import Derived.Test.YthiioppfnmcclaaGreatG13
import Derived.Laws.BitsAllLaws
set_option maxRecDepth 100000
set_option linter.unusedVariables false
set_option linter.unusedSimpArgs false
namespace Go.Proofs.YthiioppfnmcclaaGreat
open Go.RowKit Go.Ab Go.Wd
theorem ziX (k:IntKind) (z:Int):cellsA (.r (.v (.int k z)))=[.r (.v (.int k z))]:=rfl
theorem zoA (l:List Nat) (i v:Nat) (h:i<l.length):setA (wv l) (0+i*1) [.r (.v (.int .u64 (v:Int)))]=wv (l.set i v):=by
 rw[Nat.mul_one,Nat.zero_add];exact zoK l _ _ h
theorem zd4 (l:List Nat) (i v:Nat) (h:i<l.length):Nat.ble (0+i*1+1) (setA (wv l) (0+i*1) (cellsA (.r (.v (.int .u64 (v:Int)))))).length=true:=by
 rw[ziX,zoA l i v h,Nat.ble_eq,zoJ,List.length_set,Nat.mul_one,Nat.zero_add];exact h
end Go.Proofs.YthiioppfnmcclaaGreat
