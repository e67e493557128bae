/- Texts of the second layer in one: Lc3. -/
import Derived.Test.YthiioppfnmcclaaGreatG10
import Derived.Test.YthiioppfnmcclaaGreatG23
set_option maxRecDepth 100000
set_option linter.unusedVariables false
set_option linter.unusedSimpArgs false
namespace Go.Proofs.YthiioppfnmcclaaGreat
open Go.RowKit Go.Ab
theorem chunkFewer_law (A0:Option Addr) (n0 c0:Nat) (z0:List Int) (w:World) (w0:IsRow .i64 w A0 n0 c0 z0) (r0:c0*8≤140737488351232):
  Calls Tryz.prog 3 #[.slice A0 n0 c0] w fun e w'=>e= .returned (.bool true)∧Below w.heap.size w w':=by
 obtain⟨z,hzl,hz2,hI,hz⟩:=w0.ints
 refine zlp (us:=[.slice A0 n0 c0]) (zgT z hI (by omega)) ?_
 simp only[AV.reps,AV.rep]
 exact⟨_,_,rfl,zoc hz (by omega) (by unfold maxLen;omega) (fun _ _ h=>h),rfl⟩
end Go.Proofs.YthiioppfnmcclaaGreat
