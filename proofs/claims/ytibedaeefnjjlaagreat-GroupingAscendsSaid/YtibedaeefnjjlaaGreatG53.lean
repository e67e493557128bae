/- Texts of the second layer in one: Ac4. -/
import Derived.Test.YtibedaeefnjjlaaGreatG9
import Derived.Test.YtibedaeefnjjlaaGreatG52
set_option maxRecDepth 100000
set_option linter.unusedVariables false
set_option linter.unusedSimpArgs false
namespace Go.Proofs.YtibedaeefnjjlaaGreat
open Go.RowKit Go.Ab
theorem groupingAscends_law (A0 : Option Addr) (n0 c0 : Nat) (z0 : List Int) (w : World) (w0 : IsRow .i64 w A0 n0 c0 z0) (r0 : c0 * 8 ≤ 140737488351232) :
  Calls Tryz.prog 5 #[.slice A0 n0 c0] w fun e w' => e = .returned (.bool true) ∧ Below w.heap.size w w' := by
 obtain ⟨z, hzl, hz2, hI, hz⟩ := w0.ints
 refine cm_calls (us := [.slice A0 n0 c0]) (groupingAscends_m z hI (by omega)) ?_
 simp only [AV.reps, AV.rep]
 exact ⟨_, _, rfl, cm_rdi hz (by omega) (by unfold maxLen; omega) (fun _ _ h => h), rfl⟩
end Go.Proofs.YtibedaeefnjjlaaGreat
