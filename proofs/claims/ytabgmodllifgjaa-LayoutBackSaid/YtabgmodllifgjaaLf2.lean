/- The law LayoutBack. Conditions: the slice's reach. -/
import Derived.Test.YtabgmodllifgjaaCm
import Derived.Test.YtabgmodllifgjaaLe11
namespace Go.Proofs.Ytabgmodllifgjaa
open Go.RowKit Go.Ab
set_option maxRecDepth 100000
set_option linter.unusedVariables false
set_option linter.unusedSimpArgs false

theorem layoutBack_law (A0 : Option Addr) (n0 c0 : Nat) (z0 : List Int) (a1 : Int) (w : World) (w0 : IsRow .i64 w A0 n0 c0 z0) (r0 : c0 * 8 ≤ 140737488351232) (w1 : (Lit.int .i64 a1).wf = true) :
    Calls Try.prog 21 #[.slice A0 n0 c0, .int .i64 a1] w fun e w' => e = .returned (.bool true) ∧ Below w.heap.size w w' := by
  obtain ⟨z, hzl, hz2, hI, hz⟩ := w0.ints
  refine cm_calls (us := [.slice A0 n0 c0, .int .i64 a1]) (layoutBack_m z a1 hI (by omega) (wf_i64 w1)) ?_
  simp only [AV.reps, AV.rep]
  exact ⟨_, _, rfl, cm_rdi hz (by omega) (by unfold maxLen; omega) (fun _ _ h => h), _, _, rfl, by rw [RV.rep], rfl⟩
end Go.Proofs.Ytabgmodllifgjaa
