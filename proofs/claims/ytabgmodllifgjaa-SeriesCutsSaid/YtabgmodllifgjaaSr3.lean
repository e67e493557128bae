/- The law SeriesCuts. Conditions: the slices' reach. -/
import Derived.Test.YtabgmodllifgjaaSp
import Derived.Test.YtabgmodllifgjaaSe13
namespace Go.Proofs.Ytabgmodllifgjaa
open Go.RowKit Go.Ab
set_option maxRecDepth 100000
set_option linter.unusedVariables false
set_option linter.unusedSimpArgs false

theorem seriesCuts_law (A0 : Option Addr) (n0 c0 : Nat) (z0 : List (Int × Int)) (a1 : Int) (A2 : Option Addr) (n2 c2 : Nat) (z2 : List Int) (A3 : Option Addr) (n3 c3 : Nat) (z3 : List Int) (w : World) (w0 : IsSmp w A0 n0 c0 z0) (r0 : c0 * 16 ≤ 140737488351232) (w1 : (Lit.int .i64 a1).wf = true)
    (w2 : IsRow .i64 w A2 n2 c2 z2) (r2 : c2 * 8 ≤ 140737488351232) (w3 : IsRow .i64 w A3 n3 c3 z3) (r3 : c3 * 8 ≤ 140737488351232) :
    Calls Try.prog 8 #[.slice A0 n0 c0, .int .i64 a1, .slice A2 n2 c2, .slice A3 n3 c3] w fun e w' => e = .returned (.bool true) ∧ Below w.heap.size w w' := by
  obtain ⟨f, hfl, hf2, hF, hf⟩ := w2.ints
  obtain ⟨z, hzl, hz2, hI, hz⟩ := w3.ints
  obtain ⟨h1, h2, h3, h4⟩ := w0.take
  refine cm_calls (us := [.slice A0 n0 c0, .int .i64 a1, .slice A2 n2 c2, .slice A3 n3 c3]) (seriesCuts_m (z0.take n0) a1 f z h4 (by omega) (wf_i64 w1) hF (by omega) hI (by omega)) ?_
  simp only [AV.reps, AV.rep]
  exact ⟨_, _, rfl, cm_rds w0 (fun _ _ h => h), _, _, rfl, by rw [RV.rep], _, _, rfl, cm_rdi hf (by omega) (by unfold maxLen; omega) (fun _ _ h => h), _, _, rfl, cm_rdi hz (by omega) (by unfold maxLen; omega) (fun _ _ h => h), rfl⟩
end Go.Proofs.Ytabgmodllifgjaa
