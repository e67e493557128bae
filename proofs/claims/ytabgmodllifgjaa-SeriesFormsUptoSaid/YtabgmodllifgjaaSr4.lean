/- The law SeriesForms. Conditions: at most 1048576 elements in a slice. -/
import Derived.Test.YtabgmodllifgjaaSp
import Derived.Test.YtabgmodllifgjaaSe14
namespace Go.Proofs.Ytabgmodllifgjaa
open Go.RowKit Go.Ab
set_option maxRecDepth 100000
set_option linter.unusedVariables false
set_option linter.unusedSimpArgs false

theorem seriesForms_law (A0 : Option Addr) (n0 c0 : Nat) (z0 : List (Int × Int)) (A1 : Option Addr) (n1 c1 : Nat) (z1 : List (Int × Int)) (A2 : Option Addr) (n2 c2 : Nat) (z2 : List Int) (A3 : Option Addr) (n3 c3 : Nat) (z3 : List Int) (a4 a5 a6 : Int) (A7 : Option Addr) (n7 c7 : Nat) (z7 : List Int) (w : World)
    (w0 : IsSmp w A0 n0 c0 z0) (r0 : c0 ≤ 1048576) (w1 : IsSmp w A1 n1 c1 z1) (r1 : c1 ≤ 1048576) (w2 : IsRow .i64 w A2 n2 c2 z2) (r2 : c2 ≤ 1048576) (w3 : IsRow .i64 w A3 n3 c3 z3) (r3 : c3 ≤ 1048576)
    (w4 : (Lit.int .i64 a4).wf = true) (w5 : (Lit.int .i64 a5).wf = true) (w6 : (Lit.int .i64 a6).wf = true) (w7 : IsRow .i64 w A7 n7 c7 z7) (r7 : c7 ≤ 1048576) :
    Calls Try.prog 11 #[.slice A0 n0 c0, .slice A1 n1 c1, .slice A2 n2 c2, .slice A3 n3 c3, .int .i64 a4, .int .i64 a5, .int .i64 a6, .slice A7 n7 c7] w fun e w' => e = .returned (.bool true) ∧ Below w.heap.size w w' := by
  obtain ⟨x, hxl, hx2, hX, hx⟩ := w2.ints
  obtain ⟨y, hyl, hy2, hY, hy⟩ := w3.ints
  obtain ⟨z, hzl, hz2, hI, hz⟩ := w7.ints
  obtain ⟨h1, h2, h3, h4⟩ := w0.take
  obtain ⟨g1, g2, g3, g4⟩ := w1.take
  refine cm_calls (us := [.slice A0 n0 c0, .slice A1 n1 c1, .slice A2 n2 c2, .slice A3 n3 c3, .int .i64 a4, .int .i64 a5, .int .i64 a6, .slice A7 n7 c7]) (seriesForms_m (z0.take n0) (z1.take n1) x y a4 a5 a6 z h4 g4 (by omega) (by omega) hX hY (by omega) (by omega) (wf_i64 w4) hI (by omega)) ?_
  simp only [AV.reps, AV.rep]
  exact ⟨_, _, rfl, cm_rds w0 (fun _ _ h => h), _, _, rfl, cm_rds w1 (fun _ _ h => h), _, _, rfl, cm_rdi hx (by omega) (by unfold maxLen; omega) (fun _ _ h => h), _, _, rfl, cm_rdi hy (by omega) (by unfold maxLen; omega) (fun _ _ h => h), _, _, rfl, by rw [RV.rep], _, _, rfl, by rw [RV.rep], _, _, rfl, by rw [RV.rep], _, _, rfl, cm_rdi hz (by omega) (by unfold maxLen; omega) (fun _ _ h => h), rfl⟩
end Go.Proofs.Ytabgmodllifgjaa
