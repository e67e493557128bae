/- The law LayoutNotices. Conditions: the slice's reach. -/
import Derived.Test.YtabgmodllifgjaaLay5
import Derived.Test.YtabgmodllifgjaaLay10
namespace Go.Proofs.Ytabgmodllifgjaa
open Go.RowKit Go.Ab
set_option maxRecDepth 100000
set_option linter.unusedVariables false
set_option linter.unusedSimpArgs false

theorem layoutNotices_law (A0 : Option Addr) (n0 c0 : Nat) (z0 : List Int) (a1 a2 a3 : Int) (w : World) (w0 : IsRow .i64 w A0 n0 c0 z0) (r0 : c0 * 8 ≤ 140737488351232) (w1 : (Lit.int .i64 a1).wf = true) (w2 : (Lit.int .u32 a2).wf = true) (w3 : (Lit.int .i64 a3).wf = true) :
    Calls Try.prog 14 #[.slice A0 n0 c0, .int .i64 a1, .int .u32 a2, .int .i64 a3] w fun e w' => e = .returned (.bool true) ∧ Below w.heap.size w w' := by
  obtain ⟨z, hzl, hz2, hI, hz⟩ := w0.ints
  have h1 := wf_i64 w1
  have h2 := wf_u32 w2
  have h3 := wf_i64 w3
  obtain ⟨p, rfl⟩ := Int.eq_ofNat_of_zero_le h2.1
  refine calls_of_meets (us := [.slice A0 n0 c0, .int .i64 a1, .int .u32 p, .int .i64 a3]) (layoutNotices_m z a1 p a3 hI (by omega) (by omega) (by omega) (by omega)) ?_
  simp only [AV.reps, AV.rep]
  exact ⟨_, _, rfl, rdi_rep hz (by omega) (by unfold maxLen; omega) (fun _ _ h => h), _, _, rfl, by rw [RV.rep], _, _, rfl, by rw [RV.rep], _, _, rfl, by rw [RV.rep], rfl⟩
end Go.Proofs.Ytabgmodllifgjaa
