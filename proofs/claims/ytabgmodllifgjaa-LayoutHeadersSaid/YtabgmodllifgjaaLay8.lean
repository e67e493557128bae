/- The law LayoutHeaders. Conditions: the slices' reach. -/
import Derived.Test.YtabgmodllifgjaaLay5
import Derived.Test.YtabgmodllifgjaaLay7
namespace Go.Proofs.Ytabgmodllifgjaa
open Go.RowKit Go.Ab
set_option maxRecDepth 100000
set_option linter.unusedVariables false
set_option linter.unusedSimpArgs false

theorem layoutHeaders_law (a0 b0 c0 : Int) (A1 : Option Addr) (n1 c1 : Nat) (z1 : List Int) (A2 : Option Addr) (n2 c2 : Nat) (z2 : List Int) (a3 a4 : Int) (w : World) (w0 : (Lit.int .i64 a0).wf = true) (w0' : (Lit.int .i64 b0).wf = true) (w0'' : (Lit.int .i64 c0).wf = true) (w1 : IsRow .u8 w A1 n1 c1 z1) (r1 : c1 * 1 ≤ 140737488351232) (w2 : IsRow .i64 w A2 n2 c2 z2) (r2 : c2 * 8 ≤ 140737488351232) (w3 : (Lit.int .u64 a3).wf = true) (w4 : (Lit.int .u32 a4).wf = true) :
    Calls Try.prog 12 #[.agg #[.int .i64 a0, .int .i64 b0, .int .i64 c0], .slice A1 n1 c1, .slice A2 n2 c2, .int .u64 a3, .int .u32 a4] w fun e w' => e = .returned (.bool true) ∧ Below w.heap.size w w' := by
  obtain ⟨l, _, hc, h⟩ := w1.bytes
  obtain ⟨z, hzl, hz2, hI, hz⟩ := w2.ints
  have h3 := wf_u64 w3
  have h4 := wf_u32 w4
  obtain ⟨v, rfl⟩ := Int.eq_ofNat_of_zero_le h3.1
  obtain ⟨s, rfl⟩ := Int.eq_ofNat_of_zero_le h4.1
  have hll := h.len
  refine calls_of_meets (us := [.agg #[.int .i64 a0, .int .i64 b0, .int .i64 c0], .slice A1 n1 c1, .slice A2 n2 c2, .int .u64 v, .int .u32 s]) (layoutHeaders_m a0 b0 c0 l z v s (by omega) hI (by omega) (by omega) (by omega)) ?_
  simp only [AV.reps, AV.rep]
  exact ⟨_, _, rfl, ⟨_, rfl, _, _, rfl, by rw [RV.rep], _, _, rfl, by rw [RV.rep], _, _, rfl, by rw [RV.rep], rfl⟩, _, _, rfl, rd_rep h hc (by unfold maxLen; omega) (fun _ _ h => h), _, _, rfl, rdi_rep hz (by omega) (by unfold maxLen; omega) (fun _ _ h => h), _, _, rfl, by rw [RV.rep], _, _, rfl, by rw [RV.rep], rfl⟩
end Go.Proofs.Ytabgmodllifgjaa
