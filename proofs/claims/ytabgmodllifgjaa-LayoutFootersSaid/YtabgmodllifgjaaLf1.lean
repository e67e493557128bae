/- The law LayoutFooters. Conditions: the slices' reach. -/
import Derived.Test.YtabgmodllifgjaaSq
import Derived.Test.YtabgmodllifgjaaLe10
namespace Go.Proofs.Ytabgmodllifgjaa
open Go.RowKit Go.Ab
set_option maxRecDepth 100000
set_option linter.unusedVariables false
set_option linter.unusedSimpArgs false

theorem layoutFooters_law (A0 : Option Addr) (n0 c0 : Nat) (z0 : List Ent) (A1 : Option Addr) (n1 c1 : Nat) (z1 : List Int) (A2 : Option Addr) (n2 c2 : Nat) (z2 : List Int) (w : World) (w0 : IsEnt w A0 n0 c0 z0) (r0 : c0 * 40 ≤ 140737488351232) (w1 : IsRow .u8 w A1 n1 c1 z1) (r1 : c1 * 1 ≤ 140737488351232) (w2 : IsRow .i64 w A2 n2 c2 z2) (r2 : c2 * 8 ≤ 140737488351232) :
    Calls Try.prog 20 #[.slice A0 n0 c0, .slice A1 n1 c1, .slice A2 n2 c2] w fun e w' => e = .returned (.bool true) ∧ Below w.heap.size w w' := by
  obtain ⟨b, hbl, hcb, hb⟩ := w1.bytes
  obtain ⟨z, hzl, hz2, hI, hz⟩ := w2.ints
  obtain ⟨h1, h2, h3, h4⟩ := w0.take
  refine cm_calls (us := [.slice A0 n0 c0, .slice A1 n1 c1, .slice A2 n2 c2]) (layoutFooters_m (z0.take n0) b z h4 (by omega) (by omega) hI (by omega)) ?_
  simp only [AV.reps, AV.rep]
  exact ⟨_, _, rfl, cm_rde w0 (fun _ _ h => h), _, _, rfl, cm_rd hb hcb (by unfold maxLen; omega) (fun _ _ h => h), _, _, rfl, cm_rdi hz (by omega) (by unfold maxLen; omega) (fun _ _ h => h), rfl⟩
end Go.Proofs.Ytabgmodllifgjaa
