/- The law FrameReads. Conditions: slices of at most 2^20 places (the second form of the row). -/
import Derived.Test.YtabgmodllifgjaaCm
import Derived.Test.YtabgmodllifgjaaFr2
namespace Go.Proofs.Ytabgmodllifgjaa
open Go.RowKit Go.Ab
set_option maxRecDepth 100000
set_option linter.unusedVariables false
set_option linter.unusedSimpArgs false

theorem frameReads_law (A0 : Option Addr) (n0 c0 : Nat) (z0 : List Int) (A1 : Option Addr) (n1 c1 : Nat) (z1 : List Int) (a2 a3 : Int) (A4 : Option Addr) (n4 c4 : Nat) (z4 : List Int) (a5 : Int) (w : World) (w0 : IsRow .u8 w A0 n0 c0 z0) (r0 : c0 * 1 ≤ 140737488351232) (w1 : IsRow .u8 w A1 n1 c1 z1) (r1 : c1 * 1 ≤ 140737488351232)
    (w2 : (Lit.int .u8 a2).wf = true) (w3 : (Lit.int .i64 a3).wf = true) (w4 : IsRow .i64 w A4 n4 c4 z4) (r4 : c4 * 8 ≤ 140737488351232) (w5 : (Lit.int .u32 a5).wf = true) :
    Calls Try.prog 16 #[.slice A0 n0 c0, .slice A1 n1 c1, .int .u8 a2, .int .i64 a3, .slice A4 n4 c4, .int .u32 a5] w fun e w' => e = .returned (.bool true) ∧ Below w.heap.size w w' := by
  obtain ⟨k, rfl⟩ := u8_of w2
  obtain ⟨l, _, hc, h⟩ := w0.bytes
  obtain ⟨b, _, hcb, hb⟩ := w1.bytes
  obtain ⟨z, hzl, hz2, hI, hz⟩ := w4.ints
  have h5 := wf_u32 w5
  obtain ⟨p, rfl⟩ := Int.eq_ofNat_of_zero_le h5.1
  have hll := h.len
  have hlb := hb.len
  have hM : Meets Try.prog 16 [.r (.sl 1 (bys l)), .r (.sl 1 (bys b)), .r (.v (.int .u8 k.toNat)), .r (.v (.int .i64 a3)), .r (.sl 1 (nums .i64 z)), .r (.v (.int .u32 p))] [] (.r (.v (.bool true))) [] := by
    rcases Nat.lt_or_ge 4194304 b.length with hbig | hbig
    · exact frameReads_l l b k a3 z p (by omega) hbig hI (by omega) (by omega)
    · exact frameReads_m l b k a3 z p (by omega) hbig hI (by omega) (by omega)
  refine cm_calls (us := [.slice A0 n0 c0, .slice A1 n1 c1, .int .u8 k.toNat, .int .i64 a3, .slice A4 n4 c4, .int .u32 p]) hM ?_
  simp only [AV.reps, AV.rep]
  exact ⟨_, _, rfl, cm_rd h hc (by unfold maxLen; omega) (fun _ _ h => h), _, _, rfl, cm_rd hb hcb (by unfold maxLen; omega) (fun _ _ h => h), _, _, rfl, by rw [RV.rep], _, _, rfl, by rw [RV.rep], _, _, rfl, cm_rdi hz (by omega) (by unfold maxLen; omega) (fun _ _ h => h), _, _, rfl, by rw [RV.rep], rfl⟩
end Go.Proofs.Ytabgmodllifgjaa
