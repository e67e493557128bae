/- Frames in the second layer: same, known, the reference's Encode. Conditions: lengths. -/
import Derived.Test.YtabgmodllifgjaaFrame4
import Derived.Test.YtabgmodllifgjaaTp
namespace Go.Proofs.Ytabgmodllifgjaa
open Go.RowKit
set_option maxRecDepth 100000
set_option linter.unusedVariables false
set_option linter.unusedSimpArgs false

theorem decR_plen (r : List UInt8) : (decR r).2.1.length ≤ 4194304 := by
  unfold decR
  (repeat' split) <;> first | (simp; done) | (simp only [List.length_take]; omega)
theorem dec_both (l : List UInt8) (A : Option Addr) (c : Nat) (a : Int) (hc : l.length ≤ c) (hl : l.length ≤ 211106232532992) :
    ∃ (k : UInt8) (p : List UInt8) (nx er : Int), p.length ≤ 4194304 ∧ (∀ w, Rd w 1 A l.length (bv l) → Calls Try.prog 73 #[.slice A l.length c, .int .i64 a] w (DecPost w k p nx er)) ∧ ∀ w, Rd w 1 A l.length (bv l) → Calls Try.prog 107 #[.slice A l.length c, .int .i64 a] w (DecPost w k p nx er) := by
  by_cases h : a < 0 ∨ (l.length : Int) < a
  · exact ⟨0, [], 0, 2, by simp, fun w hr => frameDecode_range l A _ c a w hr hc hl h, fun w hr => refFrameDecode_range l A _ c a w hr hc hl h⟩
  · obtain ⟨k, rfl⟩ := Int.eq_ofNat_of_zero_le (show 0 ≤ a by omega)
    exact ⟨_, _, _, _, decR_plen (l.drop k), fun w hr => frameDecode_any l A _ c k w hr hc hl (by omega), fun w hr => refFrameDecode_any l A _ c k w hr hc hl (by omega)⟩
set_option maxHeartbeats 1000000 in
theorem same07_any (l : List UInt8) (A : Option Addr) (c : Nat) (a : Int) (w : World) (h : Rd w 1 A l.length (bv l)) (hc : l.length ≤ c) (hl : l.length ≤ 211106232532992) :
    Calls Try.prog 72 #[.slice A l.length c, .int .i64 a] w fun e w' => e = .returned (.bool true) ∧ Below w.heap.size w w' := by
  obtain ⟨k, p, nx, er, hp, hD, hR⟩ := dec_both l A c a hc hl
  have hq1 : (nx == nx) = true := by simp
  have hq2 : (er == er) = true := by simp
  have hq3 : ((k.toNat : Int) == (k.toNat : Int)) = true := by simp
  go_enter Try.func72, Try.ntmps72
  go_wp2_with fail
  refine (hD w h).mono ?_
  rintro e w1 ⟨v1, rfl, hv1, hb1⟩
  obtain ⟨A1, c1, rfl, hc1, r1⟩ := hv1
  go_wp2_with fail
  have h2 := (h.below hb1).alloc (.cells #[.int .u8 k.toNat, .slice A1 p.length c1] 89)
  have hbb1 := hb1.alloc hb1.size (.cells #[.int .u8 k.toNat, .slice A1 p.length c1] 89)
  have r1' := r1.alloc (.cells #[.int .u8 k.toNat, .slice A1 p.length c1] 89)
  have hcl := heap_alloc_new w1 (.cells #[.int .u8 k.toNat, .slice A1 p.length c1] 89)
  refine (hR _ h2).mono ?_
  rintro e w2 ⟨v2, rfl, hv2, hb2⟩
  obtain ⟨A2, c2, rfl, hc2, r2⟩ := hv2
  have r1'' := (r1'.below hb2).alloc (.cells #[.int .u8 k.toNat, .slice A2 p.length c2] 89)
  have r2' := r2.alloc (.cells #[.int .u8 k.toNat, .slice A2 p.length c2] 89)
  have hbb2 := hbb1.trans (hb2.mono hbb1.size)
  have hbb3 := hbb2.alloc hbb2.size (.cells #[.int .u8 k.toNat, .slice A2 p.length c2] 89)
  have hcl2 : w2.heap[w1.heap.size]? = some (.cells #[.int .u8 k.toNat, .slice A1 p.length c1] 89 (0, 0)) := (hb2.block _ (by simp)).trans hcl
  have hlt : w1.heap.size < w2.heap.size := by have := hb2.size; simp at this; omega
  have hcl3 : (w2.alloc (.cells #[.int .u8 k.toNat, .slice A2 p.length c2] 89)).heap[w1.heap.size]? = some (.cells #[.int .u8 k.toNat, .slice A1 p.length c1] 89 (0, 0)) := (((Below.refl w2.heap.size w2).alloc (Nat.le_refl _) _).block _ hlt).trans hcl2
  have hce0 : (w2.alloc (.cells #[.int .u8 k.toNat, .slice A2 p.length c2] 89)).cell? ⟨w1.heap.size, 0, none⟩ = some (.int .u8 k.toNat) := cell_of_row _ _ 0 _ _ _ hcl3
  have hce1 : (w2.alloc (.cells #[.int .u8 k.toNat, .slice A2 p.length c2] 89)).cell? ⟨w1.heap.size, 1, none⟩ = some (.slice A1 p.length c1) := cell_of_row _ _ 1 _ _ _ hcl3
  clear hcl hcl2 hcl3
  go_wp2_with fail
  refine (refSame_any p p _ _ _ _ _ _ _ r1'' r2' (by unfold maxLen; omega) (by unfold maxLen; omega)).mono ?_
  rintro e w5 ⟨rfl, d, rfl⟩
  have e5 : (p == p) = true := by simp
  rw [e5]
  have hbb5 := below_drewN' hbb3 d
  go_wp2_with fail
  go_ret
  exact ⟨rfl, hbb5⟩
end Go.Proofs.Ytabgmodllifgjaa
