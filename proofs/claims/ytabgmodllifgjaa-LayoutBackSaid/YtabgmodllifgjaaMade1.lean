/- The walks of tscodecmade.Mod, New, Next and of the laws CrcParts, CrcForms. -/
import Derived.Test.YtabgmodllifgjaaCrcLaw1
namespace Go.Proofs.Ytabgmodllifgjaa
open Go.RowKit
set_option maxRecDepth 100000
set_option linter.unusedVariables false

/-- Go's Mod: 0 where n is less than 1, else the remainder that is not negative. -/
def modz (a n : Int) : Int := if n < 1 then 0 else a % n
theorem modz_range (a : Int) {n : Int} (h : 1 ≤ n) : 0 ≤ modz a n ∧ modz a n < n := by
  unfold modz
  rw [if_neg (by omega)]
  exact ⟨Int.emod_nonneg _ (by omega), Int.emod_lt_of_pos _ (by omega)⟩
theorem modz_nonneg (a n : Int) : 0 ≤ modz a n := by
  rcases (show n < 1 ∨ 1 ≤ n by omega) with h | h
  · unfold modz; rw [if_pos h]; omega
  · exact (modz_range a h).1
theorem emod_of (a n r q : Int) (h0 : 0 ≤ r) (h1 : r < n) (h : a = n * q + r) : a % n = r := by
  rw [h, Int.add_comm, Int.add_mul_emod_self_left]
  exact Int.emod_eq_of_lt h0 h1
theorem tmod_neg (a n : Int) (hn : 1 ≤ n) (h : a.tmod n < 0) : a.tmod n + n = a % n := by
  have h1 := Int.tmod_add_mul_tdiv a n
  have h2 := Int.lt_tmod_of_pos a (show 0 < n by omega)
  exact (emod_of a n _ (a.tdiv n - 1) (by omega) (by omega) (by rw [Int.mul_sub]; omega)).symm
theorem tmod_pos (a n : Int) (hn : 1 ≤ n) (h : 0 ≤ a.tmod n) : a.tmod n = a % n := by
  have h1 := Int.tmod_add_mul_tdiv a n
  have h2 := Int.tmod_lt_of_pos a (show 0 < n by omega)
  exact (emod_of a n _ (a.tdiv n) h (by omega) (by omega)).symm

set_option maxHeartbeats 400000 in
theorem mod_any (a n : Int) (w : World) (ha : -9223372036854775808 ≤ a ∧ a < 9223372036854775808) (hn : -9223372036854775808 ≤ n ∧ n < 9223372036854775808) :
    Calls Try.prog 26 #[.int .i64 a, .int .i64 n] w fun e w' => e = .returned (.int .i64 (modz a n)) ∧ w = w' := by
  by_cases h1 : n < 1
  · go_enter Try.func26, Try.ntmps26
    go_wp2
    go_ret
    exact ⟨by unfold modz; rw [if_pos h1]; rfl, rfl⟩
  · have hm := tmod_neg a n (by omega)
    have hp := tmod_pos a n (by omega)
    have hl := Int.tmod_lt_of_pos a (show 0 < n by omega)
    have hl2 := Int.lt_tmod_of_pos a (show 0 < n by omega)
    have HM := Lib.hid hm
    have HP := Lib.hid hp
    have HZ : Hid (modz a n = a % n) := Lib.hid (by unfold modz; rw [if_neg h1])
    clear hm hp
    by_cases ht : a.tmod n < 0
    · go_enter Try.func26, Try.ntmps26
      go_wp2
      go_ret
      exact ⟨by rw [HZ.out, ← HM.out ht]; rfl, rfl⟩
    · go_enter Try.func26, Try.ntmps26
      go_wp2
      go_ret
      exact ⟨by rw [HZ.out, ← HP.out (by omega)]; rfl, rfl⟩

set_option maxHeartbeats 400000 in
theorem crcParts_walk (l : List UInt8) (A : Option Addr) (n c : Nat) (crc : Nat) (at_ : Int) (w : World) (h : Rd w 1 A n (bv l)) (hc : n ≤ c) (hr : c ≤ 140737488351232) (hcrc : crc < 4294967296) (hat : -9223372036854775808 ≤ at_ ∧ at_ < 9223372036854775808) :
    Calls Try.prog 4 #[.slice A n c, .int .u32 crc, .int .i64 at_] w fun e w' => e = .returned (.bool true) ∧ Below w.heap.size w w' := by
  have hn := h.len
  subst hn
  go_enter Try.func4, Try.ntmps4
  go_wp2_with fail
  refine (mod_any at_ _ _ hat (by omega)).mono ?_
  rintro e w1 ⟨rfl, rfl⟩
  have hmr := modz_range at_ (show (1 : Int) ≤ (l.length : Int) + 1 by omega)
  obtain ⟨k, hk, hkl⟩ : ∃ k : Nat, modz at_ ((l.length : Int) + 1) = (k : Int) ∧ k ≤ l.length := ⟨(modz at_ ((l.length : Int) + 1)).toNat, by omega, by omega⟩
  rw [hk]
  clear hk hmr
  have hcl1 := Crc.crc_lt crc (l.take k)
  have hap : Crc.crc (Crc.crc crc (l.take k)) (l.drop k) = Crc.crc crc l := by rw [Crc.crc_append crc hcrc, List.take_append_drop]
  have hq : ((Crc.crc (Crc.crc crc (l.take k)) (l.drop k) : Int) == (Crc.crc crc l : Int)) = true := by rw [hap]; simp
  have HQ := Lib.hid hap
  clear hap
  go_wp2_with fail
  refine wp_region_calm w.heap.size (by kernel_rfl) ?_
  go_big_quiet_step (exact Calls.calm (known_any _) (Nat.le_refl _))
  iterate 5 (go_big_quiet_step (fail))
  go_big_quiet_step (exact Calls.calm (update_any crc hcrc (l.take k) A k c (by unfold maxLen; omega) _ (Bel.rd _ (h.pre k hkl))) (Nat.le_refl _))
  iterate 3 (go_big_quiet_step (fail))
  go_big_quiet_step (exact Calls.calm (update_any _ hcl1 (l.drop k) _ _ _ (by unfold maxLen; omega) _ (Bel.rd _ (h.sufIf k c hkl hc))) (Nat.le_refl _))
  iterate 2 (go_big_quiet_step (fail))
  go_big_quiet_step (exact Calls.calm (update_any crc hcrc l A l.length c (by unfold maxLen; omega) _ (Bel.rd _ h)) (Nat.le_refl _))
  repeat (go_big_quiet_step (fail))
  refine wpQuiet_nil ?_
  intro w' hb'
  go_wp2
  all_goals (go_ret; exact ⟨rfl, hb'⟩)

theorem crcParts_law (A0 : Option Addr) (n0 c0 : Nat) (z0 : List Int) (a1 a2 : Int) (w : World) (w0 : IsRow .u8 w A0 n0 c0 z0) (r0 : c0 * 1 ≤ 140737488351232) (w1 : (Lit.int .u32 a1).wf = true) (w2 : (Lit.int .i64 a2).wf = true) :
    Calls Try.prog 4 #[.slice A0 n0 c0, .int .u32 a1, .int .i64 a2] w fun e w' => e = .returned (.bool true) ∧ Below w.heap.size w w' := by
  obtain ⟨l, _, hc, h⟩ := w0.bytes
  have h1 := wf_u32 w1
  obtain ⟨crc, rfl⟩ := Int.eq_ofNat_of_zero_le h1.1
  exact crcParts_walk l A0 n0 c0 crc a2 w h hc (by omega) (by omega) (wf_i64 w2)
end Go.Proofs.Ytabgmodllifgjaa
