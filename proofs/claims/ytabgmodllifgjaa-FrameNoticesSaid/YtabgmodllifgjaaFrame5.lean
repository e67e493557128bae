/- The law FramePrefixes. Conditions: those of the rows. -/
import Derived.Test.YtabgmodllifgjaaFrame4
namespace Go.Proofs.Ytabgmodllifgjaa
open Go.RowKit
set_option maxRecDepth 100000
set_option linter.unusedVariables false

/-- 'b[:min(len(b), MaxFrame)]'. -/
theorem min_at {w : World} {A : Option Addr} {l : List UInt8} (h : Rd w 1 A l.length (bv l)) : ∃ p : List UInt8, p.length ≤ 4194304 ∧ (((4194304 : Int) < (l.length : Int) ∧ Rd w 1 A 4194304 (bv p)) ∨ (¬ (4194304 : Int) < (l.length : Int) ∧ Rd w 1 A l.length (bv p))) := by
  rcases Nat.lt_or_ge 4194304 l.length with h1 | h1
  · exact ⟨l.take 4194304, by rw [List.length_take]; exact Nat.min_le_left _ _, .inl ⟨by omega, h.pre 4194304 (by omega)⟩⟩
  · exact ⟨l, by omega, .inr ⟨by omega, h⟩⟩

set_option maxHeartbeats 1000000 in
theorem framePrefixes_walk (kind : UInt8) (l : List UInt8) (A : Option Addr) (c : Nat) (a : Int) (w : World) (h : Rd w 1 A l.length (bv l)) (hc : l.length ≤ c) (hr : c ≤ 140737488351232)
    (ha : -9223372036854775808 ≤ a ∧ a < 9223372036854775808) :
    Calls Try.prog 19 #[.int .u8 kind.toNat, .slice A l.length c, .int .i64 a] w fun e w' => e = .returned (.bool true) ∧ Below w.heap.size w w' := by
  obtain ⟨p, hp4, hcase⟩ := min_at h
  have hlc : (l.length : Int) ≤ (c : Int) := by omega
  rcases hcase with ⟨hbig, hp⟩ | ⟨hbig, hp⟩
  all_goals
    go_enter Try.func19, Try.ntmps19
    go_wp2_with fail
    refine (frameEncode_any kind p A _ c w hp hp4).mono ?_
    rintro e w1 ⟨v1, rfl, how1, hb1⟩
    obtain ⟨A1, c1, rfl, r1, hc1, _⟩ := how1.form
    have hfl := encF_len kind p
    have hdec : ∀ m, m < (encF kind p).length → decR ((encF kind p).take m) = (0, [], 0, 4) := fun m hm => decR_prefix kind p hp4 m (by omega)
    have hf13 : 13 ≤ (encF kind p).length := by omega
    have hf14 : (encF kind p).length ≤ 4194317 := by omega
    clear hfl
    generalize encF kind p = f at *
    go_wp2_with fail
    refine (mod_any a f.length w1 ha (by omega)).mono ?_
    rintro e w2 ⟨rfl, rfl⟩
    have hz := modz_range a (show (1 : Int) ≤ f.length by omega)
    generalize modz a f.length = z at *
    obtain ⟨m, rfl⟩ := Int.eq_ofNat_of_zero_le hz.1
    have hmf : m < f.length := by omega
    have hmc : (m : Int) ≤ (c1 : Int) := by omega
    go_wp2_with fail
    have hfd := frameDecode_any (f.take m) A1 m c1 0 w1 (r1.pre m (by omega)) (by omega) (by simp; omega) (by omega)
    rw [List.drop_zero, hdec m hmf] at hfd
    refine hfd.mono ?_
    rintro e w3 ⟨v3, rfl, ⟨A3, c3, rfl, hc3, r3⟩, hb3⟩
    have e3 : decN 0 (0, [], 0, 4) = 0 := rfl
    rw [e3]
    have hbb3 := hb1.trans (hb3.mono hb1.size)
    clear hfd
    go_wp2_with fail
    refine (known07_any _).mono ?_
    rintro e w4 ⟨rfl, hb4⟩
    have hbb4 : Below w.heap.size w w4 := (hbb3.alloc hbb3.size _).trans (hb4.mono (by have := hbb3.size; simp; omega))
    go_wp2_with fail
    go_ret
    exact ⟨rfl, hbb4⟩
theorem framePrefixes_law (a0 : Int) (A1 : Option Addr) (n1 c1 : Nat) (z1 : List Int) (a2 : Int) (w : World) (w0 : (Lit.int .u8 a0).wf = true) (w1 : IsRow .u8 w A1 n1 c1 z1) (r1 : c1 * 1 ≤ 140737488351232) (w2 : (Lit.int .i64 a2).wf = true) :
    Calls Try.prog 19 #[.int .u8 a0, .slice A1 n1 c1, .int .i64 a2] w fun e w' => e = .returned (.bool true) ∧ Below w.heap.size w w' := by
  obtain ⟨k, rfl⟩ := u8_of w0
  obtain ⟨l, _, hc, h⟩ := w1.bytes
  have hn := h.len
  subst hn
  exact framePrefixes_walk k l A1 c1 a2 w h hc (by omega) (wf_i64 w2)

end Go.Proofs.Ytabgmodllifgjaa
