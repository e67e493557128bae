/- Texts of the second layer in one: Rr3. -/
import Derived.Test.YtibedaeefnjjlaaGreatG36
/- The reference's fractions of one word: Make. Conditions: ranges. --ext6 -/
namespace Go.Proofs.YtibedaeefnjjlaaGreat
open Go.RowKit Go.Ab Go.Wd
set_option maxRecDepth 100000
set_option linter.unusedVariables false
set_option linter.unusedSimpArgs false

theorem B64_N127 {n : Nat} (h : n < B64) : n < N127 := by unfold N127; unfold B64 at h; omega
theorem mkVS0 (z : Int) (m n : Nat) (hm : m < B64) (hn : n < B64) (hn0 : n ≠ 0) (hz : z.natAbs = m / Nat.gcd m n) : VS z ((n / Nat.gcd m n : Nat) : Int) := by
  have hg : 0 < Nat.gcd m n := Nat.gcd_pos_of_pos_right _ (Nat.pos_of_ne_zero hn0)
  have h1 : m / Nat.gcd m n < B64 := Nat.lt_of_le_of_lt (Nat.div_le_self _ _) hm
  have h2 : n / Nat.gcd m n < B64 := Nat.lt_of_le_of_lt (Nat.div_le_self _ _) hn
  have h3 : 0 < n / Nat.gcd m n := Nat.div_pos (Nat.le_of_dvd (Nat.pos_of_ne_zero hn0) (Nat.gcd_dvd_right _ _)) hg
  refine ⟨⟨by omega, ?_, ?_, ?_⟩, ?_, ?_⟩
  · rw [hz]; exact B64_N127 h1
  · rw [Int.natAbs_natCast]; exact B64_N127 h2
  · rw [hz, Int.natAbs_natCast]; exact Nat.gcd_div_gcd_div_gcd_of_pos_right (Nat.pos_of_ne_zero hn0)
  · rw [hz]; exact h1
  · rw [Int.natAbs_natCast]; exact h2
theorem divG_m (m n : Nat) (hm : m < B64) (hn : n < B64) (hn0 : n ≠ 0) : Meets Tryz.prog 49 [wz (m : Int), wz (n : Int)] [] (.tu [wz ((m / n : Nat) : Int), wz ((m % n : Nat) : Int), .r (.v (.bool true))]) [] :=
  rDivModN_m m n (N127_w4 (B64_N127 hm)) (N127_w4 (B64_N127 hn)) hn0 (refDivmodS_m m n hm hn hn0)
set_option maxHeartbeats 2000000 in
theorem rMakeP_m (m n : Nat) (hm : m < B64) (hn : n < B64) (hn0 : n ≠ 0) : Meets Tryz.prog 22 [wz (m : Int), wz (n : Int)] [] (.tu [rt ((m / Nat.gcd m n : Nat) : Int) ((n / Nat.gcd m n : Nat) : Int), .r (.v (.bool true))]) [] := by
  have hM : W4 (m : Int) := w4_nat (N127_w4 (B64_N127 hm))
  have hN : W4 (n : Int) := w4_nat (N127_w4 (B64_N127 hn))
  have v1 := validRZ_m (m : Int) hM
  have v2 := validRZ_m (n : Int) hN
  have cS := rSign_m (n : Int) hN
  have a1 := rAbs_m (m : Int) hM
  have a2 := rAbs_m (n : Int) hN
  rw [Int.natAbs_natCast] at a1 a2
  have cG := rGcdS_m m n hm hn
  have hg0 : Nat.gcd m n ≠ 0 := Nat.pos_iff_ne_zero.mp (Nat.gcd_pos_of_pos_right _ (Nat.pos_of_ne_zero hn0))
  have hgB : Nat.gcd m n < B64 := Nat.lt_of_le_of_lt (Nat.gcd_le_right _ (Nat.pos_of_ne_zero hn0)) hn
  have d1 := divG_m m _ hm hgB hg0
  have d2 := divG_m n _ hn hgB hg0
  have cV := rValidS_m _ _ (mkVS0 ((m / Nat.gcd m n : Nat) : Int) m n hm hn hn0 (Int.natAbs_natCast _))
  have hsg : sgZ (n : Int) = 1 := by unfold sgZ; rw [if_neg (by omega), if_neg (by omega)]
  rw [hsg] at cS
  generalize m % Nat.gcd m n = x1 at *
  generalize n % Nat.gcd m n = x2 at *
  generalize m / Nat.gcd m n = a at *
  generalize n / Nat.gcd m n = b at *
  generalize Nat.gcd m n = g at *
  rw [wz_nat m] at v1 a1 cG d1 ⊢
  rw [wz_nat n] at v2 a2 cG d2 cS ⊢
  unfold wd at *
  generalize m / B64 / B64 / B64 % B64 = u3 at *
  generalize m / B64 / B64 % B64 = u2 at *
  generalize m / B64 % B64 = u1 at *
  generalize m % B64 = u0 at *
  generalize n / B64 / B64 / B64 % B64 = w3 at *
  generalize n / B64 / B64 % B64 = w2 at *
  generalize n / B64 % B64 = w1 at *
  generalize n % B64 = w0 at *
  refine fn_of Tryz.func22 rfl (Nat.le_of_ble_eq_true rfl) rfl rfl ?_
  (repeat' (first | refine r_4eabd4 ?_ | (refine is_f 45 ?_; refine r_bb2b31 (v1) ?_) | (refine is_f 45 ?_; refine r_bb2b31 (v2) ?_) | (refine is_f 46 ?_; refine r_bb2b31 (cS) ?_) | (refine is_f 48 ?_; refine r_bb2b31 (a1) ?_) | (refine is_f 48 ?_; refine r_bb2b31 (a2) ?_) | (refine is_f 47 ?_; refine r_bb2b31 (cG) ?_) | (refine is_f 49 ?_; refine r_bb2b31 (d1) ?_) | (refine is_f 49 ?_; refine r_bb2b31 (d2) ?_) | (refine is_f 41 ?_; refine r_bb2b31 (cV) ?_) | (refine r_48b933 (fun hb => ?_) (fun hb => ?_) <;> (try (exfalso; omega))) | (refine awp_cond rfl (fun hb => ?_) (fun hb => ?_) <;> (try simp only [Bool.not_eq_true', Bool.not_eq_false', decide_eq_true_eq, decide_eq_false_iff_not] at hb) <;> (try (exfalso; omega)))))
  all_goals (first | (exfalso; omega) | exact ret2c [] (Rt.rt a b) (.bool rfl) rfl rfl rfl rfl rfl (post_none rfl) rfl)
set_option maxHeartbeats 2000000 in
theorem rMakeN_m (m n : Nat) (hm : m < B64) (hm0 : m ≠ 0) (hn : n < B64) (hn0 : n ≠ 0) : Meets Tryz.prog 22 [wz (-(m : Int)), wz (n : Int)] [] (.tu [rt (-((m / Nat.gcd m n : Nat) : Int)) ((n / Nat.gcd m n : Nat) : Int), .r (.v (.bool true))]) [] := by
  have hM : W4 (-(m : Int)) := by unfold W4; rw [Int.natAbs_neg, Int.natAbs_natCast]; exact N127_w4 (B64_N127 hm)
  have hN : W4 (n : Int) := w4_nat (N127_w4 (B64_N127 hn))
  have v1 := validRZ_m (-(m : Int)) hM
  have v2 := validRZ_m (n : Int) hN
  have cS := rSign_m (n : Int) hN
  have a1 := rAbs_m (-(m : Int)) hM
  have a2 := rAbs_m (n : Int) hN
  rw [Int.natAbs_neg] at a1
  rw [Int.natAbs_natCast] at a1 a2
  have cG := rGcdS_m m n hm hn
  have hg0 : Nat.gcd m n ≠ 0 := Nat.pos_iff_ne_zero.mp (Nat.gcd_pos_of_pos_right _ (Nat.pos_of_ne_zero hn0))
  have hgB : Nat.gcd m n < B64 := Nat.lt_of_le_of_lt (Nat.gcd_le_right _ (Nat.pos_of_ne_zero hn0)) hn
  have d1 := divG_m m _ hm hgB hg0
  have d2 := divG_m n _ hn hgB hg0
  have hA : W4 ((m / Nat.gcd m n : Nat) : Int) := w4_nat (N127_w4 (B64_N127 (Nat.lt_of_le_of_lt (Nat.div_le_self _ _) hm)))
  have cN := rNeg_m _ hA
  have cV := rValidS_m _ _ (mkVS0 (-((m / Nat.gcd m n : Nat) : Int)) m n hm hn hn0 (by rw [Int.natAbs_neg, Int.natAbs_natCast]))
  have hsg : sgZ (n : Int) = 1 := by unfold sgZ; rw [if_neg (by omega), if_neg (by omega)]
  rw [hsg] at cS
  generalize m % Nat.gcd m n = x1 at *
  generalize n % Nat.gcd m n = x2 at *
  generalize m / Nat.gcd m n = a at *
  generalize n / Nat.gcd m n = b at *
  generalize Nat.gcd m n = g at *
  rw [wz_neg m hm0] at v1 a1 ⊢
  rw [wz_nat m] at a1 cG d1
  rw [wz_nat n] at v2 a2 cG d2 cS ⊢
  unfold wd at *
  generalize m / B64 / B64 / B64 % B64 = u3 at *
  generalize m / B64 / B64 % B64 = u2 at *
  generalize m / B64 % B64 = u1 at *
  generalize m % B64 = u0 at *
  generalize n / B64 / B64 / B64 % B64 = w3 at *
  generalize n / B64 / B64 % B64 = w2 at *
  generalize n / B64 % B64 = w1 at *
  generalize n % B64 = w0 at *
  refine fn_of Tryz.func22 rfl (Nat.le_of_ble_eq_true rfl) rfl rfl ?_
  (repeat' (first | refine r_4eabd4 ?_ | (refine is_f 45 ?_; refine r_bb2b31 (v1) ?_) | (refine is_f 45 ?_; refine r_bb2b31 (v2) ?_) | (refine is_f 46 ?_; refine r_bb2b31 (cS) ?_) | (refine is_f 48 ?_; refine r_bb2b31 (a1) ?_) | (refine is_f 48 ?_; refine r_bb2b31 (a2) ?_) | (refine is_f 47 ?_; refine r_bb2b31 (cG) ?_) | (refine is_f 49 ?_; refine r_bb2b31 (d1) ?_) | (refine is_f 49 ?_; refine r_bb2b31 (d2) ?_) | (refine is_f 50 ?_; refine r_bb2b31 (cN) ?_) | (refine is_f 41 ?_; refine r_bb2b31 (cV) ?_) | (refine r_48b933 (fun hb => ?_) (fun hb => ?_) <;> (try (exfalso; omega))) | (refine awp_cond rfl (fun hb => ?_) (fun hb => ?_) <;> (try simp only [Bool.not_eq_true', Bool.not_eq_false', decide_eq_true_eq, decide_eq_false_iff_not] at hb) <;> (try (exfalso; omega)))))
  all_goals (first | (exfalso; omega) | exact ret2c [] (Rt.rt (-(a : Int)) b) (.bool rfl) rfl rfl rfl rfl rfl (post_none rfl) rfl)
end Go.Proofs.YtibedaeefnjjlaaGreat
