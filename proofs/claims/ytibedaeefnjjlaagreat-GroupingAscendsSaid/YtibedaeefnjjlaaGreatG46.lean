/- Texts of the second layer in one: Rg2. -/
import Derived.Test.YtibedaeefnjjlaaGreatG45
import Derived.Test.YtibedaeefnjjlaaGreatG39
import Derived.Test.YtibedaeefnjjlaaGreatG42
set_option maxRecDepth 100000
set_option linter.unusedVariables false
set_option linter.unusedSimpArgs false
namespace Go.Proofs.YtibedaeefnjjlaaGreat
open Go.RowKit Go.Ab Go.Wd
set_option maxHeartbeats 4000000 in
theorem rValidG_m (p q : Int) (h : VR p q) : Meets Tryz.prog 41 [rt p q] [] (.r (.v (.bool true))) [] := by
 have hv := h
 have v1 := validRZ_m p hv.w4n
 have v2 := validRZ_m q hv.w4d
 have cS := rSign_m q hv.w4d
 have s1 := rSmallZ_m p hv.w4n
 have s2 := rSmallZ_m q hv.w4d
 have cA := rAbs_m p hv.w4n
 have cO := rOne_m
 have h0 := hv.1
 have hqn : ((q.natAbs : Nat) : Int) = q := by omega
 have cG := rGcd_m p.natAbs q.natAbs hv.w4n hv.w4d
 rw [hv.2.2.2, hqn] at cG
 rw [decide_eq_true hv.2.1] at s1
 rw [decide_eq_true hv.2.2.1] at s2
 have hsg : sgZ q = 1 := by unfold sgZ; rw [if_neg (by omega), if_neg (by omega)]
 rw [hsg] at cS
 have h1w := wone
 refine fn_of Tryz.func41 rfl (Nat.le_of_ble_eq_true rfl) rfl rfl ?_
 (repeat' (first | (refine is_bin ?_; refine is_b_eql ?_; refine w_read rfl q_85eb5 (p_eqwz h1w h1w (decide_eq_true rfl) rfl rfl) ?_) | refine r_4eabd4 ?_ | (refine is_f 45 ?_; refine r_bb2b31 (v1) ?_) | (refine is_f 45 ?_; refine r_bb2b31 (v2) ?_) | (refine is_f 46 ?_; refine r_bb2b31 (cS) ?_) | (refine is_f 77 ?_; refine r_bb2b31 (s1) ?_) | (refine is_f 77 ?_; refine r_bb2b31 (s2) ?_) | (refine is_f 48 ?_; refine r_bb2b31 (cA) ?_) | (refine is_f 47 ?_; refine r_bb2b31 (cG) ?_) | (refine is_f 60 ?_; refine r_bb2b31 (cO) ?_) | (refine r_0efca5 (fun hb => ?_) (fun hb => ?_) <;> (try (exfalso; omega))) | fail))
 all_goals (first | (exfalso; omega) | exact ret1 [] (.bool rfl) rfl rfl rfl)
theorem rCleanG_m (p q : Int) (h : VR p q) : Meets Tryz.prog 42 [rt p q] [] (rt p q) [] := by
 have cV := rValidG_m p q h
 refine fn_of Tryz.func42 rfl (Nat.le_of_ble_eq_true rfl) rfl rfl ?_
 (repeat' (first | refine r_4eabd4 ?_ | (refine is_f 41 ?_; refine r_bb2b31 (cV) ?_) | (refine r_0efca5 (fun hb => ?_) (fun hb => ?_) <;> (try (exfalso; omega))) | fail))
 all_goals exact ret1c [] (Rt.rt p q) rfl rfl rfl rfl (post_none rfl) rfl
set_option maxHeartbeats 4000000 in
theorem rCmpG_m (p q r s : Int) (h1 : VR p q) (h2 : VR r s) : Meets Tryz.prog 18 [rt p q, rt r s] [] (.r (.v (.int .i64 (cmpZ (p * s) (r * q))))) [] := by
 have c1 := rCleanG_m p q h1
 have c2 := rCleanG_m r s h2
 have m1 := rMul_m p s h1.w4n h2.w4d (mul_w4 h1.2.1 h2.2.2.1)
 have m2 := rMul_m r q h2.w4n h1.w4d (mul_w4 h2.2.1 h1.2.2.1)
 have cC := rCompare_m (p * s) (r * q) (mul_w4 h1.2.1 h2.2.2.1) (mul_w4 h2.2.1 h1.2.2.1)
 generalize p * s = x at *
 generalize r * q = y at *
 refine fn_of Tryz.func18 rfl (Nat.le_of_ble_eq_true rfl) rfl rfl ?_
 (repeat' (first | refine r_4eabd4 ?_ | (refine is_f 42 ?_; refine r_bb2b31 (c1) ?_) | (refine is_f 42 ?_; refine r_bb2b31 (c2) ?_) | (refine is_f 43 ?_; refine r_bb2b31 (m1) ?_) | (refine is_f 43 ?_; refine r_bb2b31 (m2) ?_) | (refine is_f 44 ?_; refine r_bb2b31 (cC) ?_) | (refine r_0efca5 (fun hb => ?_) (fun hb => ?_) <;> (try (exfalso; omega))) | fail))
 all_goals exact ret1 [] (.int rfl) rfl rfl rfl
set_option maxHeartbeats 2000000 in
theorem rMakePG_m (m n : Nat) (hm : m < B64 ^ 4) (hn : n < B64 ^ 4) (hn0 : n ≠ 0) (hV : VR ((m / Nat.gcd m n : Nat) : Int) ((n / Nat.gcd m n : Nat) : Int)) : Meets Tryz.prog 22 [wz (m : Int), wz (n : Int)] [] (.tu [rt ((m / Nat.gcd m n : Nat) : Int) ((n / Nat.gcd m n : Nat) : Int), .r (.v (.bool true))]) [] := by
 have hM : W4 (m : Int) := w4_nat hm
 have hN : W4 (n : Int) := w4_nat hn
 have v1 := validRZ_m (m : Int) hM
 have v2 := validRZ_m (n : Int) hN
 have cS := rSign_m (n : Int) hN
 have a1 := rAbs_m (m : Int) hM
 have a2 := rAbs_m (n : Int) hN
 rw [Int.natAbs_natCast] at a1 a2
 have cG := rGcd_m m n hm hn
 have hg0 : Nat.gcd m n ≠ 0 := Nat.pos_iff_ne_zero.mp (Nat.gcd_pos_of_pos_right _ (Nat.pos_of_ne_zero hn0))
 have hgB : Nat.gcd m n < B64 ^ 4 := Nat.lt_of_le_of_lt (Nat.gcd_le_right _ (Nat.pos_of_ne_zero hn0)) hn
 have d1 := rDM_m m _ hm hgB hg0
 have d2 := rDM_m n _ hn hgB hg0
 have cV := rValidG_m _ _ hV
 have hsg : sgZ (n : Int) = 1 := by unfold sgZ; rw [if_neg (by omega), if_neg (by omega)]
 rw [hsg] at cS
 clear hV
 generalize m % Nat.gcd m n = x1 at *
 generalize n % Nat.gcd m n = x2 at *
 generalize m / Nat.gcd m n = a at *
 generalize n / Nat.gcd m n = b at *
 generalize Nat.gcd m n = g at *
 rw [wz_nat m] at v1 a1 cG d1 ⊢
 rw [wz_nat n] at v2 a2 cG d2 cS ⊢
 unfold wd at *
 generalize m / B64 / B64 / B64 % B64 = u3 at *
 generalize m / B64 / B64 % B64 = u2 at *
 generalize m / B64 % B64 = u1 at *
 generalize m % B64 = u0 at *
 generalize n / B64 / B64 / B64 % B64 = w3 at *
 generalize n / B64 / B64 % B64 = w2 at *
 generalize n / B64 % B64 = w1 at *
 generalize n % B64 = w0 at *
 refine fn_of Tryz.func22 rfl (Nat.le_of_ble_eq_true rfl) rfl rfl ?_
 (repeat' (first | refine r_4eabd4 ?_ | (refine is_f 45 ?_; refine r_bb2b31 (v1) ?_) | (refine is_f 45 ?_; refine r_bb2b31 (v2) ?_) | (refine is_f 46 ?_; refine r_bb2b31 (cS) ?_) | (refine is_f 48 ?_; refine r_bb2b31 (a1) ?_) | (refine is_f 48 ?_; refine r_bb2b31 (a2) ?_) | (refine is_f 47 ?_; refine r_bb2b31 (cG) ?_) | (refine is_f 49 ?_; refine r_bb2b31 (d1) ?_) | (refine is_f 49 ?_; refine r_bb2b31 (d2) ?_) | (refine is_f 41 ?_; refine r_bb2b31 (cV) ?_) | (refine r_0efca5 (fun hb => ?_) (fun hb => ?_) <;> (try (exfalso; omega))) | fail))
 all_goals (first | (exfalso; omega) | exact ret2c [] (Rt.rt a b) (.bool rfl) rfl rfl rfl rfl rfl (post_none rfl) rfl)
set_option maxHeartbeats 2000000 in
theorem rMakeNG_m (m n : Nat) (hm : m < B64 ^ 4) (hm0 : m ≠ 0) (hn : n < B64 ^ 4) (hn0 : n ≠ 0) (hV : VR (-((m / Nat.gcd m n : Nat) : Int)) ((n / Nat.gcd m n : Nat) : Int)) : Meets Tryz.prog 22 [wz (-(m : Int)), wz (n : Int)] [] (.tu [rt (-((m / Nat.gcd m n : Nat) : Int)) ((n / Nat.gcd m n : Nat) : Int), .r (.v (.bool true))]) [] := by
 have hM : W4 (-(m : Int)) := by unfold W4; rw [Int.natAbs_neg, Int.natAbs_natCast]; exact hm
 have hN : W4 (n : Int) := w4_nat hn
 have v1 := validRZ_m (-(m : Int)) hM
 have v2 := validRZ_m (n : Int) hN
 have cS := rSign_m (n : Int) hN
 have a1 := rAbs_m (-(m : Int)) hM
 have a2 := rAbs_m (n : Int) hN
 rw [Int.natAbs_neg] at a1
 rw [Int.natAbs_natCast] at a1 a2
 have cG := rGcd_m m n hm hn
 have hg0 : Nat.gcd m n ≠ 0 := Nat.pos_iff_ne_zero.mp (Nat.gcd_pos_of_pos_right _ (Nat.pos_of_ne_zero hn0))
 have hgB : Nat.gcd m n < B64 ^ 4 := Nat.lt_of_le_of_lt (Nat.gcd_le_right _ (Nat.pos_of_ne_zero hn0)) hn
 have d1 := rDM_m m _ hm hgB hg0
 have d2 := rDM_m n _ hn hgB hg0
 have hA : W4 ((m / Nat.gcd m n : Nat) : Int) := w4_nat (Nat.lt_of_le_of_lt (Nat.div_le_self _ _) hm)
 have cN := rNeg_m _ hA
 have cV := rValidG_m _ _ hV
 have hsg : sgZ (n : Int) = 1 := by unfold sgZ; rw [if_neg (by omega), if_neg (by omega)]
 rw [hsg] at cS
 clear hV
 generalize m % Nat.gcd m n = x1 at *
 generalize n % Nat.gcd m n = x2 at *
 generalize m / Nat.gcd m n = a at *
 generalize n / Nat.gcd m n = b at *
 generalize Nat.gcd m n = g at *
 rw [wz_neg m hm0] at v1 a1 ⊢
 rw [wz_nat m] at a1 cG d1
 rw [wz_nat n] at v2 a2 cG d2 cS ⊢
 unfold wd at *
 generalize m / B64 / B64 / B64 % B64 = u3 at *
 generalize m / B64 / B64 % B64 = u2 at *
 generalize m / B64 % B64 = u1 at *
 generalize m % B64 = u0 at *
 generalize n / B64 / B64 / B64 % B64 = w3 at *
 generalize n / B64 / B64 % B64 = w2 at *
 generalize n / B64 % B64 = w1 at *
 generalize n % B64 = w0 at *
 refine fn_of Tryz.func22 rfl (Nat.le_of_ble_eq_true rfl) rfl rfl ?_
 (repeat' (first | refine r_4eabd4 ?_ | (refine is_f 45 ?_; refine r_bb2b31 (v1) ?_) | (refine is_f 45 ?_; refine r_bb2b31 (v2) ?_) | (refine is_f 46 ?_; refine r_bb2b31 (cS) ?_) | (refine is_f 48 ?_; refine r_bb2b31 (a1) ?_) | (refine is_f 48 ?_; refine r_bb2b31 (a2) ?_) | (refine is_f 47 ?_; refine r_bb2b31 (cG) ?_) | (refine is_f 49 ?_; refine r_bb2b31 (d1) ?_) | (refine is_f 49 ?_; refine r_bb2b31 (d2) ?_) | (refine is_f 50 ?_; refine r_bb2b31 (cN) ?_) | (refine is_f 41 ?_; refine r_bb2b31 (cV) ?_) | (refine r_0efca5 (fun hb => ?_) (fun hb => ?_) <;> (try (exfalso; omega))) | fail))
 all_goals (first | (exfalso; omega) | exact ret2c [] (Rt.rt (-(a : Int)) b) (.bool rfl) rfl rfl rfl rfl rfl (post_none rfl) rfl)
theorem make_g (m : Int) (d : Nat) (hm : W4 m) (hd : d < B64 ^ 4) (hd0 : d ≠ 0) (hV : VR (mkQ m d).1 (mkQ m d).2) : Meets Tryz.prog 22 [wz m, wz (d : Int)] [] (.tu [rt (mkQ m d).1 (mkQ m d).2, .r (.v (.bool true))]) [] := by
 unfold mkQ at *
 by_cases h : m < 0
 ·rw [if_pos h] at *
  have := rMakeNG_m m.natAbs d hm (by omega) hd hd0 hV
  rwa [show -(m.natAbs : Int) = m by omega] at this
 ·rw [if_neg h] at *
  have := rMakePG_m m.natAbs d hm hd hd0 hV
  rwa [show (m.natAbs : Int) = m by omega] at this
end Go.Proofs.YtibedaeefnjjlaaGreat
