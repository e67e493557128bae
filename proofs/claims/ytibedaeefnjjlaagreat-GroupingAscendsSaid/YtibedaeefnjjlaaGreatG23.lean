/- Texts of the second layer in one: Wg9. -/
import Derived.Test.YtibedaeefnjjlaaGreatG22
import Derived.Test.YtibedaeefnjjlaaGreatG18
set_option maxRecDepth 100000
set_option linter.unusedVariables false
set_option linter.unusedSimpArgs false
namespace Go.Proofs.YtibedaeefnjjlaaGreat
open Go.RowKit Go.Ab Go.Wd
theorem zb_f (n : Nat) : zb false n = (n : Int) := rfl
theorem zb_t (n : Nat) : zb true n = -(n : Int) := rfl
theorem cmpN_ge {m n : Nat} (h : n ≤ m) : 0 ≤ cmpN m n := by unfold cmpN; rw [if_neg (by omega)]; split <;> omega
theorem cmpN_lt0 {m n : Nat} (h : m < n) : ¬ 0 ≤ cmpN m n := by unfold cmpN; rw [if_pos h]; omega
set_option maxHeartbeats 8000000 in
theorem wAddZ_m (x y : Int) (hx : x.natAbs < B64 ^ 4) (hy : y.natAbs < B64 ^ 4) (hxy : (x + y).natAbs < B64 ^ 4) : Meets Tryz.prog 147 [wz x, wz y] [] (.tu [wz (x + y), .r (.v (.bool true))]) [] := by
 have c1 := cleanZ_m x hx
 have c2 := cleanZ_m y hy
 rcases int_sign x with ⟨m, rfl⟩ | ⟨m, hm, rfl⟩ <;> rcases int_sign y with ⟨n, rfl⟩ | ⟨n, hn, rfl⟩
 ·have hM : m < B64 ^ 4 := by simpa using hx
  have hN : n < B64 ^ 4 := by simpa using hy
  have hS : m + n < B64 ^ 4 := by omega
  have cA := add_m m n hM hN hS
  have cS := signedG_m false (m + n) hS
  rw [zb_f] at cS
  rw [show (m : Int) + (n : Int) = ((m + n : Nat) : Int) by omega]
  rw [wz_nat] at c1 c2
  rw [wz_nat m, wz_nat n]
  generalize m + n = s at *
  refine fn_of Tryz.func147 rfl (Nat.le_of_ble_eq_true rfl) rfl rfl ?_
  (repeat' (first | refine r_4eabd4 ?_ | (refine is_f 144 ?_; refine r_bb2b31 (c1) ?_) | (refine is_f 144 ?_; refine r_bb2b31 (c2) ?_) | (refine is_f 157 ?_; refine r_bb2b31 (cA) ?_) | (refine is_f 155 ?_; refine r_bb2b31 (cS) ?_) | (refine r_0efca5 (fun hb => ?_) (fun hb => ?_) <;> (try (exfalso; omega))) | fail))
  all_goals (first | exact absurd rfl hb | exact ret2c [] (Rt.wz _) (.bool rfl) rfl rfl rfl rfl rfl (post_none rfl) rfl)
 ·have hM : m < B64 ^ 4 := by simpa using hx
  have hN : n < B64 ^ 4 := by simpa using hy
  have cC := cmpW_m m n hM hN
  rw [wz_nat] at c1
  rw [wz_neg n hn] at c2
  rw [wz_nat m, wz_neg n hn]
  rcases Nat.lt_or_ge m n with hlt | hge
  ·have cS := sub_m n m hN hM (by omega)
   have cG := signedG_m true (n - m) (by omega)
   have hc := cmpN_lt0 hlt
   rw [zb_t] at cG
   rw [show (m : Int) + -(n : Int) = -((n - m : Nat) : Int) by omega]
   generalize n - m = s at *
   generalize cmpN m n = e at *
   refine fn_of Tryz.func147 rfl (Nat.le_of_ble_eq_true rfl) rfl rfl ?_
   (repeat' (first | refine r_4eabd4 ?_ | (refine is_f 144 ?_; refine r_bb2b31 (c1) ?_) | (refine is_f 144 ?_; refine r_bb2b31 (c2) ?_) | (refine is_f 150 ?_; refine r_bb2b31 (cC) ?_) | (refine is_f 158 ?_; refine r_bb2b31 (cS) ?_) | (refine is_f 155 ?_; refine r_bb2b31 (cG) ?_) | (refine r_0efca5 (fun hb => ?_) (fun hb => ?_) <;> (try (exfalso; omega))) | fail))
   all_goals (first | (exfalso; omega) | exact absurd rfl hb | exact ret2c [] (Rt.wz _) (.bool rfl) rfl rfl rfl rfl rfl (post_none rfl) rfl)
  ·have cS := sub_m m n hM hN hge
   have cG := signedG_m false (m - n) (by omega)
   have hc := cmpN_ge hge
   rw [zb_f] at cG
   rw [show (m : Int) + -(n : Int) = ((m - n : Nat) : Int) by omega]
   generalize m - n = s at *
   generalize cmpN m n = e at *
   refine fn_of Tryz.func147 rfl (Nat.le_of_ble_eq_true rfl) rfl rfl ?_
   (repeat' (first | refine r_4eabd4 ?_ | (refine is_f 144 ?_; refine r_bb2b31 (c1) ?_) | (refine is_f 144 ?_; refine r_bb2b31 (c2) ?_) | (refine is_f 150 ?_; refine r_bb2b31 (cC) ?_) | (refine is_f 158 ?_; refine r_bb2b31 (cS) ?_) | (refine is_f 155 ?_; refine r_bb2b31 (cG) ?_) | (refine r_0efca5 (fun hb => ?_) (fun hb => ?_) <;> (try (exfalso; omega))) | fail))
   all_goals (first | (exfalso; omega) | exact absurd rfl hb | exact ret2c [] (Rt.wz _) (.bool rfl) rfl rfl rfl rfl rfl (post_none rfl) rfl)
 ·have hM : m < B64 ^ 4 := by simpa using hx
  have hN : n < B64 ^ 4 := by simpa using hy
  have cC := cmpW_m m n hM hN
  rw [wz_neg m hm] at c1
  rw [wz_nat] at c2
  rw [wz_nat n, wz_neg m hm]
  rcases Nat.lt_or_ge m n with hlt | hge
  ·have cS := sub_m n m hN hM (by omega)
   have cG := signedG_m false (n - m) (by omega)
   have hc := cmpN_lt0 hlt
   rw [zb_f] at cG
   rw [show -(m : Int) + (n : Int) = ((n - m : Nat) : Int) by omega]
   generalize n - m = s at *
   generalize cmpN m n = e at *
   refine fn_of Tryz.func147 rfl (Nat.le_of_ble_eq_true rfl) rfl rfl ?_
   (repeat' (first | refine r_4eabd4 ?_ | (refine is_f 144 ?_; refine r_bb2b31 (c1) ?_) | (refine is_f 144 ?_; refine r_bb2b31 (c2) ?_) | (refine is_f 150 ?_; refine r_bb2b31 (cC) ?_) | (refine is_f 158 ?_; refine r_bb2b31 (cS) ?_) | (refine is_f 155 ?_; refine r_bb2b31 (cG) ?_) | (refine r_0efca5 (fun hb => ?_) (fun hb => ?_) <;> (try (exfalso; omega))) | fail))
   all_goals (first | (exfalso; omega) | exact absurd rfl hb | exact ret2c [] (Rt.wz _) (.bool rfl) rfl rfl rfl rfl rfl (post_none rfl) rfl)
  ·have cS := sub_m m n hM hN hge
   have cG := signedG_m true (m - n) (by omega)
   have hc := cmpN_ge hge
   rw [zb_t] at cG
   rw [show -(m : Int) + (n : Int) = -((m - n : Nat) : Int) by omega]
   generalize m - n = s at *
   generalize cmpN m n = e at *
   refine fn_of Tryz.func147 rfl (Nat.le_of_ble_eq_true rfl) rfl rfl ?_
   (repeat' (first | refine r_4eabd4 ?_ | (refine is_f 144 ?_; refine r_bb2b31 (c1) ?_) | (refine is_f 144 ?_; refine r_bb2b31 (c2) ?_) | (refine is_f 150 ?_; refine r_bb2b31 (cC) ?_) | (refine is_f 158 ?_; refine r_bb2b31 (cS) ?_) | (refine is_f 155 ?_; refine r_bb2b31 (cG) ?_) | (refine r_0efca5 (fun hb => ?_) (fun hb => ?_) <;> (try (exfalso; omega))) | fail))
   all_goals (first | (exfalso; omega) | exact absurd rfl hb | exact ret2c [] (Rt.wz _) (.bool rfl) rfl rfl rfl rfl rfl (post_none rfl) rfl)
 ·have hM : m < B64 ^ 4 := by simpa using hx
  have hN : n < B64 ^ 4 := by simpa using hy
  have hS : m + n < B64 ^ 4 := by omega
  have cA := add_m m n hM hN hS
  have cS := signedG_m true (m + n) hS
  rw [zb_t] at cS
  rw [show -(m : Int) + -(n : Int) = -((m + n : Nat) : Int) by omega]
  rw [wz_neg m hm] at c1
  rw [wz_neg n hn] at c2
  rw [wz_neg m hm, wz_neg n hn]
  generalize m + n = s at *
  refine fn_of Tryz.func147 rfl (Nat.le_of_ble_eq_true rfl) rfl rfl ?_
  (repeat' (first | refine r_4eabd4 ?_ | (refine is_f 144 ?_; refine r_bb2b31 (c1) ?_) | (refine is_f 144 ?_; refine r_bb2b31 (c2) ?_) | (refine is_f 157 ?_; refine r_bb2b31 (cA) ?_) | (refine is_f 155 ?_; refine r_bb2b31 (cS) ?_) | (refine r_0efca5 (fun hb => ?_) (fun hb => ?_) <;> (try (exfalso; omega))) | fail))
  all_goals (first | exact absurd rfl hb | exact ret2c [] (Rt.wz _) (.bool rfl) rfl rfl rfl rfl rfl (post_none rfl) rfl)
set_option maxHeartbeats 8000000 in
theorem wMulZ_m (x y : Int) (hx : x.natAbs < B64 ^ 4) (hy : y.natAbs < B64 ^ 4) (hxy : (x * y).natAbs < B64 ^ 4) : Meets Tryz.prog 148 [wz x, wz y] [] (.tu [wz (x * y), .r (.v (.bool true))]) [] := by
 have c1 := cleanZ_m x hx
 have c2 := cleanZ_m y hy
 rw [Int.natAbs_mul] at hxy
 rcases int_sign x with ⟨m, rfl⟩ | ⟨m, hm, rfl⟩ <;> rcases int_sign y with ⟨n, rfl⟩ | ⟨n, hn, rfl⟩
 ·have hM : m < B64 ^ 4 := by simpa using hx
  have hN : n < B64 ^ 4 := by simpa using hy
  have hS : m * n < B64 ^ 4 := by simpa using hxy
  have cA := mulW_m m n hM hN hS
  have cS := signedG_m false (m * n) hS
  rw [zb_f] at cS
  rw [show (m : Int) * (n : Int) = ((m * n : Nat) : Int) by simp]
  rw [wz_nat] at c1 c2
  rw [wz_nat m, wz_nat n]
  generalize m * n = s at *
  refine fn_of Tryz.func148 rfl (Nat.le_of_ble_eq_true rfl) rfl rfl ?_
  (repeat' (first | refine r_4eabd4 ?_ | (refine is_f 144 ?_; refine r_bb2b31 (c1) ?_) | (refine is_f 144 ?_; refine r_bb2b31 (c2) ?_) | (refine is_f 159 ?_; refine r_bb2b31 (cA) ?_) | (refine is_f 155 ?_; refine r_bb2b31 (cS) ?_) | (refine r_0efca5 (fun hb => ?_) (fun hb => ?_) <;> (try (exfalso; omega))) | fail))
  all_goals (first | exact absurd rfl hb | exact ret2c [] (Rt.wz _) (.bool rfl) rfl rfl rfl rfl rfl (post_none rfl) rfl)
 ·have hM : m < B64 ^ 4 := by simpa using hx
  have hN : n < B64 ^ 4 := by simpa using hy
  have hS : m * n < B64 ^ 4 := by simpa using hxy
  have cA := mulW_m m n hM hN hS
  have cS := signedG_m true (m * n) hS
  rw [zb_t] at cS
  rw [show (m : Int) * -(n : Int) = -((m * n : Nat) : Int) by rw [Int.mul_neg, Int.natCast_mul]]
  rw [wz_nat] at c1
  rw [wz_neg n hn] at c2
  rw [wz_nat m, wz_neg n hn]
  generalize m * n = s at *
  refine fn_of Tryz.func148 rfl (Nat.le_of_ble_eq_true rfl) rfl rfl ?_
  (repeat' (first | refine r_4eabd4 ?_ | (refine is_f 144 ?_; refine r_bb2b31 (c1) ?_) | (refine is_f 144 ?_; refine r_bb2b31 (c2) ?_) | (refine is_f 159 ?_; refine r_bb2b31 (cA) ?_) | (refine is_f 155 ?_; refine r_bb2b31 (cS) ?_) | (refine r_0efca5 (fun hb => ?_) (fun hb => ?_) <;> (try (exfalso; omega))) | fail))
  all_goals (first | exact absurd rfl hb | exact ret2c [] (Rt.wz _) (.bool rfl) rfl rfl rfl rfl rfl (post_none rfl) rfl)
 ·have hM : m < B64 ^ 4 := by simpa using hx
  have hN : n < B64 ^ 4 := by simpa using hy
  have hS : m * n < B64 ^ 4 := by simpa using hxy
  have cA := mulW_m m n hM hN hS
  have cS := signedG_m true (m * n) hS
  rw [zb_t] at cS
  rw [show -(m : Int) * (n : Int) = -((m * n : Nat) : Int) by rw [Int.neg_mul, Int.natCast_mul]]
  rw [wz_neg m hm] at c1
  rw [wz_nat] at c2
  rw [wz_nat n, wz_neg m hm]
  generalize m * n = s at *
  refine fn_of Tryz.func148 rfl (Nat.le_of_ble_eq_true rfl) rfl rfl ?_
  (repeat' (first | refine r_4eabd4 ?_ | (refine is_f 144 ?_; refine r_bb2b31 (c1) ?_) | (refine is_f 144 ?_; refine r_bb2b31 (c2) ?_) | (refine is_f 159 ?_; refine r_bb2b31 (cA) ?_) | (refine is_f 155 ?_; refine r_bb2b31 (cS) ?_) | (refine r_0efca5 (fun hb => ?_) (fun hb => ?_) <;> (try (exfalso; omega))) | fail))
  all_goals (first | exact absurd rfl hb | exact ret2c [] (Rt.wz _) (.bool rfl) rfl rfl rfl rfl rfl (post_none rfl) rfl)
 ·have hM : m < B64 ^ 4 := by simpa using hx
  have hN : n < B64 ^ 4 := by simpa using hy
  have hS : m * n < B64 ^ 4 := by simpa using hxy
  have cA := mulW_m m n hM hN hS
  have cS := signedG_m false (m * n) hS
  rw [zb_f] at cS
  rw [show -(m : Int) * -(n : Int) = ((m * n : Nat) : Int) by rw [Int.neg_mul_neg, Int.natCast_mul]]
  rw [wz_neg m hm] at c1
  rw [wz_neg n hn] at c2
  rw [wz_neg m hm, wz_neg n hn]
  generalize m * n = s at *
  refine fn_of Tryz.func148 rfl (Nat.le_of_ble_eq_true rfl) rfl rfl ?_
  (repeat' (first | refine r_4eabd4 ?_ | (refine is_f 144 ?_; refine r_bb2b31 (c1) ?_) | (refine is_f 144 ?_; refine r_bb2b31 (c2) ?_) | (refine is_f 159 ?_; refine r_bb2b31 (cA) ?_) | (refine is_f 155 ?_; refine r_bb2b31 (cS) ?_) | (refine r_0efca5 (fun hb => ?_) (fun hb => ?_) <;> (try (exfalso; omega))) | fail))
  all_goals (first | exact absurd rfl hb | exact ret2c [] (Rt.wz _) (.bool rfl) rfl rfl rfl rfl rfl (post_none rfl) rfl)
end Go.Proofs.YtibedaeefnjjlaaGreat
