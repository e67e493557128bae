/- Texts of the second layer in one: Wr7 Wr9 Rr1. -/
import Derived.Test.YtibedaeefnjjlaaGreatG34
import Derived.Test.YtibedaeefnjjlaaGreatG18
import Derived.Test.YtibedaeefnjjlaaGreatG22
/- The reference's whole numbers with a sign: Compare, Mul, Add, Sub, Unsigned. Conditions: ranges. --ext6 -/
namespace Go.Proofs.YtibedaeefnjjlaaGreat
open Go.RowKit Go.Ab Go.Wd
set_option maxRecDepth 100000
set_option linter.unusedVariables false
set_option linter.unusedSimpArgs false

theorem cmpN_range (m n : Nat) : cmpN m n = -1 ∨ cmpN m n = 0 ∨ cmpN m n = 1 := by
  unfold cmpN; split
  · exact .inl rfl
  · split
    · exact .inr (.inr rfl)
    · exact .inr (.inl rfl)
theorem sgZ_nat (n : Nat) : sgZ (n : Int) = if n = 0 then 0 else 1 := by
  unfold sgZ; rw [if_neg (by omega)]
  by_cases h : n = 0
  · rw [if_pos h, if_pos (by omega)]
  · rw [if_neg h, if_neg (by omega)]
theorem sgZ_neg (n : Nat) (h : n ≠ 0) : sgZ (-(n : Int)) = -1 := by unfold sgZ; rw [if_pos (by omega)]
set_option maxHeartbeats 4000000 in
theorem rCompare_m (x y : Int) (hx : x.natAbs < B64 ^ 4) (hy : y.natAbs < B64 ^ 4) : Meets Tryz.prog 44 [wz x, wz y] [] (.r (.v (.int .i64 (cmpZ x y)))) [] := by
  have s1 := rSign_m x hx
  have s2 := rSign_m y hy
  rcases int_sign x with ⟨m, rfl⟩ | ⟨m, hm, rfl⟩ <;> rcases int_sign y with ⟨n, rfl⟩ | ⟨n, hn, rfl⟩
  · have hM : m < B64 ^ 4 := by simpa using hx
    have hN : n < B64 ^ 4 := by simpa using hy
    have l1 := tw_len 4 m hM
    have l2 := tw_len 4 n hN
    have cC := compare_m m n (by omega) (by omega)
    have o1 := of_m false m hM
    have o2 := of_m false n hN
    rw [cmpZ_nn]
    rw [wz_nat] at s1 s2
    rw [wz_nat, wz_nat]
    rw [sgZ_nat] at s1 s2
    have hr := cmpN_range m n
    have k1 : m = 0 → n = 0 → cmpN m n = 0 := fun h g => by subst h g; rfl
    have k2 : m = 0 → n ≠ 0 → cmpN m n = -1 := fun h g => by unfold cmpN; rw [if_pos (by omega)]
    have k3 : m ≠ 0 → n = 0 → cmpN m n = 1 := fun h g => by unfold cmpN; rw [if_neg (by omega), if_pos (by omega)]
    generalize cmpN m n = e at *
    have hr1 : IntKind.i64.wrap (1 * e) = e := by rw [IntKind.wrap_i64]; omega
    by_cases h1 : m = 0 <;> by_cases h2 : n = 0
    · rw [if_pos h1] at s1
      rw [if_pos h2] at s2
      have hr0 : IntKind.i64.wrap (0 * e) = e := by rw [k1 h1 h2]; rfl
      refine fn_of Tryz.func44 rfl (Nat.le_of_ble_eq_true rfl) rfl rfl ?_
      (repeat' (first | refine r_4eabd4 ?_ | (refine is_f 46 ?_; refine r_bb2b31 (s1) ?_) | (refine is_f 46 ?_; refine r_bb2b31 (s2) ?_) | (refine is_f 81 ?_; refine r_bb2b31 (o1) ?_) | (refine is_f 81 ?_; refine r_bb2b31 (o2) ?_) | (refine is_f 82 ?_; refine r_bb2b31 (cC) ?_) | (refine r_48b933 (fun hb => ?_) (fun hb => ?_) <;> (try (exfalso; omega))) | (refine awp_cond rfl (fun hb => ?_) (fun hb => ?_) <;> (try simp only [Bool.not_eq_true', Bool.not_eq_false', decide_eq_true_eq, decide_eq_false_iff_not] at hb) <;> (try (exfalso; omega)))))
      all_goals (first | (exfalso; omega) | exact ret1 [] (.int rfl) rfl rfl rfl)
    · rw [if_pos h1] at s1
      rw [if_neg h2] at s2
      have k := k2 h1 h2
      refine fn_of Tryz.func44 rfl (Nat.le_of_ble_eq_true rfl) rfl rfl ?_
      (repeat' (first | refine r_4eabd4 ?_ | (refine is_f 46 ?_; refine r_bb2b31 (s1) ?_) | (refine is_f 46 ?_; refine r_bb2b31 (s2) ?_) | (refine is_f 81 ?_; refine r_bb2b31 (o1) ?_) | (refine is_f 81 ?_; refine r_bb2b31 (o2) ?_) | (refine is_f 82 ?_; refine r_bb2b31 (cC) ?_) | (refine r_48b933 (fun hb => ?_) (fun hb => ?_) <;> (try (exfalso; omega))) | (refine awp_cond rfl (fun hb => ?_) (fun hb => ?_) <;> (try simp only [Bool.not_eq_true', Bool.not_eq_false', decide_eq_true_eq, decide_eq_false_iff_not] at hb) <;> (try (exfalso; omega)))))
      all_goals (first | (exfalso; omega) | exact ret1 [] (.int k.symm) rfl rfl rfl)
    · rw [if_neg h1] at s1
      rw [if_pos h2] at s2
      have k := k3 h1 h2
      refine fn_of Tryz.func44 rfl (Nat.le_of_ble_eq_true rfl) rfl rfl ?_
      (repeat' (first | refine r_4eabd4 ?_ | (refine is_f 46 ?_; refine r_bb2b31 (s1) ?_) | (refine is_f 46 ?_; refine r_bb2b31 (s2) ?_) | (refine is_f 81 ?_; refine r_bb2b31 (o1) ?_) | (refine is_f 81 ?_; refine r_bb2b31 (o2) ?_) | (refine is_f 82 ?_; refine r_bb2b31 (cC) ?_) | (refine r_48b933 (fun hb => ?_) (fun hb => ?_) <;> (try (exfalso; omega))) | (refine awp_cond rfl (fun hb => ?_) (fun hb => ?_) <;> (try simp only [Bool.not_eq_true', Bool.not_eq_false', decide_eq_true_eq, decide_eq_false_iff_not] at hb) <;> (try (exfalso; omega)))))
      all_goals (first | (exfalso; omega) | exact ret1 [] (.int k.symm) rfl rfl rfl)
    · rw [if_neg h1] at s1
      rw [if_neg h2] at s2
      refine fn_of Tryz.func44 rfl (Nat.le_of_ble_eq_true rfl) rfl rfl ?_
      (repeat' (first | refine r_4eabd4 ?_ | (refine is_f 46 ?_; refine r_bb2b31 (s1) ?_) | (refine is_f 46 ?_; refine r_bb2b31 (s2) ?_) | (refine is_f 81 ?_; refine r_bb2b31 (o1) ?_) | (refine is_f 81 ?_; refine r_bb2b31 (o2) ?_) | (refine is_f 82 ?_; refine r_bb2b31 (cC) ?_) | (refine r_48b933 (fun hb => ?_) (fun hb => ?_) <;> (try (exfalso; omega))) | (refine awp_cond rfl (fun hb => ?_) (fun hb => ?_) <;> (try simp only [Bool.not_eq_true', Bool.not_eq_false', decide_eq_true_eq, decide_eq_false_iff_not] at hb) <;> (try (exfalso; omega)))))
      all_goals (first | (exfalso; omega) | exact ret1 [] (.int rfl) rfl rfl rfl)
  · have e : (1 : Int) = cmpZ (m : Int) (-(n : Int)) := by unfold cmpZ; rw [if_neg (by omega), if_pos (by omega)]
    rw [sgZ_neg n hn] at s2
    have hs : 0 ≤ sgZ (m : Int) := by rw [sgZ_nat]; split <;> omega
    rw [wz_nat] at s1
    rw [wz_neg n hn] at s2
    rw [wz_nat, wz_neg n hn]
    generalize sgZ (m : Int) = sg at *
    refine fn_of Tryz.func44 rfl (Nat.le_of_ble_eq_true rfl) rfl rfl ?_
    (repeat' (first | refine r_4eabd4 ?_ | (refine is_f 46 ?_; refine r_bb2b31 (s1) ?_) | (refine is_f 46 ?_; refine r_bb2b31 (s2) ?_) | (refine r_48b933 (fun hb => ?_) (fun hb => ?_) <;> (try (exfalso; omega))) | (refine awp_cond rfl (fun hb => ?_) (fun hb => ?_) <;> (try simp only [Bool.not_eq_true', Bool.not_eq_false', decide_eq_true_eq, decide_eq_false_iff_not] at hb) <;> (try (exfalso; omega)))))
    all_goals (first | (exfalso; omega) | exact ret1 [] (.int e) rfl rfl rfl)
  · have e : (-1 : Int) = cmpZ (-(m : Int)) (n : Int) := by unfold cmpZ; rw [if_pos (by omega)]
    rw [sgZ_neg m hm] at s1
    have hs : 0 ≤ sgZ (n : Int) := by rw [sgZ_nat]; split <;> omega
    rw [wz_neg m hm] at s1
    rw [wz_nat] at s2
    rw [wz_nat, wz_neg m hm]
    generalize sgZ (n : Int) = sg at *
    refine fn_of Tryz.func44 rfl (Nat.le_of_ble_eq_true rfl) rfl rfl ?_
    (repeat' (first | refine r_4eabd4 ?_ | (refine is_f 46 ?_; refine r_bb2b31 (s1) ?_) | (refine is_f 46 ?_; refine r_bb2b31 (s2) ?_) | (refine r_48b933 (fun hb => ?_) (fun hb => ?_) <;> (try (exfalso; omega))) | (refine awp_cond rfl (fun hb => ?_) (fun hb => ?_) <;> (try simp only [Bool.not_eq_true', Bool.not_eq_false', decide_eq_true_eq, decide_eq_false_iff_not] at hb) <;> (try (exfalso; omega)))))
    all_goals (first | (exfalso; omega) | exact ret1 [] (.int e) rfl rfl rfl)
  · have hM : m < B64 ^ 4 := by simpa using hx
    have hN : n < B64 ^ 4 := by simpa using hy
    have l1 := tw_len 4 m hM
    have l2 := tw_len 4 n hN
    have cC := compare_m m n (by omega) (by omega)
    have o1 := of_m true m hM
    have o2 := of_m true n hN
    have hr := cmpN_range m n
    have hr1 : IntKind.i64.wrap (-1 * cmpN m n) = cmpN n m := by
      unfold cmpN
      rcases Nat.lt_trichotomy m n with h | h | h
      · rw [if_pos h, if_neg (by omega), if_pos h]; rfl
      · subst h; rw [if_neg (Nat.lt_irrefl m), if_neg (Nat.lt_irrefl m)]; rfl
      · rw [if_neg (by omega), if_pos h, if_pos h]; rfl
    rw [cmpZ_neg]
    rw [sgZ_neg m hm, wz_neg m hm] at s1
    rw [sgZ_neg n hn, wz_neg n hn] at s2
    rw [wz_neg m hm, wz_neg n hn]
    generalize cmpN m n = e at *
    generalize cmpN n m = e2 at *
    refine fn_of Tryz.func44 rfl (Nat.le_of_ble_eq_true rfl) rfl rfl ?_
    (repeat' (first | refine r_4eabd4 ?_ | (refine is_f 46 ?_; refine r_bb2b31 (s1) ?_) | (refine is_f 46 ?_; refine r_bb2b31 (s2) ?_) | (refine is_f 81 ?_; refine r_bb2b31 (o1) ?_) | (refine is_f 81 ?_; refine r_bb2b31 (o2) ?_) | (refine is_f 82 ?_; refine r_bb2b31 (cC) ?_) | (refine r_48b933 (fun hb => ?_) (fun hb => ?_) <;> (try (exfalso; omega))) | (refine awp_cond rfl (fun hb => ?_) (fun hb => ?_) <;> (try simp only [Bool.not_eq_true', Bool.not_eq_false', decide_eq_true_eq, decide_eq_false_iff_not] at hb) <;> (try (exfalso; omega)))))
    all_goals (first | (exfalso; omega) | exact ret1 [] (.int rfl) rfl rfl rfl)
set_option maxHeartbeats 4000000 in
theorem rMul_m (x y : Int) (hx : x.natAbs < B64 ^ 4) (hy : y.natAbs < B64 ^ 4) (hxy : (x * y).natAbs < B64 ^ 4) : Meets Tryz.prog 43 [wz x, wz y] [] (.tu [wz (x * y), .r (.v (.bool true))]) [] := by
  have c1 := cleanRZ_m x hx
  have c2 := cleanRZ_m y hy
  rw [Int.natAbs_mul] at hxy
  rcases int_sign x with ⟨m, rfl⟩ | ⟨m, hm, rfl⟩ <;> rcases int_sign y with ⟨n, rfl⟩ | ⟨n, hn, rfl⟩
  · have hM : m < B64 ^ 4 := by simpa using hx
    have hN : n < B64 ^ 4 := by simpa using hy
    have hS : m * n < B64 ^ 4 := by simpa using hxy
    have l1 := tw_len 4 m hM
    have l2 := tw_len 4 n hN
    have cA := refMulL_m (tw m) (tw n) (tw_wds m) (tw_wds n) (by omega) (by omega)
    rw [val_tw, val_tw] at cA
    have o1 := of_m false m hM
    have o2 := of_m false n hN
    have cS := wideZ_m false (m * n) hS
    rw [zb_f] at cS
    rw [show (m : Int) * (n : Int) = ((m * n : Nat) : Int) by rw [Int.natCast_mul]]
    rw [wz_nat m] at c1
    rw [wz_nat n] at c2
    rw [wz_nat m, wz_nat n]
    generalize m * n = s at *
    refine fn_of Tryz.func43 rfl (Nat.le_of_ble_eq_true rfl) rfl rfl ?_
    (repeat' (first | refine r_4eabd4 ?_ | (refine is_f 78 ?_; refine r_bb2b31 (c1) ?_) | (refine is_f 78 ?_; refine r_bb2b31 (c2) ?_) | (refine is_f 81 ?_; refine r_bb2b31 (o1) ?_) | (refine is_f 81 ?_; refine r_bb2b31 (o2) ?_) | (refine is_f 80 ?_; refine r_bb2b31 (cA) ?_) | (refine is_f 79 ?_; refine r_bb2b31 (cS) ?_) | (refine r_48b933 (fun hb => ?_) (fun hb => ?_) <;> (try (exfalso; omega))) | (refine awp_cond rfl (fun hb => ?_) (fun hb => ?_) <;> (try simp only [Bool.not_eq_true', Bool.not_eq_false', decide_eq_true_eq, decide_eq_false_iff_not] at hb) <;> (try (exfalso; omega)))))
    all_goals (first | exact absurd rfl hb | exact ret2c [] (Rt.wz _) (.bool rfl) rfl rfl rfl rfl rfl (post_none rfl) rfl)
  · have hM : m < B64 ^ 4 := by simpa using hx
    have hN : n < B64 ^ 4 := by simpa using hy
    have hS : m * n < B64 ^ 4 := by simpa using hxy
    have l1 := tw_len 4 m hM
    have l2 := tw_len 4 n hN
    have cA := refMulL_m (tw m) (tw n) (tw_wds m) (tw_wds n) (by omega) (by omega)
    rw [val_tw, val_tw] at cA
    have o1 := of_m false m hM
    have o2 := of_m true n hN
    have cS := wideZ_m true (m * n) hS
    rw [zb_t] at cS
    rw [show (m : Int) * -(n : Int) = -((m * n : Nat) : Int) by rw [Int.mul_neg, Int.natCast_mul]]
    rw [wz_nat m] at c1
    rw [wz_neg n hn] at c2
    rw [wz_nat m, wz_neg n hn]
    generalize m * n = s at *
    refine fn_of Tryz.func43 rfl (Nat.le_of_ble_eq_true rfl) rfl rfl ?_
    (repeat' (first | refine r_4eabd4 ?_ | (refine is_f 78 ?_; refine r_bb2b31 (c1) ?_) | (refine is_f 78 ?_; refine r_bb2b31 (c2) ?_) | (refine is_f 81 ?_; refine r_bb2b31 (o1) ?_) | (refine is_f 81 ?_; refine r_bb2b31 (o2) ?_) | (refine is_f 80 ?_; refine r_bb2b31 (cA) ?_) | (refine is_f 79 ?_; refine r_bb2b31 (cS) ?_) | (refine r_48b933 (fun hb => ?_) (fun hb => ?_) <;> (try (exfalso; omega))) | (refine awp_cond rfl (fun hb => ?_) (fun hb => ?_) <;> (try simp only [Bool.not_eq_true', Bool.not_eq_false', decide_eq_true_eq, decide_eq_false_iff_not] at hb) <;> (try (exfalso; omega)))))
    all_goals (first | exact absurd rfl hb | exact ret2c [] (Rt.wz _) (.bool rfl) rfl rfl rfl rfl rfl (post_none rfl) rfl)
  · have hM : m < B64 ^ 4 := by simpa using hx
    have hN : n < B64 ^ 4 := by simpa using hy
    have hS : m * n < B64 ^ 4 := by simpa using hxy
    have l1 := tw_len 4 m hM
    have l2 := tw_len 4 n hN
    have cA := refMulL_m (tw m) (tw n) (tw_wds m) (tw_wds n) (by omega) (by omega)
    rw [val_tw, val_tw] at cA
    have o1 := of_m true m hM
    have o2 := of_m false n hN
    have cS := wideZ_m true (m * n) hS
    rw [zb_t] at cS
    rw [show -(m : Int) * (n : Int) = -((m * n : Nat) : Int) by rw [Int.neg_mul, Int.natCast_mul]]
    rw [wz_neg m hm] at c1
    rw [wz_nat n] at c2
    rw [wz_neg m hm, wz_nat n]
    generalize m * n = s at *
    refine fn_of Tryz.func43 rfl (Nat.le_of_ble_eq_true rfl) rfl rfl ?_
    (repeat' (first | refine r_4eabd4 ?_ | (refine is_f 78 ?_; refine r_bb2b31 (c1) ?_) | (refine is_f 78 ?_; refine r_bb2b31 (c2) ?_) | (refine is_f 81 ?_; refine r_bb2b31 (o1) ?_) | (refine is_f 81 ?_; refine r_bb2b31 (o2) ?_) | (refine is_f 80 ?_; refine r_bb2b31 (cA) ?_) | (refine is_f 79 ?_; refine r_bb2b31 (cS) ?_) | (refine r_48b933 (fun hb => ?_) (fun hb => ?_) <;> (try (exfalso; omega))) | (refine awp_cond rfl (fun hb => ?_) (fun hb => ?_) <;> (try simp only [Bool.not_eq_true', Bool.not_eq_false', decide_eq_true_eq, decide_eq_false_iff_not] at hb) <;> (try (exfalso; omega)))))
    all_goals (first | exact absurd rfl hb | exact ret2c [] (Rt.wz _) (.bool rfl) rfl rfl rfl rfl rfl (post_none rfl) rfl)
  · have hM : m < B64 ^ 4 := by simpa using hx
    have hN : n < B64 ^ 4 := by simpa using hy
    have hS : m * n < B64 ^ 4 := by simpa using hxy
    have l1 := tw_len 4 m hM
    have l2 := tw_len 4 n hN
    have cA := refMulL_m (tw m) (tw n) (tw_wds m) (tw_wds n) (by omega) (by omega)
    rw [val_tw, val_tw] at cA
    have o1 := of_m true m hM
    have o2 := of_m true n hN
    have cS := wideZ_m false (m * n) hS
    rw [zb_f] at cS
    rw [show -(m : Int) * -(n : Int) = ((m * n : Nat) : Int) by rw [Int.neg_mul_neg, Int.natCast_mul]]
    rw [wz_neg m hm] at c1
    rw [wz_neg n hn] at c2
    rw [wz_neg m hm, wz_neg n hn]
    generalize m * n = s at *
    refine fn_of Tryz.func43 rfl (Nat.le_of_ble_eq_true rfl) rfl rfl ?_
    (repeat' (first | refine r_4eabd4 ?_ | (refine is_f 78 ?_; refine r_bb2b31 (c1) ?_) | (refine is_f 78 ?_; refine r_bb2b31 (c2) ?_) | (refine is_f 81 ?_; refine r_bb2b31 (o1) ?_) | (refine is_f 81 ?_; refine r_bb2b31 (o2) ?_) | (refine is_f 80 ?_; refine r_bb2b31 (cA) ?_) | (refine is_f 79 ?_; refine r_bb2b31 (cS) ?_) | (refine r_48b933 (fun hb => ?_) (fun hb => ?_) <;> (try (exfalso; omega))) | (refine awp_cond rfl (fun hb => ?_) (fun hb => ?_) <;> (try simp only [Bool.not_eq_true', Bool.not_eq_false', decide_eq_true_eq, decide_eq_false_iff_not] at hb) <;> (try (exfalso; omega)))))
    all_goals (first | exact absurd rfl hb | exact ret2c [] (Rt.wz _) (.bool rfl) rfl rfl rfl rfl rfl (post_none rfl) rfl)
end Go.Proofs.YtibedaeefnjjlaaGreat

/- The reference's whole numbers: Unsigned, DivMod of numbers that are not negative. Conditions: ranges. --ext6 -/
namespace Go.Proofs.YtibedaeefnjjlaaGreat
open Go.RowKit Go.Ab Go.Wd
set_option maxRecDepth 100000
set_option linter.unusedVariables false
set_option linter.unusedSimpArgs false

theorem rUnsigned_m (n : Nat) (hn : n < B64) : Meets Tryz.prog 83 [wz (n : Int)] [] (.tu [.r (.v (.int .u64 (n : Int))), .r (.v (.bool true))]) [] := by
  have hB : n < B64 ^ 4 := by rw [B64_q]; unfold B64 at hn; omega
  have c1 := cleanRZ_m (n : Int) (by simpa using hB)
  have o1 := of_m false n hB
  rw [wz_nat] at c1 ⊢
  have l1 : (wns (tw n)).length ≤ 1 := by rw [wns_len]; exact tw_len 1 n (by rw [Nat.pow_one]; exact hn)
  have hm : ((n % B64 : Nat) : Int) = (n : Int) := by rw [Nat.mod_eq_of_lt hn]
  refine fn_of Tryz.func83 rfl (Nat.le_of_ble_eq_true rfl) rfl rfl ?_
  (repeat' (first | refine r_4eabd4 ?_ | (refine is_f 78 ?_; refine r_bb2b31 (c1) ?_) | (refine is_f 81 ?_; refine r_bb2b31 (o1) ?_) | (refine r_48b933 (fun hb => ?_) (fun hb => ?_) <;> (try (exfalso; omega))) | (refine awp_cond rfl (fun hb => ?_) (fun hb => ?_) <;> (try simp only [Bool.not_eq_true', Bool.not_eq_false', decide_eq_true_eq, decide_eq_false_iff_not] at hb) <;> (try (exfalso; omega)))))
  all_goals (first | (exfalso; omega) | exact ret2 [] (.int hm) (.bool rfl) rfl rfl rfl rfl)
set_option maxHeartbeats 4000000 in
theorem rDivModN_m (m n : Nat) (hM : m < B64 ^ 4) (hN : n < B64 ^ 4) (hn0 : n ≠ 0) (cD : Meets Tryz.prog 85 [.r (.sl 1 (wns (tw m))), .r (.sl 1 (wns (tw n)))] [] (.tu [.r (.sl 1 (wns (tw (m / n)))), .r (.sl 1 (wns (tw (m % n))))]) []) :
    Meets Tryz.prog 49 [wz (m : Int), wz (n : Int)] [] (.tu [wz ((m / n : Nat) : Int), wz ((m % n : Nat) : Int), .r (.v (.bool true))]) [] := by
  have c1 := cleanRZ_m (m : Int) (by simpa using hM)
  have c2 := cleanRZ_m (n : Int) (by simpa using hN)
  have cS := rSign_m (n : Int) (by simpa using hN)
  have hsg : ¬ sgZ (n : Int) = 0 := by rw [sgZ_nat, if_neg hn0]; omega
  have o1 := of_m false m hM
  have o2 := of_m false n hN
  have hq : m / n < B64 ^ 4 := Nat.lt_of_le_of_lt (Nat.div_le_self _ _) hM
  have hr : m % n < B64 ^ 4 := Nat.lt_of_le_of_lt (Nat.mod_le _ _) hM
  have w1 := wideZ_m false (m / n) hq
  have w2 := wideZ_m false (m % n) hr
  rw [zb_f] at w1 w2
  rw [wz_nat] at c1 c2 cS
  rw [wz_nat m, wz_nat n]
  generalize sgZ (n : Int) = sg at *
  generalize m / n = q at *
  generalize m % n = r at *
  refine fn_of Tryz.func49 rfl (Nat.le_of_ble_eq_true rfl) rfl rfl ?_
  (repeat' (first | refine r_4eabd4 ?_ | (refine is_f 78 ?_; refine r_bb2b31 (c1) ?_) | (refine is_f 78 ?_; refine r_bb2b31 (c2) ?_) | (refine is_f 46 ?_; refine r_bb2b31 (cS) ?_) | (refine is_f 81 ?_; refine r_bb2b31 (o1) ?_) | (refine is_f 81 ?_; refine r_bb2b31 (o2) ?_) | (refine is_f 85 ?_; refine r_bb2b31 (cD) ?_) | (refine is_f 79 ?_; refine r_bb2b31 (w1) ?_) | (refine is_f 79 ?_; refine r_bb2b31 (w2) ?_) | (refine r_48b933 (fun hb => ?_) (fun hb => ?_) <;> (try (exfalso; omega))) | (refine awp_cond rfl (fun hb => ?_) (fun hb => ?_) <;> (try simp only [Bool.not_eq_true', Bool.not_eq_false', decide_eq_true_eq, decide_eq_false_iff_not] at hb) <;> (try (exfalso; omega)))))
  all_goals (first | (exfalso; omega) | exact absurd rfl hb | exact ret3cc [] (Rt.wz _) (Rt.wz _) (.bool rfl) rfl rfl rfl rfl rfl rfl rfl rfl (post_none rfl) rfl)
end Go.Proofs.YtibedaeefnjjlaaGreat

/- The reference's fractions: small, abs, one, gcd of numbers of one word. Conditions: ranges. --ext6 -/
namespace Go.Proofs.YtibedaeefnjjlaaGreat
open Go.RowKit Go.Ab Go.Wd
set_option maxRecDepth 100000
set_option linter.unusedVariables false
set_option linter.unusedSimpArgs false

set_option maxHeartbeats 4000000 in
theorem rSmallW_m (b : Bool) (n : Nat) (hn : n < B64 ^ 4) : Meets Tryz.prog 77 [wd b n] [] (.r (.v (.bool (decide (n < N127))))) [] := by
  have k1 : ¬ ((n / B64 / B64 / B64 % B64 : Nat) : Int) = 0 → false = decide (n < N127) := fun h => by
    refine (decide_eq_false ?_).symm
    unfold N127; unfold B64 at h; omega
  have k2 : ¬ ((n / B64 / B64 % B64 : Nat) : Int) = 0 → false = decide (n < N127) := fun h => by
    refine (decide_eq_false ?_).symm
    unfold N127; unfold B64 at h; omega
  have k3 : ¬ ((n / B64 % B64 : Nat) : Int) < 9223372036854775808 → false = decide (n < N127) := fun h => by
    refine (decide_eq_false ?_).symm
    unfold N127; unfold B64 at h; omega
  have k4 : ((n / B64 / B64 / B64 % B64 : Nat) : Int) = 0 → ((n / B64 / B64 % B64 : Nat) : Int) = 0 → ((n / B64 % B64 : Nat) : Int) < 9223372036854775808 → true = decide (n < N127) := fun h1 h2 h3 => by
    refine (decide_eq_true ?_).symm
    rw [B64_q] at hn
    unfold N127; unfold B64 at h1 h2 h3; omega
  unfold wd
  clear hn
  generalize decide (n < N127) = r at *
  generalize n / B64 / B64 / B64 % B64 = w3 at *
  generalize n / B64 / B64 % B64 = w2 at *
  generalize n / B64 % B64 = w1 at *
  generalize n % B64 = w0 at *
  refine fn_of Tryz.func77 rfl (Nat.le_of_ble_eq_true rfl) rfl rfl ?_
  (repeat' (first | refine r_4eabd4 ?_ | (refine r_48b933 (fun hb => ?_) (fun hb => ?_) <;> (try (exfalso; omega))) | (refine awp_cond rfl (fun hb => ?_) (fun hb => ?_) <;> (try simp only [Bool.not_eq_true', Bool.not_eq_false', decide_eq_true_eq, decide_eq_false_iff_not] at hb) <;> (try (exfalso; omega)))))
  all_goals (first | (exfalso; omega) | exact ret1 [] (.bool (k4 (by assumption) (by assumption) (by assumption))) rfl rfl rfl | exact ret1 [] (.bool (k1 (by assumption))) rfl rfl rfl | exact ret1 [] (.bool (k2 (by assumption))) rfl rfl rfl | exact ret1 [] (.bool (k3 (by assumption))) rfl rfl rfl)
theorem rAbs_m (z : Int) (hz : W4 z) : Meets Tryz.prog 48 [wz z] [] (wz ((z.natAbs : Nat) : Int)) [] := by
  rw [wz_nat]
  unfold wz
  refine fn_of Tryz.func48 rfl (Nat.le_of_ble_eq_true rfl) rfl rfl ?_
  (repeat' (first | refine r_4eabd4 ?_ | (refine r_48b933 (fun hb => ?_) (fun hb => ?_) <;> (try (exfalso; omega))) | (refine awp_cond rfl (fun hb => ?_) (fun hb => ?_) <;> (try simp only [Bool.not_eq_true', Bool.not_eq_false', decide_eq_true_eq, decide_eq_false_iff_not] at hb) <;> (try (exfalso; omega)))))
  all_goals exact ret1c [] (Rt.wd false z.natAbs) rfl rfl rfl rfl (post_none rfl) rfl
theorem rOne_m : Meets Tryz.prog 60 [] [] (wz 1) [] := by
  have c := rOf_m 1 (by constructor <;> decide)
  refine fn_of Tryz.func60 rfl (Nat.le_of_ble_eq_true rfl) rfl rfl ?_
  (repeat' (first | refine r_4eabd4 ?_ | (refine is_f 21 ?_; refine r_bb2b31 (c) ?_) | (refine r_48b933 (fun hb => ?_) (fun hb => ?_) <;> (try (exfalso; omega))) | (refine awp_cond rfl (fun hb => ?_) (fun hb => ?_) <;> (try simp only [Bool.not_eq_true', Bool.not_eq_false', decide_eq_true_eq, decide_eq_false_iff_not] at hb) <;> (try (exfalso; omega)))))
  all_goals exact ret1c [] (Rt.wz 1) rfl rfl rfl rfl (post_none rfl) rfl
def rgI (m n x y : Nat) : St := ⟨[(2, .pt 0 0), (3, .pt 1 0), (4, .pt 2 0), (5, .r (.v (.int .u64 (x : Int)))), (7, .r (.v (.int .u64 (y : Int))))], [(0, some (.var 36 (cellsA (wd false m)))), (1, some (.var 36 (cellsA (wd false n)))), (2, some (.var 36 (cellsA (wd false 0))))], 3⟩
set_option maxHeartbeats 4000000 in
theorem rGcdS_m (m n : Nat) (hm : m < B64) (hn : n < B64) : Meets Tryz.prog 47 [wz (m : Int), wz (n : Int)] [] (wz ((Nat.gcd m n : Nat) : Int)) [] := by
  have hm4 : m < B64 ^ 4 := by rw [B64_q]; unfold B64 at hm; omega
  have hn4 : n < B64 ^ 4 := by rw [B64_q]; unfold B64 at hn; omega
  have cS := rSign_m (n : Int) (w4_nat hn4)
  have u1 := rUnsigned_m m hm
  have u2 := rUnsigned_m n hn
  rw [wz_nat] at cS u1 u2 ⊢
  rw [wz_nat, wz_nat]
  have cU := fun x hx => rOfU_m x hx
  refine fn_of Tryz.func47 rfl (Nat.le_of_ble_eq_true rfl) rfl rfl ?_
  (repeat' (first | refine r_4eabd4 ?_ | (refine r_48b933 (fun hb => ?_) (fun hb => ?_) <;> (try (exfalso; omega))) | (refine awp_cond rfl (fun hb => ?_) (fun hb => ?_) <;> (try simp only [Bool.not_eq_true', Bool.not_eq_false', decide_eq_true_eq, decide_eq_false_iff_not] at hb) <;> (try (exfalso; omega)))))
  refine awp_loop' (fun _ : Unit => dgS m n) (fun _ => True) (fun _ => 0) () trivial (by (refine Le.mk [(0,0),(1,1),(2,2)] [] q_5ec36 q_43730 q_16bb5 q_509a2)) fun _ _ => ?_
  change awp _ _ _ _ _ (dgS m n)
  by_cases h0 : n = 0
  · subst h0
    rw [Nat.gcd_zero_right]
    rw [show sgZ ((0 : Nat) : Int) = 0 from rfl] at cS
    (repeat' (first | refine r_4eabd4 ?_ | (refine is_f 46 ?_; refine r_bb2b31 (cS) ?_) | (refine r_48b933 (fun hb => ?_) (fun hb => ?_) <;> (try (exfalso; omega))) | (refine awp_cond rfl (fun hb => ?_) (fun hb => ?_) <;> (try simp only [Bool.not_eq_true', Bool.not_eq_false', decide_eq_true_eq, decide_eq_false_iff_not] at hb) <;> (try (exfalso; omega)))))
    all_goals (first | (exfalso; omega) | exact absurd rfl hb | exact ret1c [] (Rt.wd false m) rfl rfl rfl rfl (post_none rfl) rfl)
  · have hs : ¬ sgZ (n : Int) = 0 := by unfold sgZ; rw [if_neg (by omega), if_neg (by omega)]; omega
    generalize sgZ (n : Int) = sg at *
    (repeat' (first | refine r_4eabd4 ?_ | (refine is_f 46 ?_; refine r_bb2b31 (cS) ?_) | (refine is_f 83 ?_; refine r_bb2b31 (u1) ?_) | (refine is_f 83 ?_; refine r_bb2b31 (u2) ?_) | (refine r_48b933 (fun hb => ?_) (fun hb => ?_) <;> (try (exfalso; omega))) | (refine awp_cond rfl (fun hb => ?_) (fun hb => ?_) <;> (try simp only [Bool.not_eq_true', Bool.not_eq_false', decide_eq_true_eq, decide_eq_false_iff_not] at hb) <;> (try (exfalso; omega)))))
    all_goals (first | (exfalso; omega) | skip)
    refine awp_loop' (fun x : Nat × Nat => rgI m n x.1 x.2) (fun x => Nat.gcd x.1 x.2 = Nat.gcd m n ∧ x.1 < B64 ∧ x.2 < B64) (fun x => x.2) (m, n) ⟨rfl, hm, hn⟩ (by (refine Le.mk [(0,0),(1,1),(2,2)] [] q_5ec36 q_43730 q_16bb5 q_509a2)) fun x hx => ?_
    obtain ⟨x, y⟩ := x
    obtain ⟨hx1, hx2, hx3⟩ := hx
    dsimp only at hx1 hx2 hx3
    change awp _ _ _ _ _ (rgI m n x y)
    by_cases hy0 : y = 0
    · subst hy0
      rw [Nat.gcd_zero_right] at hx1
      rw [← hx1]
      have cU := cU x hx2
      rw [wz_nat] at cU
      (repeat' (first | refine r_4eabd4 ?_ | (refine is_f 84 ?_; refine r_bb2b31 (cU) ?_) | (refine r_48b933 (fun hb => ?_) (fun hb => ?_) <;> (try (exfalso; omega))) | (refine awp_cond rfl (fun hb => ?_) (fun hb => ?_) <;> (try simp only [Bool.not_eq_true', Bool.not_eq_false', decide_eq_true_eq, decide_eq_false_iff_not] at hb) <;> (try (exfalso; omega)))))
      all_goals (first | (exfalso; omega) | exact absurd rfl hb | exact ret1c [] (Rt.wd false x) rfl rfl rfl rfl (post_none rfl) rfl)
    · have hrem := u64_tmod x y
      have hlt := Nat.mod_lt x (Nat.pos_of_ne_zero hy0)
      have hg : Nat.gcd y (x % y) = Nat.gcd m n := by rw [← hx1, Nat.gcd_comm x y, Nat.gcd_rec y x, Nat.gcd_comm]
      have hyi : (y : Int) ≠ 0 := by omega
      clear cU
      generalize x % y = r at *
      (repeat' (first | refine r_4eabd4 ?_ | (refine r_48b933 (fun hb => ?_) (fun hb => ?_) <;> (try (exfalso; omega))) | (refine awp_cond rfl (fun hb => ?_) (fun hb => ?_) <;> (try simp only [Bool.not_eq_true', Bool.not_eq_false', decide_eq_true_eq, decide_eq_false_iff_not] at hb) <;> (try (exfalso; omega)))))
      all_goals (first | (exfalso; omega) | exact ⟨(y, r), ⟨hg, hx3, by show r < B64; omega⟩, by show Le _ _ (rgI m n y r); (refine Le.mk [(0,0),(1,1),(2,2)] [] q_5ec36 q_43730 q_16bb5 q_509a2), by show r < y; omega⟩)
end Go.Proofs.YtibedaeefnjjlaaGreat
