/- Texts of the second layer in one: Wr7 Wr9 Rr1. -/
import Derived.Test.YtibedaeefnjjlaaGreatG21
import Derived.Test.YtibedaeefnjjlaaGreatG5
import Derived.Test.YtibedaeefnjjlaaGreatG15
set_option maxHeartbeats 4000000
set_option maxRecDepth 100000
set_option linter.unusedVariables false
set_option linter.unusedSimpArgs false
namespace Go.Proofs.YtibedaeefnjjlaaGreat
open Go.RowKit Go.Ab Go.Wd
theorem zh6 (m n : Nat) : cmpN m n = -1 ∨ cmpN m n = 0 ∨ cmpN m n = 1 := by
 unfold cmpN; split
 ·exact .inl rfl
 ·split
  ·exact .inr (.inr rfl)
  ·exact .inr (.inl rfl)
theorem zjk (n : Nat) : sgZ (n : Int) = if n = 0 then 0 else 1 := by
 unfold sgZ; rw [if_neg (by omega)]
 by_cases h : n = 0
 ·rw [if_pos h, if_pos (by omega)]
 ·rw [if_neg h, if_neg (by omega)]
theorem zjl (n : Nat) (h : n ≠ 0) : sgZ (-(n : Int)) = -1 := by unfold sgZ; rw [if_pos (by omega)]
theorem ze5 (x y : Int) (hx : x.natAbs < B64 ^ 4) (hy : y.natAbs < B64 ^ 4) : zan Tryz.prog 44 [wz x, wz y] [] (.r (.v (.int .i64 (cmpZ x y)))) [] := by
 have s1 := zdj x hx
 have s2 := zdj y hy
 rcases zbk x with ⟨m, rfl⟩ | ⟨m, hm, rfl⟩ <;> rcases zbk y with ⟨n, rfl⟩ | ⟨n, hn, rfl⟩
 ·have hM : m < B64 ^ 4 := by simpa using hx
  have hN : n < B64 ^ 4 := by simpa using hy
  have l1 := zbw 4 m hM
  have l2 := zbw 4 n hN
  have cC := zer m n (by omega) (by omega)
  have o1 := of_m false m hM
  have o2 := of_m false n hN
  rw [znM]
  rw [zat] at s1 s2
  rw [zat, zat]
  rw [zjk] at s1 s2
  have hr := zh6 m n
  have k1 : m = 0 → n = 0 → cmpN m n = 0 := fun h g => by subst h g; rfl
  have k2 : m = 0 → n ≠ 0 → cmpN m n = -1 := fun h g => by unfold cmpN; rw [if_pos (by omega)]
  have k3 : m ≠ 0 → n = 0 → cmpN m n = 1 := fun h g => by unfold cmpN; rw [if_neg (by omega), if_pos (by omega)]
  generalize cmpN m n = e at *
  have hr1 : IntKind.i64.wrap (1 * e) = e := by rw [IntKind.wrap_i64]; omega
  by_cases h1 : m = 0 <;> by_cases h2 : n = 0
  ·rw [if_pos h1] at s1
   rw [if_pos h2] at s2
   have hr0 : IntKind.i64.wrap (0 * e) = e := by rw [k1 h1 h2]; rfl
   refine zap Tryz.func44 rfl (Nat.le_of_ble_eq_true rfl) rfl rfl ?_
   (repeat' (first | refine zad ?_ | (refine is_f 46 ?_; refine zaa (s1) ?_) | (refine is_f 46 ?_; refine zaa (s2) ?_) | (refine is_f 81 ?_; refine zaa (o1) ?_) | (refine is_f 81 ?_; refine zaa (o2) ?_) | (refine is_f 82 ?_; refine zaa (cC) ?_) | (refine zac (fun hb => ?_) (fun hb => ?_) <;> (try (exfalso; omega))) | fail))
   all_goals (first | (exfalso; omega) | exact ret1 [] (.int rfl) rfl rfl rfl)
  ·rw [if_pos h1] at s1
   rw [if_neg h2] at s2
   have k := k2 h1 h2
   refine zap Tryz.func44 rfl (Nat.le_of_ble_eq_true rfl) rfl rfl ?_
   (repeat' (first | refine zad ?_ | (refine is_f 46 ?_; refine zaa (s1) ?_) | (refine is_f 46 ?_; refine zaa (s2) ?_) | (refine is_f 81 ?_; refine zaa (o1) ?_) | (refine is_f 81 ?_; refine zaa (o2) ?_) | (refine is_f 82 ?_; refine zaa (cC) ?_) | (refine zac (fun hb => ?_) (fun hb => ?_) <;> (try (exfalso; omega))) | fail))
   all_goals (first | (exfalso; omega) | exact ret1 [] (.int k.symm) rfl rfl rfl)
  ·rw [if_neg h1] at s1
   rw [if_pos h2] at s2
   have k := k3 h1 h2
   refine zap Tryz.func44 rfl (Nat.le_of_ble_eq_true rfl) rfl rfl ?_
   (repeat' (first | refine zad ?_ | (refine is_f 46 ?_; refine zaa (s1) ?_) | (refine is_f 46 ?_; refine zaa (s2) ?_) | (refine is_f 81 ?_; refine zaa (o1) ?_) | (refine is_f 81 ?_; refine zaa (o2) ?_) | (refine is_f 82 ?_; refine zaa (cC) ?_) | (refine zac (fun hb => ?_) (fun hb => ?_) <;> (try (exfalso; omega))) | fail))
   all_goals (first | (exfalso; omega) | exact ret1 [] (.int k.symm) rfl rfl rfl)
  ·rw [if_neg h1] at s1
   rw [if_neg h2] at s2
   refine zap Tryz.func44 rfl (Nat.le_of_ble_eq_true rfl) rfl rfl ?_
   (repeat' (first | refine zad ?_ | (refine is_f 46 ?_; refine zaa (s1) ?_) | (refine is_f 46 ?_; refine zaa (s2) ?_) | (refine is_f 81 ?_; refine zaa (o1) ?_) | (refine is_f 81 ?_; refine zaa (o2) ?_) | (refine is_f 82 ?_; refine zaa (cC) ?_) | (refine zac (fun hb => ?_) (fun hb => ?_) <;> (try (exfalso; omega))) | fail))
   all_goals (first | (exfalso; omega) | exact ret1 [] (.int rfl) rfl rfl rfl)
 ·have e : (1 : Int) = cmpZ (m : Int) (-(n : Int)) := by unfold cmpZ; rw [if_neg (by omega), if_pos (by omega)]
  rw [zjl n hn] at s2
  have hs : 0 ≤ sgZ (m : Int) := by rw [zjk]; split <;> omega
  rw [zat] at s1
  rw [zaD n hn] at s2
  rw [zat, zaD n hn]
  generalize sgZ (m : Int) = sg at *
  refine zap Tryz.func44 rfl (Nat.le_of_ble_eq_true rfl) rfl rfl ?_
  (repeat' (first | refine zad ?_ | (refine is_f 46 ?_; refine zaa (s1) ?_) | (refine is_f 46 ?_; refine zaa (s2) ?_) | (refine zac (fun hb => ?_) (fun hb => ?_) <;> (try (exfalso; omega))) | fail))
  all_goals (first | (exfalso; omega) | exact ret1 [] (.int e) rfl rfl rfl)
 ·have e : (-1 : Int) = cmpZ (-(m : Int)) (n : Int) := by unfold cmpZ; rw [if_pos (by omega)]
  rw [zjl m hm] at s1
  have hs : 0 ≤ sgZ (n : Int) := by rw [zjk]; split <;> omega
  rw [zaD m hm] at s1
  rw [zat] at s2
  rw [zat, zaD m hm]
  generalize sgZ (n : Int) = sg at *
  refine zap Tryz.func44 rfl (Nat.le_of_ble_eq_true rfl) rfl rfl ?_
  (repeat' (first | refine zad ?_ | (refine is_f 46 ?_; refine zaa (s1) ?_) | (refine is_f 46 ?_; refine zaa (s2) ?_) | (refine zac (fun hb => ?_) (fun hb => ?_) <;> (try (exfalso; omega))) | fail))
  all_goals (first | (exfalso; omega) | exact ret1 [] (.int e) rfl rfl rfl)
 ·have hM : m < B64 ^ 4 := by simpa using hx
  have hN : n < B64 ^ 4 := by simpa using hy
  have l1 := zbw 4 m hM
  have l2 := zbw 4 n hN
  have cC := zer m n (by omega) (by omega)
  have o1 := of_m true m hM
  have o2 := of_m true n hN
  have hr := zh6 m n
  have hr1 : IntKind.i64.wrap (-1 * cmpN m n) = cmpN n m := by
   unfold cmpN
   rcases Nat.lt_trichotomy m n with h | h | h
   ·rw [if_pos h, if_neg (by omega), if_pos h]; rfl
   ·subst h; rw [if_neg (Nat.lt_irrefl m), if_neg (Nat.lt_irrefl m)]; rfl
   ·rw [if_neg (by omega), if_pos h, if_pos h]; rfl
  rw [zlB]
  rw [zjl m hm, zaD m hm] at s1
  rw [zjl n hn, zaD n hn] at s2
  rw [zaD m hm, zaD n hn]
  generalize cmpN m n = e at *
  generalize cmpN n m = e2 at *
  refine zap Tryz.func44 rfl (Nat.le_of_ble_eq_true rfl) rfl rfl ?_
  (repeat' (first | refine zad ?_ | (refine is_f 46 ?_; refine zaa (s1) ?_) | (refine is_f 46 ?_; refine zaa (s2) ?_) | (refine is_f 81 ?_; refine zaa (o1) ?_) | (refine is_f 81 ?_; refine zaa (o2) ?_) | (refine is_f 82 ?_; refine zaa (cC) ?_) | (refine zac (fun hb => ?_) (fun hb => ?_) <;> (try (exfalso; omega))) | fail))
  all_goals (first | (exfalso; omega) | exact ret1 [] (.int rfl) rfl rfl rfl)
theorem zhA (x y : Int) (hx : x.natAbs < B64 ^ 4) (hy : y.natAbs < B64 ^ 4) (hxy : (x * y).natAbs < B64 ^ 4) : zan Tryz.prog 43 [wz x, wz y] [] (.tu [wz (x * y), .r (.v (.bool true))]) [] := by
 have c1 := zcS x hx
 have c2 := zcS y hy
 rw [Int.natAbs_mul] at hxy
 rcases zbk x with ⟨m, rfl⟩ | ⟨m, hm, rfl⟩ <;> rcases zbk y with ⟨n, rfl⟩ | ⟨n, hn, rfl⟩
 ·have hM : m < B64 ^ 4 := by simpa using hx
  have hN : n < B64 ^ 4 := by simpa using hy
  have hS : m * n < B64 ^ 4 := by simpa using hxy
  have l1 := zbw 4 m hM
  have l2 := zbw 4 n hN
  have cA := zfT (tw m) (tw n) (zbn m) (zbn n) (by omega) (by omega)
  rw [za0, za0] at cA
  have o1 := of_m false m hM
  have o2 := of_m false n hN
  have cS := zcA false (m * n) hS
  rw [zb_f] at cS
  rw [show (m : Int) * (n : Int) = ((m * n : Nat) : Int) by rw [Int.natCast_mul]]
  rw [zat m] at c1
  rw [zat n] at c2
  rw [zat m, zat n]
  generalize m * n = s at *
  refine zap Tryz.func43 rfl (Nat.le_of_ble_eq_true rfl) rfl rfl ?_
  (repeat' (first | refine zad ?_ | (refine is_f 78 ?_; refine zaa (c1) ?_) | (refine is_f 78 ?_; refine zaa (c2) ?_) | (refine is_f 81 ?_; refine zaa (o1) ?_) | (refine is_f 81 ?_; refine zaa (o2) ?_) | (refine is_f 80 ?_; refine zaa (cA) ?_) | (refine is_f 79 ?_; refine zaa (cS) ?_) | (refine zac (fun hb => ?_) (fun hb => ?_) <;> (try (exfalso; omega))) | fail))
  all_goals (first | exact absurd rfl hb | exact zbb [] (Rt.wz _) (.bool rfl) rfl rfl rfl rfl rfl (zak rfl) rfl)
 ·have hM : m < B64 ^ 4 := by simpa using hx
  have hN : n < B64 ^ 4 := by simpa using hy
  have hS : m * n < B64 ^ 4 := by simpa using hxy
  have l1 := zbw 4 m hM
  have l2 := zbw 4 n hN
  have cA := zfT (tw m) (tw n) (zbn m) (zbn n) (by omega) (by omega)
  rw [za0, za0] at cA
  have o1 := of_m false m hM
  have o2 := of_m true n hN
  have cS := zcA true (m * n) hS
  rw [zb_t] at cS
  rw [show (m : Int) * -(n : Int) = -((m * n : Nat) : Int) by rw [Int.mul_neg, Int.natCast_mul]]
  rw [zat m] at c1
  rw [zaD n hn] at c2
  rw [zat m, zaD n hn]
  generalize m * n = s at *
  refine zap Tryz.func43 rfl (Nat.le_of_ble_eq_true rfl) rfl rfl ?_
  (repeat' (first | refine zad ?_ | (refine is_f 78 ?_; refine zaa (c1) ?_) | (refine is_f 78 ?_; refine zaa (c2) ?_) | (refine is_f 81 ?_; refine zaa (o1) ?_) | (refine is_f 81 ?_; refine zaa (o2) ?_) | (refine is_f 80 ?_; refine zaa (cA) ?_) | (refine is_f 79 ?_; refine zaa (cS) ?_) | (refine zac (fun hb => ?_) (fun hb => ?_) <;> (try (exfalso; omega))) | fail))
  all_goals (first | exact absurd rfl hb | exact zbb [] (Rt.wz _) (.bool rfl) rfl rfl rfl rfl rfl (zak rfl) rfl)
 ·have hM : m < B64 ^ 4 := by simpa using hx
  have hN : n < B64 ^ 4 := by simpa using hy
  have hS : m * n < B64 ^ 4 := by simpa using hxy
  have l1 := zbw 4 m hM
  have l2 := zbw 4 n hN
  have cA := zfT (tw m) (tw n) (zbn m) (zbn n) (by omega) (by omega)
  rw [za0, za0] at cA
  have o1 := of_m true m hM
  have o2 := of_m false n hN
  have cS := zcA true (m * n) hS
  rw [zb_t] at cS
  rw [show -(m : Int) * (n : Int) = -((m * n : Nat) : Int) by rw [Int.neg_mul, Int.natCast_mul]]
  rw [zaD m hm] at c1
  rw [zat n] at c2
  rw [zaD m hm, zat n]
  generalize m * n = s at *
  refine zap Tryz.func43 rfl (Nat.le_of_ble_eq_true rfl) rfl rfl ?_
  (repeat' (first | refine zad ?_ | (refine is_f 78 ?_; refine zaa (c1) ?_) | (refine is_f 78 ?_; refine zaa (c2) ?_) | (refine is_f 81 ?_; refine zaa (o1) ?_) | (refine is_f 81 ?_; refine zaa (o2) ?_) | (refine is_f 80 ?_; refine zaa (cA) ?_) | (refine is_f 79 ?_; refine zaa (cS) ?_) | (refine zac (fun hb => ?_) (fun hb => ?_) <;> (try (exfalso; omega))) | fail))
  all_goals (first | exact absurd rfl hb | exact zbb [] (Rt.wz _) (.bool rfl) rfl rfl rfl rfl rfl (zak rfl) rfl)
 ·have hM : m < B64 ^ 4 := by simpa using hx
  have hN : n < B64 ^ 4 := by simpa using hy
  have hS : m * n < B64 ^ 4 := by simpa using hxy
  have l1 := zbw 4 m hM
  have l2 := zbw 4 n hN
  have cA := zfT (tw m) (tw n) (zbn m) (zbn n) (by omega) (by omega)
  rw [za0, za0] at cA
  have o1 := of_m true m hM
  have o2 := of_m true n hN
  have cS := zcA false (m * n) hS
  rw [zb_f] at cS
  rw [show -(m : Int) * -(n : Int) = ((m * n : Nat) : Int) by rw [Int.neg_mul_neg, Int.natCast_mul]]
  rw [zaD m hm] at c1
  rw [zaD n hn] at c2
  rw [zaD m hm, zaD n hn]
  generalize m * n = s at *
  refine zap Tryz.func43 rfl (Nat.le_of_ble_eq_true rfl) rfl rfl ?_
  (repeat' (first | refine zad ?_ | (refine is_f 78 ?_; refine zaa (c1) ?_) | (refine is_f 78 ?_; refine zaa (c2) ?_) | (refine is_f 81 ?_; refine zaa (o1) ?_) | (refine is_f 81 ?_; refine zaa (o2) ?_) | (refine is_f 80 ?_; refine zaa (cA) ?_) | (refine is_f 79 ?_; refine zaa (cS) ?_) | (refine zac (fun hb => ?_) (fun hb => ?_) <;> (try (exfalso; omega))) | fail))
  all_goals (first | exact absurd rfl hb | exact zbb [] (Rt.wz _) (.bool rfl) rfl rfl rfl rfl rfl (zak rfl) rfl)
theorem zej (n : Nat) (hn : n < B64) : zan Tryz.prog 83 [wz (n : Int)] [] (.tu [.r (.v (.int .u64 (n : Int))), .r (.v (.bool true))]) [] := by
 have hB : n < B64 ^ 4 := by rw [zfg]; unfold B64 at hn; omega
 have c1 := zcS (n : Int) (by simpa using hB)
 have o1 := of_m false n hB
 rw [zat] at c1 ⊢
 have l1 : (wns (tw n)).length ≤ 1 := by rw [zaW]; exact zbw 1 n (by rw [Nat.pow_one]; exact hn)
 have hm : ((n % B64 : Nat) : Int) = (n : Int) := by rw [Nat.mod_eq_of_lt hn]
 refine zap Tryz.func83 rfl (Nat.le_of_ble_eq_true rfl) rfl rfl ?_
 (repeat' (first | refine zad ?_ | (refine is_f 78 ?_; refine zaa (c1) ?_) | (refine is_f 81 ?_; refine zaa (o1) ?_) | (refine zac (fun hb => ?_) (fun hb => ?_) <;> (try (exfalso; omega))) | fail))
 all_goals (first | (exfalso; omega) | exact ret2 [] (.int hm) (.bool rfl) rfl rfl rfl rfl)
theorem zdt (n : Nat) (hn : B64 ≤ n) (hB : n < B64 ^ 4) : zan Tryz.prog 83 [wz (n : Int)] [] (.tu [.r (.v (.int .u64 0)), .r (.v (.bool false))]) [] := by
 have c1 := zcS (n : Int) (by simpa using hB)
 have o1 := of_m false n hB
 rw [zat] at c1 ⊢
 have l1 : 1 < (wns (tw n)).length := by
  rw [zaW]
  rcases Nat.lt_or_ge 1 (tw n).length with h | h
  ·exact h
  ·have := zf1 1 n h; rw [Nat.pow_one] at this; omega
 refine zap Tryz.func83 rfl (Nat.le_of_ble_eq_true rfl) rfl rfl ?_
 (repeat' (first | refine zad ?_ | (refine is_f 78 ?_; refine zaa (c1) ?_) | (refine is_f 81 ?_; refine zaa (o1) ?_) | (refine zac (fun hb => ?_) (fun hb => ?_) <;> (try (exfalso; omega))) | fail))
 all_goals (first | (exfalso; omega) | exact ret2 [] (.int rfl) (.bool rfl) rfl rfl rfl rfl)
theorem zm0 (m n : Nat) (hM : m < B64 ^ 4) (hN : n < B64 ^ 4) (hn0 : n ≠ 0) (cD : zan Tryz.prog 85 [.r (.sl 1 (wns (tw m))), .r (.sl 1 (wns (tw n)))] [] (.tu [.r (.sl 1 (wns (tw (m / n)))), .r (.sl 1 (wns (tw (m % n))))]) []) :
  zan Tryz.prog 49 [wz (m : Int), wz (n : Int)] [] (.tu [wz ((m / n : Nat) : Int), wz ((m % n : Nat) : Int), .r (.v (.bool true))]) [] := by
 have c1 := zcS (m : Int) (by simpa using hM)
 have c2 := zcS (n : Int) (by simpa using hN)
 have cS := zdj (n : Int) (by simpa using hN)
 have hsg : ¬ sgZ (n : Int) = 0 := by rw [zjk, if_neg hn0]; omega
 have o1 := of_m false m hM
 have o2 := of_m false n hN
 have hq : m / n < B64 ^ 4 := Nat.lt_of_le_of_lt (Nat.div_le_self _ _) hM
 have hr : m % n < B64 ^ 4 := Nat.lt_of_le_of_lt (Nat.mod_le _ _) hM
 have w1 := zcA false (m / n) hq
 have w2 := zcA false (m % n) hr
 rw [zb_f] at w1 w2
 rw [zat] at c1 c2 cS
 rw [zat m, zat n]
 generalize sgZ (n : Int) = sg at *
 generalize m / n = q at *
 generalize m % n = r at *
 refine zap Tryz.func49 rfl (Nat.le_of_ble_eq_true rfl) rfl rfl ?_
 (repeat' (first | refine zad ?_ | (refine is_f 78 ?_; refine zaa (c1) ?_) | (refine is_f 78 ?_; refine zaa (c2) ?_) | (refine is_f 46 ?_; refine zaa (cS) ?_) | (refine is_f 81 ?_; refine zaa (o1) ?_) | (refine is_f 81 ?_; refine zaa (o2) ?_) | (refine is_f 85 ?_; refine zaa (cD) ?_) | (refine is_f 79 ?_; refine zaa (w1) ?_) | (refine is_f 79 ?_; refine zaa (w2) ?_) | (refine zac (fun hb => ?_) (fun hb => ?_) <;> (try (exfalso; omega))) | fail))
 all_goals (first | (exfalso; omega) | exact absurd rfl hb | exact zhC [] (Rt.wz _) (Rt.wz _) (.bool rfl) rfl rfl rfl rfl rfl rfl rfl rfl (zak rfl) rfl)
theorem zoQ (b : Bool) (n : Nat) (hn : n < B64 ^ 4) : zan Tryz.prog 77 [wd b n] [] (.r (.v (.bool (decide (n < N127))))) [] := by
 have k1 : ¬ ((n / B64 / B64 / B64 % B64 : Nat) : Int) = 0 → false = decide (n < N127) := fun h => by
  refine (decide_eq_false ?_).symm
  unfold N127; unfold B64 at h; omega
 have k2 : ¬ ((n / B64 / B64 % B64 : Nat) : Int) = 0 → false = decide (n < N127) := fun h => by
  refine (decide_eq_false ?_).symm
  unfold N127; unfold B64 at h; omega
 have k3 : ¬ ((n / B64 % B64 : Nat) : Int) < 9223372036854775808 → false = decide (n < N127) := fun h => by
  refine (decide_eq_false ?_).symm
  unfold N127; unfold B64 at h; omega
 have k4 : ((n / B64 / B64 / B64 % B64 : Nat) : Int) = 0 → ((n / B64 / B64 % B64 : Nat) : Int) = 0 → ((n / B64 % B64 : Nat) : Int) < 9223372036854775808 → true = decide (n < N127) := fun h1 h2 h3 => by
  refine (decide_eq_true ?_).symm
  rw [zfg] at hn
  unfold N127; unfold B64 at h1 h2 h3; omega
 unfold wd
 clear hn
 generalize decide (n < N127) = r at *
 generalize n / B64 / B64 / B64 % B64 = w3 at *
 generalize n / B64 / B64 % B64 = w2 at *
 generalize n / B64 % B64 = w1 at *
 generalize n % B64 = w0 at *
 refine zap Tryz.func77 rfl (Nat.le_of_ble_eq_true rfl) rfl rfl ?_
 (repeat' (first | refine zad ?_ | (refine zac (fun hb => ?_) (fun hb => ?_) <;> (try (exfalso; omega))) | fail))
 all_goals (first | (exfalso; omega) | exact ret1 [] (.bool (k4 (by assumption) (by assumption) (by assumption))) rfl rfl rfl | exact ret1 [] (.bool (k1 (by assumption))) rfl rfl rfl | exact ret1 [] (.bool (k2 (by assumption))) rfl rfl rfl | exact ret1 [] (.bool (k3 (by assumption))) rfl rfl rfl)
theorem zin (z : Int) (hz : W4 z) : zan Tryz.prog 48 [wz z] [] (wz ((z.natAbs : Nat) : Int)) [] := by
 rw [zat]
 unfold wz
 refine zap Tryz.func48 rfl (Nat.le_of_ble_eq_true rfl) rfl rfl ?_
 (repeat' (first | refine zad ?_ | (refine zac (fun hb => ?_) (fun hb => ?_) <;> (try (exfalso; omega))) | fail))
 all_goals exact zbO [] (Rt.wd false z.natAbs) rfl rfl rfl rfl (zak rfl) rfl
theorem zoO : zan Tryz.prog 60 [] [] (wz 1) [] := by
 have c := zhY 1 (by constructor <;> decide)
 refine zap Tryz.func60 rfl (Nat.le_of_ble_eq_true rfl) rfl rfl ?_
 (repeat' (first | refine zad ?_ | (refine is_f 21 ?_; refine zaa (c) ?_) | (refine zac (fun hb => ?_) (fun hb => ?_) <;> (try (exfalso; omega))) | fail))
 all_goals exact zbO [] (Rt.wz 1) rfl rfl rfl rfl (zak rfl) rfl
def rgI (m n x y : Nat) : St := ⟨[(2, .pt 0 0), (3, .pt 1 0), (4, .pt 2 0), (5, .r (.v (.int .u64 (x : Int)))), (7, .r (.v (.int .u64 (y : Int))))], [(0, some (.var 36 (zaM (wd false m)))), (1, some (.var 36 (zaM (wd false n)))), (2, some (.var 36 (zaM (wd false 0))))], 3⟩
end Go.Proofs.YtibedaeefnjjlaaGreat
