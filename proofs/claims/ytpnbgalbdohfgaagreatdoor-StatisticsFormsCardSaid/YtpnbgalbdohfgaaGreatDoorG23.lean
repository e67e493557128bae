/- Texts of the second layer in one: Wr7 Wr8 Tx12 Tx14. -/
import Derived.Test.YtpnbgalbdohfgaaGreatDoorG19
import Derived.Test.YtpnbgalbdohfgaaGreatDoorG22
set_option maxHeartbeats 8000000
set_option maxRecDepth 100000
set_option linter.unusedVariables false
set_option linter.unusedSimpArgs false
namespace Go.Proofs.YtpnbgalbdohfgaaGreatDoor
open Go.RowKit Go.Ab Go.Wd
theorem zf9 (m n : Nat) : cmpN m n = -1 ∨ cmpN m n = 0 ∨ cmpN m n = 1 := by
 unfold cmpN; split
 ·exact .inl rfl
 ·split
  ·exact .inr (.inr rfl)
  ·exact .inr (.inl rfl)
theorem zim (n : Nat) : sgZ (n : Int) = if n = 0 then 0 else 1 := by
 unfold sgZ; rw [if_neg (by omega)]
 by_cases h : n = 0
 ·rw [if_pos h, if_pos (by omega)]
 ·rw [if_neg h, if_neg (by omega)]
theorem zg7 (n : Nat) (h : n ≠ 0) : sgZ (-(n : Int)) = -1 := by unfold sgZ; rw [if_pos (by omega)]
theorem zju (x y : Int) (hx : x.natAbs < B64 ^ 4) (hy : y.natAbs < B64 ^ 4) : zaq Tryz.prog 37 [wz x, wz y] [] (.r (.v (.int .i64 (cmpZ x y)))) [] := by
 have s1 := zkw x hx
 have s2 := zkw y hy
 rcases zcb x with ⟨m, rfl⟩ | ⟨m, hm, rfl⟩ <;> rcases zcb y with ⟨n, rfl⟩ | ⟨n, hn, rfl⟩
 ·have hM : m < B64 ^ 4 := by simpa using hx
  have hN : n < B64 ^ 4 := by simpa using hy
  have l1 := zbk 4 m hM
  have l2 := zbk 4 n hN
  have cC := zeb m n (by omega) (by omega)
  have o1 := of_m false m hM
  have o2 := of_m false n hN
  rw [zmp]
  rw [zaR] at s1 s2
  rw [zaR, zaR]
  rw [zim] at s1 s2
  have hr := zf9 m n
  have k1 : m = 0 → n = 0 → cmpN m n = 0 := fun h g => by subst h g; rfl
  have k2 : m = 0 → n ≠ 0 → cmpN m n = -1 := fun h g => by unfold cmpN; rw [if_pos (by omega)]
  have k3 : m ≠ 0 → n = 0 → cmpN m n = 1 := fun h g => by unfold cmpN; rw [if_neg (by omega), if_pos (by omega)]
  generalize cmpN m n = e at *
  have hr1 : IntKind.i64.wrap (1 * e) = e := by rw [IntKind.wrap_i64]; omega
  by_cases h1 : m = 0 <;> by_cases h2 : n = 0
  ·rw [if_pos h1] at s1
   rw [if_pos h2] at s2
   have hr0 : IntKind.i64.wrap (0 * e) = e := by rw [k1 h1 h2]; rfl
   refine zaw Tryz.func37 rfl (Nat.le_of_ble_eq_true rfl) rfl rfl ?_
   (repeat' (first | refine zae ?_ | (refine is_f 58 ?_; refine zaf (s1) ?_) | (refine is_f 58 ?_; refine zaf (s2) ?_) | (refine is_f 27 ?_; refine zaf (o1) ?_) | (refine is_f 27 ?_; refine zaf (o2) ?_) | (refine is_f 59 ?_; refine zaf (cC) ?_) | (refine zab (fun hb => ?_) (fun hb => ?_) <;> (try (exfalso; omega))) | fail))
   all_goals (first | (exfalso; omega) | exact ret1 [] (.int rfl) rfl rfl rfl)
  ·rw [if_pos h1] at s1
   rw [if_neg h2] at s2
   have k := k2 h1 h2
   refine zaw Tryz.func37 rfl (Nat.le_of_ble_eq_true rfl) rfl rfl ?_
   (repeat' (first | refine zae ?_ | (refine is_f 58 ?_; refine zaf (s1) ?_) | (refine is_f 58 ?_; refine zaf (s2) ?_) | (refine is_f 27 ?_; refine zaf (o1) ?_) | (refine is_f 27 ?_; refine zaf (o2) ?_) | (refine is_f 59 ?_; refine zaf (cC) ?_) | (refine zab (fun hb => ?_) (fun hb => ?_) <;> (try (exfalso; omega))) | fail))
   all_goals (first | (exfalso; omega) | exact ret1 [] (.int k.symm) rfl rfl rfl)
  ·rw [if_neg h1] at s1
   rw [if_pos h2] at s2
   have k := k3 h1 h2
   refine zaw Tryz.func37 rfl (Nat.le_of_ble_eq_true rfl) rfl rfl ?_
   (repeat' (first | refine zae ?_ | (refine is_f 58 ?_; refine zaf (s1) ?_) | (refine is_f 58 ?_; refine zaf (s2) ?_) | (refine is_f 27 ?_; refine zaf (o1) ?_) | (refine is_f 27 ?_; refine zaf (o2) ?_) | (refine is_f 59 ?_; refine zaf (cC) ?_) | (refine zab (fun hb => ?_) (fun hb => ?_) <;> (try (exfalso; omega))) | fail))
   all_goals (first | (exfalso; omega) | exact ret1 [] (.int k.symm) rfl rfl rfl)
  ·rw [if_neg h1] at s1
   rw [if_neg h2] at s2
   refine zaw Tryz.func37 rfl (Nat.le_of_ble_eq_true rfl) rfl rfl ?_
   (repeat' (first | refine zae ?_ | (refine is_f 58 ?_; refine zaf (s1) ?_) | (refine is_f 58 ?_; refine zaf (s2) ?_) | (refine is_f 27 ?_; refine zaf (o1) ?_) | (refine is_f 27 ?_; refine zaf (o2) ?_) | (refine is_f 59 ?_; refine zaf (cC) ?_) | (refine zab (fun hb => ?_) (fun hb => ?_) <;> (try (exfalso; omega))) | fail))
   all_goals (first | (exfalso; omega) | exact ret1 [] (.int rfl) rfl rfl rfl)
 ·have e : (1 : Int) = cmpZ (m : Int) (-(n : Int)) := by unfold cmpZ; rw [if_neg (by omega), if_pos (by omega)]
  rw [zg7 n hn] at s2
  have hs : 0 ≤ sgZ (m : Int) := by rw [zim]; split <;> omega
  rw [zaR] at s1
  rw [zbd n hn] at s2
  rw [zaR, zbd n hn]
  generalize sgZ (m : Int) = sg at *
  refine zaw Tryz.func37 rfl (Nat.le_of_ble_eq_true rfl) rfl rfl ?_
  (repeat' (first | refine zae ?_ | (refine is_f 58 ?_; refine zaf (s1) ?_) | (refine is_f 58 ?_; refine zaf (s2) ?_) | (refine zab (fun hb => ?_) (fun hb => ?_) <;> (try (exfalso; omega))) | fail))
  all_goals (first | (exfalso; omega) | exact ret1 [] (.int e) rfl rfl rfl)
 ·have e : (-1 : Int) = cmpZ (-(m : Int)) (n : Int) := by unfold cmpZ; rw [if_pos (by omega)]
  rw [zg7 m hm] at s1
  have hs : 0 ≤ sgZ (n : Int) := by rw [zim]; split <;> omega
  rw [zbd m hm] at s1
  rw [zaR] at s2
  rw [zaR, zbd m hm]
  generalize sgZ (n : Int) = sg at *
  refine zaw Tryz.func37 rfl (Nat.le_of_ble_eq_true rfl) rfl rfl ?_
  (repeat' (first | refine zae ?_ | (refine is_f 58 ?_; refine zaf (s1) ?_) | (refine is_f 58 ?_; refine zaf (s2) ?_) | (refine zab (fun hb => ?_) (fun hb => ?_) <;> (try (exfalso; omega))) | fail))
  all_goals (first | (exfalso; omega) | exact ret1 [] (.int e) rfl rfl rfl)
 ·have hM : m < B64 ^ 4 := by simpa using hx
  have hN : n < B64 ^ 4 := by simpa using hy
  have l1 := zbk 4 m hM
  have l2 := zbk 4 n hN
  have cC := zeb m n (by omega) (by omega)
  have o1 := of_m true m hM
  have o2 := of_m true n hN
  have hr := zf9 m n
  have hr1 : IntKind.i64.wrap (-1 * cmpN m n) = cmpN n m := by
   unfold cmpN
   rcases Nat.lt_trichotomy m n with h | h | h
   ·rw [if_pos h, if_neg (by omega), if_pos h]; rfl
   ·subst h; rw [if_neg (Nat.lt_irrefl m), if_neg (Nat.lt_irrefl m)]; rfl
   ·rw [if_neg (by omega), if_pos h, if_pos h]; rfl
  rw [zk8]
  rw [zg7 m hm, zbd m hm] at s1
  rw [zg7 n hn, zbd n hn] at s2
  rw [zbd m hm, zbd n hn]
  generalize cmpN m n = e at *
  generalize cmpN n m = e2 at *
  refine zaw Tryz.func37 rfl (Nat.le_of_ble_eq_true rfl) rfl rfl ?_
  (repeat' (first | refine zae ?_ | (refine is_f 58 ?_; refine zaf (s1) ?_) | (refine is_f 58 ?_; refine zaf (s2) ?_) | (refine is_f 27 ?_; refine zaf (o1) ?_) | (refine is_f 27 ?_; refine zaf (o2) ?_) | (refine is_f 59 ?_; refine zaf (cC) ?_) | (refine zab (fun hb => ?_) (fun hb => ?_) <;> (try (exfalso; omega))) | fail))
  all_goals (first | (exfalso; omega) | exact ret1 [] (.int rfl) rfl rfl rfl)
theorem znO (x y : Int) (hx : x.natAbs < B64 ^ 4) (hy : y.natAbs < B64 ^ 4) (hxy : (x * y).natAbs < B64 ^ 4) : zaq Tryz.prog 36 [wz x, wz y] [] (.tu [wz (x * y), .r (.v (.bool true))]) [] := by
 have c1 := zea x hx
 have c2 := zea y hy
 rw [Int.natAbs_mul] at hxy
 rcases zcb x with ⟨m, rfl⟩ | ⟨m, hm, rfl⟩ <;> rcases zcb y with ⟨n, rfl⟩ | ⟨n, hn, rfl⟩
 ·have hM : m < B64 ^ 4 := by simpa using hx
  have hN : n < B64 ^ 4 := by simpa using hy
  have hS : m * n < B64 ^ 4 := by simpa using hxy
  have l1 := zbk 4 m hM
  have l2 := zbk 4 n hN
  have cA := zel (tw m) (tw n) (zbe m) (zbe n) (by omega) (by omega)
  rw [zaV, zaV] at cA
  have o1 := of_m false m hM
  have o2 := of_m false n hN
  have cS := zb8 false (m * n) hS
  rw [zb_f] at cS
  rw [show (m : Int) * (n : Int) = ((m * n : Nat) : Int) by rw [Int.natCast_mul]]
  rw [zaR m] at c1
  rw [zaR n] at c2
  rw [zaR m, zaR n]
  generalize m * n = s at *
  refine zaw Tryz.func36 rfl (Nat.le_of_ble_eq_true rfl) rfl rfl ?_
  (repeat' (first | refine zae ?_ | (refine is_f 48 ?_; refine zaf (c1) ?_) | (refine is_f 48 ?_; refine zaf (c2) ?_) | (refine is_f 27 ?_; refine zaf (o1) ?_) | (refine is_f 27 ?_; refine zaf (o2) ?_) | (refine is_f 57 ?_; refine zaf (cA) ?_) | (refine is_f 26 ?_; refine zaf (cS) ?_) | (refine zab (fun hb => ?_) (fun hb => ?_) <;> (try (exfalso; omega))) | fail))
  all_goals (first | exact absurd rfl hb | exact zcc [] (Rt.wz _) (.bool rfl) rfl rfl rfl rfl rfl (zan rfl) rfl)
 ·have hM : m < B64 ^ 4 := by simpa using hx
  have hN : n < B64 ^ 4 := by simpa using hy
  have hS : m * n < B64 ^ 4 := by simpa using hxy
  have l1 := zbk 4 m hM
  have l2 := zbk 4 n hN
  have cA := zel (tw m) (tw n) (zbe m) (zbe n) (by omega) (by omega)
  rw [zaV, zaV] at cA
  have o1 := of_m false m hM
  have o2 := of_m true n hN
  have cS := zb8 true (m * n) hS
  rw [zb_t] at cS
  rw [show (m : Int) * -(n : Int) = -((m * n : Nat) : Int) by rw [Int.mul_neg, Int.natCast_mul]]
  rw [zaR m] at c1
  rw [zbd n hn] at c2
  rw [zaR m, zbd n hn]
  generalize m * n = s at *
  refine zaw Tryz.func36 rfl (Nat.le_of_ble_eq_true rfl) rfl rfl ?_
  (repeat' (first | refine zae ?_ | (refine is_f 48 ?_; refine zaf (c1) ?_) | (refine is_f 48 ?_; refine zaf (c2) ?_) | (refine is_f 27 ?_; refine zaf (o1) ?_) | (refine is_f 27 ?_; refine zaf (o2) ?_) | (refine is_f 57 ?_; refine zaf (cA) ?_) | (refine is_f 26 ?_; refine zaf (cS) ?_) | (refine zab (fun hb => ?_) (fun hb => ?_) <;> (try (exfalso; omega))) | fail))
  all_goals (first | exact absurd rfl hb | exact zcc [] (Rt.wz _) (.bool rfl) rfl rfl rfl rfl rfl (zan rfl) rfl)
 ·have hM : m < B64 ^ 4 := by simpa using hx
  have hN : n < B64 ^ 4 := by simpa using hy
  have hS : m * n < B64 ^ 4 := by simpa using hxy
  have l1 := zbk 4 m hM
  have l2 := zbk 4 n hN
  have cA := zel (tw m) (tw n) (zbe m) (zbe n) (by omega) (by omega)
  rw [zaV, zaV] at cA
  have o1 := of_m true m hM
  have o2 := of_m false n hN
  have cS := zb8 true (m * n) hS
  rw [zb_t] at cS
  rw [show -(m : Int) * (n : Int) = -((m * n : Nat) : Int) by rw [Int.neg_mul, Int.natCast_mul]]
  rw [zbd m hm] at c1
  rw [zaR n] at c2
  rw [zbd m hm, zaR n]
  generalize m * n = s at *
  refine zaw Tryz.func36 rfl (Nat.le_of_ble_eq_true rfl) rfl rfl ?_
  (repeat' (first | refine zae ?_ | (refine is_f 48 ?_; refine zaf (c1) ?_) | (refine is_f 48 ?_; refine zaf (c2) ?_) | (refine is_f 27 ?_; refine zaf (o1) ?_) | (refine is_f 27 ?_; refine zaf (o2) ?_) | (refine is_f 57 ?_; refine zaf (cA) ?_) | (refine is_f 26 ?_; refine zaf (cS) ?_) | (refine zab (fun hb => ?_) (fun hb => ?_) <;> (try (exfalso; omega))) | fail))
  all_goals (first | exact absurd rfl hb | exact zcc [] (Rt.wz _) (.bool rfl) rfl rfl rfl rfl rfl (zan rfl) rfl)
 ·have hM : m < B64 ^ 4 := by simpa using hx
  have hN : n < B64 ^ 4 := by simpa using hy
  have hS : m * n < B64 ^ 4 := by simpa using hxy
  have l1 := zbk 4 m hM
  have l2 := zbk 4 n hN
  have cA := zel (tw m) (tw n) (zbe m) (zbe n) (by omega) (by omega)
  rw [zaV, zaV] at cA
  have o1 := of_m true m hM
  have o2 := of_m true n hN
  have cS := zb8 false (m * n) hS
  rw [zb_f] at cS
  rw [show -(m : Int) * -(n : Int) = ((m * n : Nat) : Int) by rw [Int.neg_mul_neg, Int.natCast_mul]]
  rw [zbd m hm] at c1
  rw [zbd n hn] at c2
  rw [zbd m hm, zbd n hn]
  generalize m * n = s at *
  refine zaw Tryz.func36 rfl (Nat.le_of_ble_eq_true rfl) rfl rfl ?_
  (repeat' (first | refine zae ?_ | (refine is_f 48 ?_; refine zaf (c1) ?_) | (refine is_f 48 ?_; refine zaf (c2) ?_) | (refine is_f 27 ?_; refine zaf (o1) ?_) | (refine is_f 27 ?_; refine zaf (o2) ?_) | (refine is_f 57 ?_; refine zaf (cA) ?_) | (refine is_f 26 ?_; refine zaf (cS) ?_) | (refine zab (fun hb => ?_) (fun hb => ?_) <;> (try (exfalso; omega))) | fail))
  all_goals (first | exact absurd rfl hb | exact zcc [] (Rt.wz _) (.bool rfl) rfl rfl rfl rfl rfl (zan rfl) rfl)
theorem zep {m n : Nat} (h : n ≤ m) : (tw n).length ≤ (tw m).length := by
 rcases Nat.lt_or_ge (tw m).length (tw n).length with h1 | h1
 ·have := zeP h1; omega
 ·exact h1
theorem znN (x y : Int) (hx : x.natAbs < B64 ^ 4) (hy : y.natAbs < B64 ^ 4) (hxy : (x + y).natAbs < B64 ^ 4) : zaq Tryz.prog 38 [wz x, wz y] [] (.tu [wz (x + y), .r (.v (.bool true))]) [] := by
 have c1 := zea x hx
 have c2 := zea y hy
 rcases zcb x with ⟨m, rfl⟩ | ⟨m, hm, rfl⟩ <;> rcases zcb y with ⟨n, rfl⟩ | ⟨n, hn, rfl⟩
 ·have hM : m < B64 ^ 4 := by simpa using hx
  have hN : n < B64 ^ 4 := by simpa using hy
  have l1 := zbk 4 m hM
  have l2 := zbk 4 n hN
  have o1 := of_m false m hM
  have o2 := of_m false n hN
  rw [zaR m] at c1
  rw [zaR n] at c2
  rw [zaR m, zaR n]
  have hS : m + n < B64 ^ 4 := by omega
  have cA := zhG (tw m) (tw n) (zbe m) (zbe n) (by omega) (by omega)
  rw [zaV, zaV] at cA
  have cS := zb8 false (m + n) hS
  rw [zb_f] at cS
  rw [show (m : Int) + (n : Int) = ((m + n : Nat) : Int) by omega]
  generalize m + n = s at *
  refine zaw Tryz.func38 rfl (Nat.le_of_ble_eq_true rfl) rfl rfl ?_
  (repeat' (first | refine zae ?_ | (refine is_f 48 ?_; refine zaf (c1) ?_) | (refine is_f 48 ?_; refine zaf (c2) ?_) | (refine is_f 27 ?_; refine zaf (o1) ?_) | (refine is_f 27 ?_; refine zaf (o2) ?_) | (refine is_f 60 ?_; refine zaf (cA) ?_) | (refine is_f 26 ?_; refine zaf (cS) ?_) | (refine zab (fun hb => ?_) (fun hb => ?_) <;> (try (exfalso; omega))) | fail))
  all_goals (first | exact absurd rfl hb | exact zcc [] (Rt.wz _) (.bool rfl) rfl rfl rfl rfl rfl (zan rfl) rfl)
 ·have hM : m < B64 ^ 4 := by simpa using hx
  have hN : n < B64 ^ 4 := by simpa using hy
  have l1 := zbk 4 m hM
  have l2 := zbk 4 n hN
  have o1 := of_m false m hM
  have o2 := of_m true n hN
  rw [zaR m] at c1
  rw [zbd n hn] at c2
  rw [zaR m, zbd n hn]
  have cC := zeb m n (by omega) (by omega)
  rcases Nat.lt_or_ge m n with hlt | hge
  ·have cA := zem (tw n) (tw m) (zbe n) (zbe m) (by omega) (zep (by omega)) (by rw [zaV, zaV]; omega)
   rw [zaV, zaV] at cA
   have cS := zb8 true (n - m) (by omega)
   have hc := ziv hlt
   rw [zb_t] at cS
   rw [show (m : Int) + -(n : Int) = -((n - m : Nat) : Int) by omega]
   generalize n - m = s at *
   generalize cmpN m n = e at *
   refine zaw Tryz.func38 rfl (Nat.le_of_ble_eq_true rfl) rfl rfl ?_
   (repeat' (first | refine zae ?_ | (refine is_f 48 ?_; refine zaf (c1) ?_) | (refine is_f 48 ?_; refine zaf (c2) ?_) | (refine is_f 27 ?_; refine zaf (o1) ?_) | (refine is_f 27 ?_; refine zaf (o2) ?_) | (refine is_f 59 ?_; refine zaf (cC) ?_) | (refine is_f 61 ?_; refine zaf (cA) ?_) | (refine is_f 26 ?_; refine zaf (cS) ?_) | (refine zab (fun hb => ?_) (fun hb => ?_) <;> (try (exfalso; omega))) | fail))
   all_goals (first | (exfalso; omega) | exact absurd rfl hb | exact zcc [] (Rt.wz _) (.bool rfl) rfl rfl rfl rfl rfl (zan rfl) rfl)
  ·have cA := zem (tw m) (tw n) (zbe m) (zbe n) (by omega) (zep hge) (by rw [zaV, zaV]; omega)
   rw [zaV, zaV] at cA
   have cS := zb8 false (m - n) (by omega)
   have hc := zjQ hge
   rw [zb_f] at cS
   rw [show (m : Int) + -(n : Int) = ((m - n : Nat) : Int) by omega]
   generalize m - n = s at *
   generalize cmpN m n = e at *
   refine zaw Tryz.func38 rfl (Nat.le_of_ble_eq_true rfl) rfl rfl ?_
   (repeat' (first | refine zae ?_ | (refine is_f 48 ?_; refine zaf (c1) ?_) | (refine is_f 48 ?_; refine zaf (c2) ?_) | (refine is_f 27 ?_; refine zaf (o1) ?_) | (refine is_f 27 ?_; refine zaf (o2) ?_) | (refine is_f 59 ?_; refine zaf (cC) ?_) | (refine is_f 61 ?_; refine zaf (cA) ?_) | (refine is_f 26 ?_; refine zaf (cS) ?_) | (refine zab (fun hb => ?_) (fun hb => ?_) <;> (try (exfalso; omega))) | fail))
   all_goals (first | (exfalso; omega) | exact absurd rfl hb | exact zcc [] (Rt.wz _) (.bool rfl) rfl rfl rfl rfl rfl (zan rfl) rfl)
 ·have hM : m < B64 ^ 4 := by simpa using hx
  have hN : n < B64 ^ 4 := by simpa using hy
  have l1 := zbk 4 m hM
  have l2 := zbk 4 n hN
  have o1 := of_m true m hM
  have o2 := of_m false n hN
  rw [zbd m hm] at c1
  rw [zaR n] at c2
  rw [zbd m hm, zaR n]
  have cC := zeb m n (by omega) (by omega)
  rcases Nat.lt_or_ge m n with hlt | hge
  ·have cA := zem (tw n) (tw m) (zbe n) (zbe m) (by omega) (zep (by omega)) (by rw [zaV, zaV]; omega)
   rw [zaV, zaV] at cA
   have cS := zb8 false (n - m) (by omega)
   have hc := ziv hlt
   rw [zb_f] at cS
   rw [show -(m : Int) + (n : Int) = ((n - m : Nat) : Int) by omega]
   generalize n - m = s at *
   generalize cmpN m n = e at *
   refine zaw Tryz.func38 rfl (Nat.le_of_ble_eq_true rfl) rfl rfl ?_
   (repeat' (first | refine zae ?_ | (refine is_f 48 ?_; refine zaf (c1) ?_) | (refine is_f 48 ?_; refine zaf (c2) ?_) | (refine is_f 27 ?_; refine zaf (o1) ?_) | (refine is_f 27 ?_; refine zaf (o2) ?_) | (refine is_f 59 ?_; refine zaf (cC) ?_) | (refine is_f 61 ?_; refine zaf (cA) ?_) | (refine is_f 26 ?_; refine zaf (cS) ?_) | (refine zab (fun hb => ?_) (fun hb => ?_) <;> (try (exfalso; omega))) | fail))
   all_goals (first | (exfalso; omega) | exact absurd rfl hb | exact zcc [] (Rt.wz _) (.bool rfl) rfl rfl rfl rfl rfl (zan rfl) rfl)
  ·have cA := zem (tw m) (tw n) (zbe m) (zbe n) (by omega) (zep hge) (by rw [zaV, zaV]; omega)
   rw [zaV, zaV] at cA
   have cS := zb8 true (m - n) (by omega)
   have hc := zjQ hge
   rw [zb_t] at cS
   rw [show -(m : Int) + (n : Int) = -((m - n : Nat) : Int) by omega]
   generalize m - n = s at *
   generalize cmpN m n = e at *
   refine zaw Tryz.func38 rfl (Nat.le_of_ble_eq_true rfl) rfl rfl ?_
   (repeat' (first | refine zae ?_ | (refine is_f 48 ?_; refine zaf (c1) ?_) | (refine is_f 48 ?_; refine zaf (c2) ?_) | (refine is_f 27 ?_; refine zaf (o1) ?_) | (refine is_f 27 ?_; refine zaf (o2) ?_) | (refine is_f 59 ?_; refine zaf (cC) ?_) | (refine is_f 61 ?_; refine zaf (cA) ?_) | (refine is_f 26 ?_; refine zaf (cS) ?_) | (refine zab (fun hb => ?_) (fun hb => ?_) <;> (try (exfalso; omega))) | fail))
   all_goals (first | (exfalso; omega) | exact absurd rfl hb | exact zcc [] (Rt.wz _) (.bool rfl) rfl rfl rfl rfl rfl (zan rfl) rfl)
 ·have hM : m < B64 ^ 4 := by simpa using hx
  have hN : n < B64 ^ 4 := by simpa using hy
  have l1 := zbk 4 m hM
  have l2 := zbk 4 n hN
  have o1 := of_m true m hM
  have o2 := of_m true n hN
  rw [zbd m hm] at c1
  rw [zbd n hn] at c2
  rw [zbd m hm, zbd n hn]
  have hS : m + n < B64 ^ 4 := by omega
  have cA := zhG (tw m) (tw n) (zbe m) (zbe n) (by omega) (by omega)
  rw [zaV, zaV] at cA
  have cS := zb8 true (m + n) hS
  rw [zb_t] at cS
  rw [show -(m : Int) + -(n : Int) = -((m + n : Nat) : Int) by omega]
  generalize m + n = s at *
  refine zaw Tryz.func38 rfl (Nat.le_of_ble_eq_true rfl) rfl rfl ?_
  (repeat' (first | refine zae ?_ | (refine is_f 48 ?_; refine zaf (c1) ?_) | (refine is_f 48 ?_; refine zaf (c2) ?_) | (refine is_f 27 ?_; refine zaf (o1) ?_) | (refine is_f 27 ?_; refine zaf (o2) ?_) | (refine is_f 60 ?_; refine zaf (cA) ?_) | (refine is_f 26 ?_; refine zaf (cS) ?_) | (refine zab (fun hb => ?_) (fun hb => ?_) <;> (try (exfalso; omega))) | fail))
  all_goals (first | exact absurd rfl hb | exact zcc [] (Rt.wz _) (.bool rfl) rfl rfl rfl rfl rfl (zan rfl) rfl)
def rkS (a b : List (Int × Int)) (i : Nat) : St := ⟨[(0, .r (.sl 2 (smps a))), (1, .r (.sl 2 (smps b))), (4, .pt 0 0), (5, .r (.v (.int .i64 0))), (7, .r (.v (.int .i64 (i : Int))))], [(0, some (.var 28 ((smR 0 0 0 0).map .r)))], 1⟩
def rmS (a b : List (Int × Int)) (i w s q : Nat) : St := ⟨[(0, .r (.sl 2 (smps a))), (1, .r (.sl 2 (smps b))), (4, .pt 0 0), (5, .r (.v (.int .i64 0))), (8, .pt 1 0), (9, .r (.v (.int .i64 (i : Int))))], [(0, some (.var 28 ((smR 0 0 0 0).map .r))), (1, some (.var 28 ((smR (smps a).length w s q).map .r)))], 2⟩
theorem zne (d : Nat) (hd : d < B64) : zaq Tryz.prog 34 [.r (.v (.int .u64 (d : Int)))] [] (wd false d) [] := by
 have := znP d hd
 rwa [zaR] at this
theorem znd (m n : Nat) (hm : m < B64 ^ 4) (hn : n < B64 ^ 4) (hmn : m * n < B64 ^ 4) : zaq Tryz.prog 36 [wd false m, wd false n] [] (.tu [wd false (m * n), .r (.v (.bool true))]) [] := by
 have := znO (m : Int) (n : Int) (by omega) (by omega) (by rw [← Int.natCast_mul]; omega)
 rwa [← Int.natCast_mul, zaR, zaR, zaR] at this
theorem zkv (m n : Nat) (hm : m < B64 ^ 4) (hn : n < B64 ^ 4) (hmn : m + n < B64 ^ 4) : zaq Tryz.prog 38 [wd false m, wd false n] [] (.tu [wd false (m + n), .r (.v (.bool true))]) [] := by
 have := znN (m : Int) (n : Int) (by omega) (by omega) (by rw [← Int.natCast_add]; omega)
 rwa [← Int.natCast_add, zaR, zaR, zaR] at this
theorem zig (m n : Nat) (hm : m < B64 ^ 4) (hn : n < B64 ^ 4) : zaq Tryz.prog 37 [wd false m, wd false n] [] (.r (.v (.int .i64 (cmpZ (m : Int) (n : Int))))) [] := by
 have := zju (m : Int) (n : Int) (by omega) (by omega)
 rwa [zaR, zaR] at this
theorem zk9 (m n : Nat) : cmpZ (m : Int) (n : Int) > 0 ↔ n < m := by
 unfold cmpZ
 split
 ·constructor <;> intro h <;> omega
 ·split <;> constructor <;> intro h <;> omega
theorem zeB (a b : List (Int × Int)) :
  (chkS a ≠ 0 ∧ chkE a b = chkS a) ∨ (chkS a = 0 ∧ a.length ≠ b.length ∧ chkE a b = 10) ∨
  (chkS a = 0 ∧ a.length = b.length ∧ ∃ F, F = (fun i => decide ((a.getD i (0, 0)).1 = (b.getD i (0, 0)).1)) ∧ ((allR a.length F = false ∧ chkE a b = 7) ∨ (allR a.length F = true ∧ ((a.length ≤ 1073741824 ∧ chkE a b = 0) ∨ (¬ a.length ≤ 1073741824 ∧ chkE a b = 3))))) := by
 unfold chkE
 by_cases hc : chkS a = 0
 ·rw [if_pos hc]
  by_cases hl : a.length = b.length
  ·rw [if_pos hl]
   refine .inr (.inr ⟨hc, hl, _, rfl, ?_⟩)
   cases hF : allR a.length (fun i => decide ((a.getD i (0, 0)).1 = (b.getD i (0, 0)).1)) with
   | false => exact .inl ⟨rfl, rfl⟩
   | true =>
    refine .inr ⟨rfl, ?_⟩
    rw [if_pos rfl]
    by_cases hM : a.length ≤ 1073741824
    ·exact .inl ⟨hM, if_pos hM⟩
    ·exact .inr ⟨hM, if_neg hM⟩
  ·exact .inr (.inl ⟨hc, hl, if_neg hl⟩)
 ·exact .inl ⟨hc, if_neg hc⟩
theorem zg1 (a b : List (Int × Int)) (ha : a.length ≤ 8796093022000) (hb0 : b.length ≤ 8796093022000) (he : chkE a b ≠ 0) : zaq Tryz.prog 21 [.r (.sl 2 (smps a)), .r (.sl 2 (smps b))] [] (.tu [smA 0 0 0 0, .r (.v (.int .i64 (chkE a b)))]) [] := by
 have cC := zeU a (by omega)
 have l1 := za8 a
 have l2 := za8 b
 have hcs := zeB a b
 generalize chkE a b = e at *
 refine zaw Tryz.func21 rfl (Nat.le_of_ble_eq_true rfl) rfl rfl ?_
 rcases hcs with ⟨hc, rfl⟩ | ⟨hc, hl, rfl⟩ | ⟨hc, hl, F, hF, hcs⟩
 ·generalize chkS a = c at *
  (repeat' (first | refine zao ?_ | (refine is_f 33 ?_; refine zav (cC) ?_) | (refine zab (fun hb => ?_) (fun hb => ?_) <;> (try (exfalso; omega))) | fail))
  all_goals (first | exact zcc [] (Rt.sm 0 0 0 0) (.int rfl) rfl rfl rfl rfl rfl (zan rfl) rfl | (exfalso; omega))
 ·rw [hc] at cC
  (repeat' (first | refine zao ?_ | (refine is_f 33 ?_; refine zav (cC) ?_) | (refine zab (fun hb => ?_) (fun hb => ?_) <;> (try (exfalso; omega))) | fail))
  all_goals (first | (exfalso; omega) | exact zcc [] (Rt.sm 0 0 0 0) (.int rfl) rfl rfl rfl rfl rfl (zan rfl) rfl)
 ·rw [hc] at cC
  (repeat' (first | refine zao ?_ | (refine is_f 33 ?_; refine zav (cC) ?_) | (refine zab (fun hb => ?_) (fun hb => ?_) <;> (try (exfalso; omega))) | fail))
  all_goals (first | (exfalso; omega) | skip)
  refine zap (rkS a b) (fun i => i ≤ a.length ∧ ∀ j, j < i → F j = true) (fun i => a.length - i) 0 ⟨Nat.zero_le _, fun j hj => absurd hj (Nat.not_lt_zero _)⟩ (by (refine Le.mk [] [] zai zaK zaS zah)) fun i hi => ?_
  obtain ⟨hi1, hi2⟩ := hi
  rcases Nat.lt_or_ge i a.length with hi | hi
  ·have ga := zbx (l := a) hi
   have gb := zbx (l := b) (j := i) (by omega)
   have hn := zbg i (by omega)
   by_cases ht : (a.getD i (0, 0)).1 = (b.getD i (0, 0)).1
   ·have hFi : F i = true := by rw [hF]; exact decide_eq_true ht
    clear hcs
    (repeat' (first | refine zao ?_ | (refine zab (fun hb => ?_) (fun hb => ?_) <;> (try (exfalso; omega))) | fail))
    all_goals (first | (exfalso; omega) | exact ⟨i + 1, ⟨hi, fun j hj => by
     rcases Nat.lt_or_ge j i with h | h
     ·exact hi2 j h
     ·rw [show j = i by omega]; exact hFi⟩, by show Le _ _ (rkS a b (i + 1)); (refine Le.mk [] [] zai zaK zaS zah), by show a.length - (i + 1) < a.length - i; omega⟩)
   ·have hFi : F i = false := by rw [hF]; exact decide_eq_false ht
    have hf : allR a.length F = false := (zcE i hi hFi).symm
    have e7 : e = 7 := by
     rcases hcs with h | h
     ·exact h.2
     ·rw [hf] at h; cases h.1
    subst e7
    clear hcs
    (repeat' (first | refine zao ?_ | (refine zab (fun hb => ?_) (fun hb => ?_) <;> (try (exfalso; omega))) | fail))
    all_goals (first | (exfalso; omega) | exact zcc [] (Rt.sm 0 0 0 0) (.int rfl) rfl rfl rfl rfl rfl (zan rfl) rfl)
  ·have ht : allR a.length F = true := (zd8 fun j hj => hi2 j (by omega)).symm
   have e3 : e = 3 ∧ ¬ a.length ≤ 1073741824 := by
    rcases hcs with h | ⟨_, h | h⟩
    ·rw [ht] at h; cases h.1
    ·exact absurd h.2 he
    ·exact ⟨h.2, h.1⟩
   obtain ⟨rfl, hM⟩ := e3
   clear hcs
   (repeat' (first | refine zao ?_ | (refine zab (fun hb => ?_) (fun hb => ?_) <;> (try (exfalso; omega))) | fail))
   all_goals (first | (exfalso; omega) | exact zcc [] (Rt.sm 0 0 0 0) (.int rfl) rfl rfl rfl rfl rfl (zan rfl) rfl)
theorem zhD (a b : List (Int × Int)) (hsa : Smp a) (hsb : Smp b) (ha : a.length ≤ 8796093022000) (hb0 : b.length ≤ 8796093022000) (he : chkE a b = 0) : zaq Tryz.prog 21 [.r (.sl 2 (smps a)), .r (.sl 2 (smps b))] [] (.tu [smA a.length (mD (fD a b) a.length) (sD (fD a b) a.length) (sD (fun i => fD a b i * fD a b i) a.length), .r (.v (.int .i64 0))]) [] := by
 have cC := zeU a (by omega)
 have l1 := za8 a
 have l2 := za8 b
 have hcs := zeB a b
 rw [he] at hcs
 have hX : chkS a = 0 ∧ a.length = b.length ∧ a.length ≤ 1073741824 ∧ ∀ i, i < a.length → (a.getD i (0, 0)).1 = (b.getD i (0, 0)).1 := by
  rcases hcs with h | h | ⟨h1, h2, F, hF, h | ⟨h, h3 | h3⟩⟩
  ·exact absurd h.2.symm h.1
  ·exact absurd h.2.2 (by decide)
  ·exact absurd h.2 (by decide)
  ·refine ⟨h1, h2, h3.1, fun i hi => ?_⟩
   by_cases hne : (a.getD i (0, 0)).1 = (b.getD i (0, 0)).1
   ·exact hne
   ·have : allR a.length F = false := (zcE i hi (by rw [hF]; exact decide_eq_false hne)).symm
    rw [h] at this; cases this
  ·exact absurd h3.2 (by decide)
 clear hcs he
 obtain ⟨hc, hlen, hM, hT⟩ := hX
 rw [hc] at cC
 have hf : ∀ i, i < a.length → fD a b i < B64 := fun i hi => zmw hsa hsb i hi (by omega)
 refine zaw Tryz.func21 rfl (Nat.le_of_ble_eq_true rfl) rfl rfl ?_
 (repeat' (first | refine zao ?_ | (refine is_f 33 ?_; refine zav (cC) ?_) | (refine zab (fun hb => ?_) (fun hb => ?_) <;> (try (exfalso; omega))) | fail))
 all_goals (first | (exfalso; omega) | skip)
 refine zap (rkS a b) (fun i => i ≤ a.length) (fun i => a.length - i) 0 (Nat.zero_le _) (by (refine Le.mk [] [] zai zaK zaS zah)) fun i hi => ?_
 rcases Nat.lt_or_ge i a.length with hi' | hi'
 ·have ga := zbx (l := a) hi'
  have gb := zbx (l := b) (j := i) (by omega)
  have hn := zbg i (by omega)
  have ht := hT i hi'
  (repeat' (first | refine zao ?_ | (refine zab (fun hb => ?_) (fun hb => ?_) <;> (try (exfalso; omega))) | fail))
  all_goals (first | (exfalso; omega) | exact ⟨i + 1, hi', by show Le _ _ (rkS a b (i + 1)); (refine Le.mk [] [] zai zaK zaS zah), by show a.length - (i + 1) < a.length - i; omega⟩)
 ·clear hT
  (repeat' (first | refine zao ?_ | (refine zab (fun hb => ?_) (fun hb => ?_) <;> (try (exfalso; omega))) | fail))
  all_goals (first | (exfalso; omega) | skip)
  refine zap (fun x : Nat × Nat × Nat × Nat => rmS a b x.1 x.2.1 x.2.2.1 x.2.2.2) (fun x => x.1 ≤ a.length ∧ x.2.1 = mD (fD a b) x.1 ∧ x.2.2.1 = sD (fD a b) x.1 ∧ x.2.2.2 = sD (fun i => fD a b i * fD a b i) x.1) (fun x => a.length - x.1) (0, 0, 0, 0) ⟨Nat.zero_le _, rfl, rfl, rfl⟩ (by (refine Le.mk [] [] zai zaK zaS zah)) fun x hx => ?_
  obtain ⟨i, w, s, q⟩ := x
  obtain ⟨hi1, hw, hs, hq⟩ := hx
  dsimp only at hi1 hw hs hq
  have bs := zil (fD a b) (B64 - 1) i (fun j hj => by have := hf j (by omega); omega)
  have bq := zil (fun i => fD a b i * fD a b i) ((B64 - 1) * (B64 - 1)) i (fun j hj => Nat.mul_le_mul (by have := hf j (by omega); omega) (by have := hf j (by omega); omega))
  have bw := zlj (fD a b) B64 (by decide) i (fun j hj => hf j (by omega))
  have bs2 : s ≤ 1073741824 * (B64 - 1) := hs ▸ Nat.le_trans bs (Nat.mul_le_mul_right _ (by omega))
  have bq2 : q ≤ 1073741824 * ((B64 - 1) * (B64 - 1)) := hq ▸ Nat.le_trans bq (Nat.mul_le_mul_right _ (by omega))
  rw [← hw] at bw
  clear bs bq
  have K1 : 1073741824 * (B64 - 1) + B64 < B64 ^ 4 := by decide
  have K2 : 1073741824 * ((B64 - 1) * (B64 - 1)) + (B64 - 1) * (B64 - 1) < B64 ^ 4 := by decide
  have K3 : B64 < B64 ^ 4 := by decide
  change awp _ _ _ _ _ (rmS a b i w s q)
  rcases Nat.lt_or_ge i a.length with hi | hi
  ·have ga := zbx (l := a) hi
   have gb := zbx (l := b) (j := i) (by omega)
   have hd := hf i hi
   have hcd : (dst (a.getD i (0, 0)).2 (b.getD i (0, 0)).2) = ((fD a b i : Nat) : Int) := by
    have := zfj (a.getD i (0, 0)).2 (b.getD i (0, 0)).2 (hsa i hi).2 (hsb i (by omega)).2
    unfold fD; omega
   have cD := zkx (a.getD i (0, 0)).2 (b.getD i (0, 0)).2 (hsa i hi).2 (hsb i (by omega)).2
   rw [hcd] at cD
   have e0 : mD (fD a b) (i + 1) = if w < fD a b i then fD a b i else w := by rw [mD, ← hw]
   have e1 : sD (fD a b) (i + 1) = s + fD a b i := by rw [sD, ← hs]
   have e2 : sD (fun i => fD a b i * fD a b i) (i + 1) = q + fD a b i * fD a b i := by rw [sD, ← hq]
   generalize hDi : fD a b i = d at *
   have hdd : d * d ≤ (B64 - 1) * (B64 - 1) := Nat.mul_le_mul (by omega) (by omega)
   have cO := zne d hd
   have cMu := znd d d (by omega) (by omega) (by omega)
   have cA := zkv s d (by omega) (by omega) (by omega)
   have cB := zkv q (d * d) (by omega) (by omega) (by omega)
   have cK := zig d w (by omega) (by omega)
   have hcz := zk9 d w
   have hn := zbg i (by omega)
   have hfin : (i + 1 ≤ a.length) ∧ (if w < d then d else w) = mD (fD a b) (i + 1) ∧ s + d = sD (fD a b) (i + 1) ∧ q + d * d = sD (fun i => fD a b i * fD a b i) (i + 1) := ⟨hi, e0.symm, e1.symm, e2.symm⟩
   clear bs2 bq2 bw hcd hf hd K1 K2 K3 hdd e0 e1 e2 hw hs hq hDi
   generalize cmpZ (d : Int) (w : Int) = cz at *
   generalize s + d = s' at *
   generalize q + d * d = q' at *
   generalize d * d = dd at *
   by_cases hwd : w < d
   ·have hcp := hcz.2 hwd
    rw [if_pos hwd] at hfin
    clear hcz
    (repeat' (first | refine zao ?_ | (refine is_f 35 ?_; refine zav (cD) ?_) | (refine is_f 34 ?_; refine zav (cO) ?_) | (refine is_f 36 ?_; refine zav (cMu) ?_) | (refine is_f 37 ?_; refine zav (cK) ?_) | (refine is_f 38 ?_; refine zav (cA) ?_) | (refine is_f 38 ?_; refine zav (cB) ?_) | (refine zab (fun hb => ?_) (fun hb => ?_) <;> (try (exfalso; omega))) | fail))
    all_goals (first | (exfalso; omega) | exact ⟨(i + 1, d, s', q'), hfin, by show Le _ _ (rmS a b (i + 1) d s' q'); (refine Le.mk [] [] zai zaK zaS zah), by show a.length - (i + 1) < a.length - i; omega⟩)
   ·have hcp : ¬ cz > 0 := fun h => hwd (hcz.1 h)
    rw [if_neg hwd] at hfin
    clear hcz
    (repeat' (first | refine zao ?_ | (refine is_f 35 ?_; refine zav (cD) ?_) | (refine is_f 34 ?_; refine zav (cO) ?_) | (refine is_f 36 ?_; refine zav (cMu) ?_) | (refine is_f 37 ?_; refine zav (cK) ?_) | (refine is_f 38 ?_; refine zav (cA) ?_) | (refine is_f 38 ?_; refine zav (cB) ?_) | (refine zab (fun hb => ?_) (fun hb => ?_) <;> (try (exfalso; omega))) | fail))
    all_goals (first | (exfalso; omega) | exact ⟨(i + 1, w, s', q'), hfin, by show Le _ _ (rmS a b (i + 1) w s' q'); (refine Le.mk [] [] zai zaK zaS zah), by show a.length - (i + 1) < a.length - i; omega⟩)
  ·have hie : i = a.length := by omega
   subst hie
   have e : smA a.length (mD (fD a b) a.length) (sD (fD a b) a.length) (sD (fun i => fD a b i * fD a b i) a.length) = smA (smps a).length w s q := by rw [l1, hw, hs, hq]
   rw [e]
   clear bs2 bq2 bw K1 K2 K3 hw hs hq e
   (repeat' (first | refine zao ?_ | (refine zab (fun hb => ?_) (fun hb => ?_) <;> (try (exfalso; omega))) | fail))
   all_goals (first | (exfalso; omega) | exact zcc [] (Rt.sm (smps a).length w s q) (.int rfl) rfl rfl rfl rfl rfl (zan rfl) rfl)
theorem zkW (a b : Int × Int) (h1 : I64 a.1) (h2 : I64 a.2) (h3 : I64 b.1) (h4 : I64 b.2) : Smp [a, b] := by
 intro i hi
 rcases i with _ | _ | i
 ·exact ⟨h1, h2⟩
 ·exact ⟨h3, h4⟩
 ·exact absurd hi (by simp)
theorem zjh (T : TypeId) (fr : Nat × Nat) : zaq Tryz.prog 9 [] [.gl g10 (tabO T fr)] (.r (.v (.bool true))) [some (.gl g10 (tabO T fr))] := by
 have cC := zfh [(1, 1), (2, 2)] [(1, 1), (2, 5)] (zkW _ _ (by unfold I64; decide) (by unfold I64; decide) (by unfold I64; decide) (by unfold I64; decide)) (zkW _ _ (by unfold I64; decide) (by unfold I64; decide) (by unfold I64; decide) (by unfold I64; decide)) (by simp) (by simp) (by decide)
 have e : smA ([(1, 1), (2, 2)] : List (Int × Int)).length (mD (fD [(1, 1), (2, 2)] [(1, 1), (2, 5)]) ([(1, 1), (2, 2)] : List (Int × Int)).length) (sD (fD [(1, 1), (2, 2)] [(1, 1), (2, 5)]) ([(1, 1), (2, 2)] : List (Int × Int)).length) (sD (fun i => fD [(1, 1), (2, 2)] [(1, 1), (2, 5)] i * fD [(1, 1), (2, 2)] [(1, 1), (2, 5)] i) ([(1, 1), (2, 2)] : List (Int × Int)).length) = smA 2 3 3 9 := by
  have e1 : mD (fD [(1, 1), (2, 2)] [(1, 1), (2, 5)]) 2 = 3 := by decide
  have e2 : sD (fD [(1, 1), (2, 2)] [(1, 1), (2, 5)]) 2 = 3 := by decide
  have e3 : sD (fun i => fD [(1, 1), (2, 2)] [(1, 1), (2, 5)] i * fD [(1, 1), (2, 2)] [(1, 1), (2, 5)] i) 2 = 9 := by decide
  simp only [List.length_cons, List.length_nil, Nat.zero_add, Nat.reduceAdd, e1, e2, e3]
 rw [e] at cC
 have cT := zg6 ((2 : Nat) : Int) (by unfold I64; decide) false 3 false 3 false 9 (by decide) (by decide) (by decide) T fr
 rw [show sb (tx33 ((2 : Nat) : Int) (zb false 3) (zb false 3) (zb false 9)) = ⟨#[50, 32, 51, 32, 51, 32, 57]⟩ by decide +kernel] at cT
 have hE1 : ([[.v (.int .i64 1), .v (.int .i64 1)], [.v (.int .i64 2), .v (.int .i64 2)]] : List (List RV)) = smps [(1, 1), (2, 2)] := rfl
 have hE2 : ([[.v (.int .i64 1), .v (.int .i64 1)], [.v (.int .i64 2), .v (.int .i64 5)]] : List (List RV)) = smps [(1, 1), (2, 5)] := rfl
 generalize tabO T fr = o at *
 refine zaw Tryz.func9 rfl (Nat.le_of_ble_eq_true rfl) rfl rfl ?_
 (repeat' (first | refine zao ?_ | (refine is_f 20 ?_; refine zly (cC) ?_) | ((refine is_f 11 ?_; refine zcw 0 (cT) zct (by kernel_rfl) rfl rfl zaa ?_); try dsimp only [AV.unfr, AV.unfrs, frsL, zaO, rdOf, @List.length_cons Blk, @List.length_nil Blk, @List.nil_append (Nat × Option Blk), @List.cons_append (Nat × Option Blk), @List.nil_append Blk, @List.cons_append Blk, Nat.add_zero, Nat.zero_add, Nat.reduceAdd]) | (refine zab (fun hb => ?_) (fun hb => ?_) <;> (try (exfalso; omega))) | fail))
 all_goals (first | exact absurd rfl hb | exact zbC [] (.bool rfl) rfl rfl (zaF rfl rfl) rfl)
theorem zdr (a b : List (Int × Int)) (hsa : Smp a) (hsb : Smp b) (ha : a.length ≤ 8796093022000) (hb0 : b.length ≤ 8796093022000) (T : TypeId) (fr : Nat × Nat) :
  zaq Tryz.prog 10 [.r (.sl 2 (smps a)), .r (.sl 2 (smps b))] [.gl g10 (tabO T fr)] (.r (.v (.bool true))) [some (.gl g10 (tabO T fr))] := by
 have key : ∀ (c w s q : Nat) (e : Int), I64 (c : Int) → w < B64 ^ 4 → s < B64 ^ 4 → q < B64 ^ 4 →
   zaq Tryz.prog 20 [.r (.sl 2 (smps a)), .r (.sl 2 (smps b))] [] (.tu [smA c w s q, .r (.v (.int .i64 e))]) [] →
   zaq Tryz.prog 21 [.r (.sl 2 (smps a)), .r (.sl 2 (smps b))] [] (.tu [smA c w s q, .r (.v (.int .i64 e))]) [] →
   zaq Tryz.prog 10 [.r (.sl 2 (smps a)), .r (.sl 2 (smps b))] [.gl g10 (tabO T fr)] (.r (.v (.bool true))) [some (.gl g10 (tabO T fr))] := by
  intro c w s q e hc hw hs hq cC cR
  have cT := zg6 (c : Int) hc false w false s false q hw hs hq T fr
  have cU := zfI (c : Int) hc false w false s false q hw hs hq
  change zaq _ _ [smA c w s q] _ _ _ at cU
  generalize tx33 (c : Int) (zb false w) (zb false s) (zb false q) = R at *
  generalize tabO T fr = o at *
  refine zaw Tryz.func10 rfl (Nat.le_of_ble_eq_true rfl) rfl rfl ?_
  (repeat' (first | (first | refine zbm 3 ?_ | refine za4 3 ?_) | refine zcy ?_ | refine zbp ?_ | (refine is_f 20 ?_; refine zav (cC) ?_) | (refine is_f 21 ?_; refine zav (cR) ?_) | (refine zab (fun hb => ?_) (fun hb => ?_) <;> (try (exfalso; omega))) | fail))
  refine halt ?_
  refine zci (T := ⟨[(4, .r (.v (.bool false))), (5, .pt 1 0), (6, .r (.v (.int .i64 e))), (7, .pt 2 0), (8, .r (.v (.int .i64 e)))], [(0, some (.gl g10 o)), (1, some (.var 28 ((smR c w s q).map .r))), (2, some (.var 28 ((smR c w s q).map .r)))], 3⟩) (by (refine Le.mk [(0,0),(1,1),(2,2)] [] zai zaK zaS zah)) ?_
  clear cC cR
  (repeat' (first | (refine zbu ?_; refine zbH ?_; refine zag rfl zaa (zmN rfl rfl) ?_) | refine zao ?_ | ((refine is_f 11 ?_; refine zcw 0 (cT) zct (by kernel_rfl) rfl rfl zaa ?_); try dsimp only [AV.unfr, AV.unfrs, frsL, zaO, rdOf, @List.length_cons Blk, @List.length_nil Blk, @List.nil_append (Nat × Option Blk), @List.cons_append (Nat × Option Blk), @List.nil_append Blk, @List.cons_append Blk, Nat.add_zero, Nat.zero_add, Nat.reduceAdd]) | (refine is_f 12 ?_; refine zav (cU) ?_) | (refine zab (fun hb => ?_) (fun hb => ?_) <;> (try (exfalso; omega))) | fail))
  all_goals (first | exact absurd rfl hb | exact zbC [] (.bool rfl) rfl rfl (zaF rfl rfl) rfl)
 by_cases he : chkE a b = 0
 ·have hlM : a.length = b.length ∧ a.length ≤ 1073741824 := by
   rcases zeB a b with h | h | ⟨h1, h2, F, hF, h | ⟨h, h3 | h3⟩⟩
   ·exact absurd (h.2.symm.trans he) h.1
   ·exact absurd (h.2.2.symm.trans he) (by decide)
   ·exact absurd (h.2.symm.trans he) (by decide)
   ·exact ⟨h2, h3.1⟩
   ·exact absurd (h3.2.symm.trans he) (by decide)
  obtain ⟨hlen, hM⟩ := hlM
  have hf : ∀ i, i < a.length → fD a b i < B64 := fun i hi => zmw hsa hsb i hi (by omega)
  have bs := zil (fD a b) (B64 - 1) a.length (fun j hj => by have := hf j (by omega); omega)
  have bq := zil (fun i => fD a b i * fD a b i) ((B64 - 1) * (B64 - 1)) a.length (fun j hj => Nat.mul_le_mul (by have := hf j (by omega); omega) (by have := hf j (by omega); omega))
  have bw := zlj (fD a b) B64 (by decide) a.length (fun j hj => hf j (by omega))
  have bs2 := Nat.le_trans bs (Nat.mul_le_mul_right (B64 - 1) hM)
  have bq2 := Nat.le_trans bq (Nat.mul_le_mul_right ((B64 - 1) * (B64 - 1)) hM)
  have K1 : 1073741824 * (B64 - 1) < B64 ^ 4 := by decide
  have K2 : 1073741824 * ((B64 - 1) * (B64 - 1)) < B64 ^ 4 := by decide
  have K3 : B64 < B64 ^ 4 := by decide
  exact key _ _ _ _ 0 (by unfold I64; omega) (by omega) (by omega) (by omega) (zfh a b hsa hsb ha hb0 he) (zhD a b hsa hsb ha hb0 he)
 ·have h := zhp a b ha hb0 he
  have h' := zg1 a b ha hb0 he
  exact key 0 0 0 0 (chkE a b) (by unfold I64; decide) (by decide) (by decide) (by decide) h h'
end Go.Proofs.YtpnbgalbdohfgaaGreatDoor
