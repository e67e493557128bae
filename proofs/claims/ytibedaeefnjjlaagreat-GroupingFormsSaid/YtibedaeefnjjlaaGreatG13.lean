/- Texts of the second layer in one: Wg9. -/
import Derived.Test.YtibedaeefnjjlaaGreatG12
import Derived.Test.YtibedaeefnjjlaaGreatG10
set_option maxHeartbeats 8000000
set_option maxRecDepth 100000
set_option linter.unusedVariables false
set_option linter.unusedSimpArgs false
namespace Go.Proofs.YtibedaeefnjjlaaGreat
open Go.RowKit Go.Ab Go.Wd
theorem zb_f (n : Nat) : zb false n = (n : Int) := rfl
theorem zb_t (n : Nat) : zb true n = -(n : Int) := rfl
theorem ziM {m n : Nat} (h : n ≤ m) : 0 ≤ cmpN m n := by unfold cmpN; rw [if_neg (by omega)]; split <;> omega
theorem zgG {m n : Nat} (h : m < n) : ¬ 0 ≤ cmpN m n := by unfold cmpN; rw [if_pos h]; omega
theorem zpr (x y : Int) (hx : x.natAbs < B64 ^ 4) (hy : y.natAbs < B64 ^ 4) (hxy : (x + y).natAbs < B64 ^ 4) : zan Tryz.prog 147 [wz x, wz y] [] (.tu [wz (x + y), .r (.v (.bool true))]) [] := by
 have c1 := zcM x hx
 have c2 := zcM y hy
 rcases zbk x with ⟨m, rfl⟩ | ⟨m, hm, rfl⟩ <;> rcases zbk y with ⟨n, rfl⟩ | ⟨n, hn, rfl⟩
 ·have hM : m < B64 ^ 4 := by simpa using hx
  have hN : n < B64 ^ 4 := by simpa using hy
  have hS : m + n < B64 ^ 4 := by omega
  have cA := zpA m n hM hN hS
  have cS := zaP false (m + n) hS
  rw [zb_f] at cS
  rw [show (m : Int) + (n : Int) = ((m + n : Nat) : Int) by omega]
  rw [zat] at c1 c2
  rw [zat m, zat n]
  generalize m + n = s at *
  refine zap Tryz.func147 rfl (Nat.le_of_ble_eq_true rfl) rfl rfl ?_
  (repeat' (first | refine zad ?_ | (refine is_f 144 ?_; refine zaa (c1) ?_) | (refine is_f 144 ?_; refine zaa (c2) ?_) | (refine is_f 157 ?_; refine zaa (cA) ?_) | (refine is_f 155 ?_; refine zaa (cS) ?_) | (refine zac (fun hb => ?_) (fun hb => ?_) <;> (try (exfalso; omega))) | fail))
  all_goals (first | exact absurd rfl hb | exact zbb [] (Rt.wz _) (.bool rfl) rfl rfl rfl rfl rfl (zak rfl) rfl)
 ·have hM : m < B64 ^ 4 := by simpa using hx
  have hN : n < B64 ^ 4 := by simpa using hy
  have cC := zjF m n hM hN
  rw [zat] at c1
  rw [zaD n hn] at c2
  rw [zat m, zaD n hn]
  rcases Nat.lt_or_ge m n with hlt | hge
  ·have cS := zlp n m hN hM (by omega)
   have cG := zaP true (n - m) (by omega)
   have hc := zgG hlt
   rw [zb_t] at cG
   rw [show (m : Int) + -(n : Int) = -((n - m : Nat) : Int) by omega]
   generalize n - m = s at *
   generalize cmpN m n = e at *
   refine zap Tryz.func147 rfl (Nat.le_of_ble_eq_true rfl) rfl rfl ?_
   (repeat' (first | refine zad ?_ | (refine is_f 144 ?_; refine zaa (c1) ?_) | (refine is_f 144 ?_; refine zaa (c2) ?_) | (refine is_f 150 ?_; refine zaa (cC) ?_) | (refine is_f 158 ?_; refine zaa (cS) ?_) | (refine is_f 155 ?_; refine zaa (cG) ?_) | (refine zac (fun hb => ?_) (fun hb => ?_) <;> (try (exfalso; omega))) | fail))
   all_goals (first | (exfalso; omega) | exact absurd rfl hb | exact zbb [] (Rt.wz _) (.bool rfl) rfl rfl rfl rfl rfl (zak rfl) rfl)
  ·have cS := zlp m n hM hN hge
   have cG := zaP false (m - n) (by omega)
   have hc := ziM hge
   rw [zb_f] at cG
   rw [show (m : Int) + -(n : Int) = ((m - n : Nat) : Int) by omega]
   generalize m - n = s at *
   generalize cmpN m n = e at *
   refine zap Tryz.func147 rfl (Nat.le_of_ble_eq_true rfl) rfl rfl ?_
   (repeat' (first | refine zad ?_ | (refine is_f 144 ?_; refine zaa (c1) ?_) | (refine is_f 144 ?_; refine zaa (c2) ?_) | (refine is_f 150 ?_; refine zaa (cC) ?_) | (refine is_f 158 ?_; refine zaa (cS) ?_) | (refine is_f 155 ?_; refine zaa (cG) ?_) | (refine zac (fun hb => ?_) (fun hb => ?_) <;> (try (exfalso; omega))) | fail))
   all_goals (first | (exfalso; omega) | exact absurd rfl hb | exact zbb [] (Rt.wz _) (.bool rfl) rfl rfl rfl rfl rfl (zak rfl) rfl)
 ·have hM : m < B64 ^ 4 := by simpa using hx
  have hN : n < B64 ^ 4 := by simpa using hy
  have cC := zjF m n hM hN
  rw [zaD m hm] at c1
  rw [zat] at c2
  rw [zat n, zaD m hm]
  rcases Nat.lt_or_ge m n with hlt | hge
  ·have cS := zlp n m hN hM (by omega)
   have cG := zaP false (n - m) (by omega)
   have hc := zgG hlt
   rw [zb_f] at cG
   rw [show -(m : Int) + (n : Int) = ((n - m : Nat) : Int) by omega]
   generalize n - m = s at *
   generalize cmpN m n = e at *
   refine zap Tryz.func147 rfl (Nat.le_of_ble_eq_true rfl) rfl rfl ?_
   (repeat' (first | refine zad ?_ | (refine is_f 144 ?_; refine zaa (c1) ?_) | (refine is_f 144 ?_; refine zaa (c2) ?_) | (refine is_f 150 ?_; refine zaa (cC) ?_) | (refine is_f 158 ?_; refine zaa (cS) ?_) | (refine is_f 155 ?_; refine zaa (cG) ?_) | (refine zac (fun hb => ?_) (fun hb => ?_) <;> (try (exfalso; omega))) | fail))
   all_goals (first | (exfalso; omega) | exact absurd rfl hb | exact zbb [] (Rt.wz _) (.bool rfl) rfl rfl rfl rfl rfl (zak rfl) rfl)
  ·have cS := zlp m n hM hN hge
   have cG := zaP true (m - n) (by omega)
   have hc := ziM hge
   rw [zb_t] at cG
   rw [show -(m : Int) + (n : Int) = -((m - n : Nat) : Int) by omega]
   generalize m - n = s at *
   generalize cmpN m n = e at *
   refine zap Tryz.func147 rfl (Nat.le_of_ble_eq_true rfl) rfl rfl ?_
   (repeat' (first | refine zad ?_ | (refine is_f 144 ?_; refine zaa (c1) ?_) | (refine is_f 144 ?_; refine zaa (c2) ?_) | (refine is_f 150 ?_; refine zaa (cC) ?_) | (refine is_f 158 ?_; refine zaa (cS) ?_) | (refine is_f 155 ?_; refine zaa (cG) ?_) | (refine zac (fun hb => ?_) (fun hb => ?_) <;> (try (exfalso; omega))) | fail))
   all_goals (first | (exfalso; omega) | exact absurd rfl hb | exact zbb [] (Rt.wz _) (.bool rfl) rfl rfl rfl rfl rfl (zak rfl) rfl)
 ·have hM : m < B64 ^ 4 := by simpa using hx
  have hN : n < B64 ^ 4 := by simpa using hy
  have hS : m + n < B64 ^ 4 := by omega
  have cA := zpA m n hM hN hS
  have cS := zaP true (m + n) hS
  rw [zb_t] at cS
  rw [show -(m : Int) + -(n : Int) = -((m + n : Nat) : Int) by omega]
  rw [zaD m hm] at c1
  rw [zaD n hn] at c2
  rw [zaD m hm, zaD n hn]
  generalize m + n = s at *
  refine zap Tryz.func147 rfl (Nat.le_of_ble_eq_true rfl) rfl rfl ?_
  (repeat' (first | refine zad ?_ | (refine is_f 144 ?_; refine zaa (c1) ?_) | (refine is_f 144 ?_; refine zaa (c2) ?_) | (refine is_f 157 ?_; refine zaa (cA) ?_) | (refine is_f 155 ?_; refine zaa (cS) ?_) | (refine zac (fun hb => ?_) (fun hb => ?_) <;> (try (exfalso; omega))) | fail))
  all_goals (first | exact absurd rfl hb | exact zbb [] (Rt.wz _) (.bool rfl) rfl rfl rfl rfl rfl (zak rfl) rfl)
theorem zpt (x y : Int) (hx : x.natAbs < B64 ^ 4) (hy : y.natAbs < B64 ^ 4) (hxy : (x * y).natAbs < B64 ^ 4) : zan Tryz.prog 148 [wz x, wz y] [] (.tu [wz (x * y), .r (.v (.bool true))]) [] := by
 have c1 := zcM x hx
 have c2 := zcM y hy
 rw [Int.natAbs_mul] at hxy
 rcases zbk x with ⟨m, rfl⟩ | ⟨m, hm, rfl⟩ <;> rcases zbk y with ⟨n, rfl⟩ | ⟨n, hn, rfl⟩
 ·have hM : m < B64 ^ 4 := by simpa using hx
  have hN : n < B64 ^ 4 := by simpa using hy
  have hS : m * n < B64 ^ 4 := by simpa using hxy
  have cA := zl0 m n hM hN hS
  have cS := zaP false (m * n) hS
  rw [zb_f] at cS
  rw [show (m : Int) * (n : Int) = ((m * n : Nat) : Int) by simp]
  rw [zat] at c1 c2
  rw [zat m, zat n]
  generalize m * n = s at *
  refine zap Tryz.func148 rfl (Nat.le_of_ble_eq_true rfl) rfl rfl ?_
  (repeat' (first | refine zad ?_ | (refine is_f 144 ?_; refine zaa (c1) ?_) | (refine is_f 144 ?_; refine zaa (c2) ?_) | (refine is_f 159 ?_; refine zaa (cA) ?_) | (refine is_f 155 ?_; refine zaa (cS) ?_) | (refine zac (fun hb => ?_) (fun hb => ?_) <;> (try (exfalso; omega))) | fail))
  all_goals (first | exact absurd rfl hb | exact zbb [] (Rt.wz _) (.bool rfl) rfl rfl rfl rfl rfl (zak rfl) rfl)
 ·have hM : m < B64 ^ 4 := by simpa using hx
  have hN : n < B64 ^ 4 := by simpa using hy
  have hS : m * n < B64 ^ 4 := by simpa using hxy
  have cA := zl0 m n hM hN hS
  have cS := zaP true (m * n) hS
  rw [zb_t] at cS
  rw [show (m : Int) * -(n : Int) = -((m * n : Nat) : Int) by rw [Int.mul_neg, Int.natCast_mul]]
  rw [zat] at c1
  rw [zaD n hn] at c2
  rw [zat m, zaD n hn]
  generalize m * n = s at *
  refine zap Tryz.func148 rfl (Nat.le_of_ble_eq_true rfl) rfl rfl ?_
  (repeat' (first | refine zad ?_ | (refine is_f 144 ?_; refine zaa (c1) ?_) | (refine is_f 144 ?_; refine zaa (c2) ?_) | (refine is_f 159 ?_; refine zaa (cA) ?_) | (refine is_f 155 ?_; refine zaa (cS) ?_) | (refine zac (fun hb => ?_) (fun hb => ?_) <;> (try (exfalso; omega))) | fail))
  all_goals (first | exact absurd rfl hb | exact zbb [] (Rt.wz _) (.bool rfl) rfl rfl rfl rfl rfl (zak rfl) rfl)
 ·have hM : m < B64 ^ 4 := by simpa using hx
  have hN : n < B64 ^ 4 := by simpa using hy
  have hS : m * n < B64 ^ 4 := by simpa using hxy
  have cA := zl0 m n hM hN hS
  have cS := zaP true (m * n) hS
  rw [zb_t] at cS
  rw [show -(m : Int) * (n : Int) = -((m * n : Nat) : Int) by rw [Int.neg_mul, Int.natCast_mul]]
  rw [zaD m hm] at c1
  rw [zat] at c2
  rw [zat n, zaD m hm]
  generalize m * n = s at *
  refine zap Tryz.func148 rfl (Nat.le_of_ble_eq_true rfl) rfl rfl ?_
  (repeat' (first | refine zad ?_ | (refine is_f 144 ?_; refine zaa (c1) ?_) | (refine is_f 144 ?_; refine zaa (c2) ?_) | (refine is_f 159 ?_; refine zaa (cA) ?_) | (refine is_f 155 ?_; refine zaa (cS) ?_) | (refine zac (fun hb => ?_) (fun hb => ?_) <;> (try (exfalso; omega))) | fail))
  all_goals (first | exact absurd rfl hb | exact zbb [] (Rt.wz _) (.bool rfl) rfl rfl rfl rfl rfl (zak rfl) rfl)
 ·have hM : m < B64 ^ 4 := by simpa using hx
  have hN : n < B64 ^ 4 := by simpa using hy
  have hS : m * n < B64 ^ 4 := by simpa using hxy
  have cA := zl0 m n hM hN hS
  have cS := zaP false (m * n) hS
  rw [zb_f] at cS
  rw [show -(m : Int) * -(n : Int) = ((m * n : Nat) : Int) by rw [Int.neg_mul_neg, Int.natCast_mul]]
  rw [zaD m hm] at c1
  rw [zaD n hn] at c2
  rw [zaD m hm, zaD n hn]
  generalize m * n = s at *
  refine zap Tryz.func148 rfl (Nat.le_of_ble_eq_true rfl) rfl rfl ?_
  (repeat' (first | refine zad ?_ | (refine is_f 144 ?_; refine zaa (c1) ?_) | (refine is_f 144 ?_; refine zaa (c2) ?_) | (refine is_f 159 ?_; refine zaa (cA) ?_) | (refine is_f 155 ?_; refine zaa (cS) ?_) | (refine zac (fun hb => ?_) (fun hb => ?_) <;> (try (exfalso; omega))) | fail))
  all_goals (first | exact absurd rfl hb | exact zbb [] (Rt.wz _) (.bool rfl) rfl rfl rfl rfl rfl (zak rfl) rfl)
end Go.Proofs.YtibedaeefnjjlaaGreat
