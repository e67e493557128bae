/- Texts of the second layer in one: Wg10. -/
import Derived.Test.YtibedaeefnjjlaaGreatG13
set_option maxHeartbeats 16000000
set_option maxRecDepth 100000
set_option linter.unusedVariables false
set_option linter.unusedSimpArgs false
namespace Go.Proofs.YtibedaeefnjjlaaGreat
open Go.RowKit Go.Ab Go.Wd
theorem zif (m n : Nat) (hn : n ≠ 0) : (m % n = 0 → -(m : Int) / (n : Int) = -((m / n : Nat) : Int) ∧ -(m : Int) % (n : Int) = ((m % n : Nat) : Int)) ∧ (m % n ≠ 0 → -(m : Int) / (n : Int) = -((m / n + 1 : Nat) : Int) ∧ -(m : Int) % (n : Int) = ((n - m % n : Nat) : Int)) := by
 have e := Nat.mod_add_div m n
 have hl := Nat.mod_lt m (Nat.pos_of_ne_zero hn)
 have hp : (0 : Int) < (n : Int) := by omega
 generalize m % n = r at *
 generalize m / n = q at *
 have e2 : (m : Int) = (r : Int) + (n : Int) * (q : Int) := by rw [← e]; simp
 refine ⟨fun h => ?_, fun h => ?_⟩
 ·refine (Int.ediv_emod_unique hp).2 ⟨?_, by omega, by omega⟩
  rw [e2, Int.mul_neg]; omega
 ·refine (Int.ediv_emod_unique hp).2 ⟨?_, by omega, by omega⟩
  have : (((q + 1 : Nat) : Int)) = (q : Int) + 1 := by omega
  rw [e2, Int.mul_neg, this, Int.mul_add, Int.mul_one]; omega
theorem zq6 : w4 1 = .ag [.r (.v (.int .u64 1)), .r (.v (.int .u64 0)), .r (.v (.int .u64 0)), .r (.v (.int .u64 0))] := rfl
section
variable {env : Nat → AV} {H : Nat → Option Blk} {d : Option Tmp} {ty : TypeId} {pos : String} {af : Array Edge} {g : Option (Nat × Bool)} {x y : Operand} {u : TypeId}
theorem zl6 {r : Nat} {c : Bool} (hr : r < B64 ^ 4) (hc : decide (r ≠ 0) = c) (hx : evA env x = w4 r) (hy : evA env y = .ag [.r (.v (.int .u64 0)), .r (.v (.int .u64 0)), .r (.v (.int .u64 0)), .r (.v (.int .u64 0))]) :
  zax Tryz.prog ⟨d, .binOp .neq 34 x y u, ty, pos, af, g⟩ env H [] (.r (.v (.bool c))) := by
 have h := zl5 (P := Tryz.prog) (t := 34) (H := H) (d := d) (ty := ty) (pos := pos) (af := af) (g := g) (u := u) hx hy rfl rfl
 rw [show eqA _ _ = decide (r = 0) from eqw4 r hr] at h
 have e : decide (¬ decide (r = 0) = true) = c := by rw [← hc]; by_cases h0 : r = 0 <;> simp [h0]
 rw [e] at h
 exact h
end
theorem zkx (x y : Int) (hx : x.natAbs < B64 ^ 4) (hy : y.natAbs < B64 ^ 4) (hy0 : y ≠ 0) : zan Tryz.prog 146 [wz x, wz y] [] (.tu [wz (x / y), wz (x % y), .r (.v (.bool true))]) [] := by
 have c1 := zcM x hx
 have c2 := zcM y hy
 have cS := zgr y hy
 have hsg : ¬ sgZ y = 0 := by unfold sgZ; rw [if_neg hy0]; split <;> omega
 generalize sgZ y = sg at *
 rcases zbk x with ⟨m, rfl⟩ | ⟨m, hm, rfl⟩ <;> rcases zbk y with ⟨n, rfl⟩ | ⟨n, hn, rfl⟩
 ·have hM : m < B64 ^ 4 := by simpa using hx
  have hN : n < B64 ^ 4 := by simpa using hy
  have hn0 : n ≠ 0 := by omega
  have cD := zlE m n hM hN hn0
  have hq : m / n < B64 ^ 4 := Nat.lt_of_le_of_lt (Nat.div_le_self _ _) hM
  have hr : m % n < B64 ^ 4 := Nat.lt_of_le_of_lt (Nat.mod_le _ _) hM
  have cG := zaP false (m / n) hq
  have cH := zaP false (m % n) hr
  rw [zb_f] at cG cH
  rw [show (m : Int) / (n : Int) = ((m / n : Nat) : Int) by simp, show (m : Int) % (n : Int) = ((m % n : Nat) : Int) by simp]
  rw [zat] at c1 c2 cS
  rw [zat m, zat n]
  clear hy0
  generalize m / n = q at *
  generalize m % n = r at *
  refine zap Tryz.func146 rfl (Nat.le_of_ble_eq_true rfl) rfl rfl ?_
  (repeat' (first | refine zad ?_ | (refine is_f 144 ?_; refine zaa (c1) ?_) | (refine is_f 144 ?_; refine zaa (c2) ?_) | (refine is_f 112 ?_; refine zaa (cS) ?_) | (refine is_f 156 ?_; refine zaa (cD) ?_) | (refine is_f 155 ?_; refine zaa (cG) ?_) | (refine is_f 155 ?_; refine zaa (cH) ?_) | (refine zac (fun hb => ?_) (fun hb => ?_) <;> (try (exfalso; omega))) | fail))
  all_goals (first | (exfalso; omega) | exact absurd rfl hb | exact zhC [] (Rt.wz _) (Rt.wz _) (.bool rfl) rfl rfl rfl rfl rfl rfl rfl rfl (zak rfl) rfl)
 ·have hM : m < B64 ^ 4 := by simpa using hx
  have hN : n < B64 ^ 4 := by simpa using hy
  have cD := zlE m n hM hN hn
  have hq : m / n < B64 ^ 4 := Nat.lt_of_le_of_lt (Nat.div_le_self _ _) hM
  have hr : m % n < B64 ^ 4 := Nat.lt_of_le_of_lt (Nat.mod_le _ _) hM
  have cG := zaP true (m / n) hq
  have cH := zaP false (m % n) hr
  rw [zb_f] at cH
  rw [zb_t] at cG
  rw [show (m : Int) / -(n : Int) = -((m / n : Nat) : Int) by simp, show (m : Int) % -(n : Int) = ((m % n : Nat) : Int) by simp]
  rw [zat] at c1
  rw [zaD n hn] at c2 cS
  rw [zat m, zaD n hn]
  clear hy0
  generalize m / n = q at *
  generalize m % n = r at *
  refine zap Tryz.func146 rfl (Nat.le_of_ble_eq_true rfl) rfl rfl ?_
  (repeat' (first | refine zad ?_ | (refine is_f 144 ?_; refine zaa (c1) ?_) | (refine is_f 144 ?_; refine zaa (c2) ?_) | (refine is_f 112 ?_; refine zaa (cS) ?_) | (refine is_f 156 ?_; refine zaa (cD) ?_) | (refine is_f 155 ?_; refine zaa (cG) ?_) | (refine is_f 155 ?_; refine zaa (cH) ?_) | (refine zac (fun hb => ?_) (fun hb => ?_) <;> (try (exfalso; omega))) | fail))
  all_goals (first | (exfalso; omega) | exact absurd rfl hb | exact zhC [] (Rt.wz _) (Rt.wz _) (.bool rfl) rfl rfl rfl rfl rfl rfl rfl rfl (zak rfl) rfl)
 ·have hM : m < B64 ^ 4 := by simpa using hx
  have hN : n < B64 ^ 4 := by simpa using hy
  have hn0 : n ≠ 0 := by omega
  have cD := zlE m n hM hN hn0
  have hq : m / n < B64 ^ 4 := Nat.lt_of_le_of_lt (Nat.div_le_self _ _) hM
  have hr : m % n < B64 ^ 4 := Nat.lt_of_le_of_lt (Nat.mod_le _ _) hM
  have hrn := Nat.mod_lt m (Nat.pos_of_ne_zero hn0)
  obtain ⟨k1, k2⟩ := zif m n hn0
  rw [zaD m hm] at c1
  rw [zat] at c2 cS
  by_cases h0 : m % n = 0
  ·obtain ⟨k1, k3⟩ := k1 h0
   have cG := zaP true (m / n) hq
   have cH := zaP false (m % n) hr
   rw [zb_f] at cH
   rw [zb_t] at cG
   rw [k1, k3]
   rw [zaD m hm, zat]
   have hc : decide (m % n ≠ 0) = false := decide_eq_false (fun h => h h0)
   clear hy0 k1 k2 k3 h0
   generalize m / n = q at *
   generalize m % n = r at *
   refine zap Tryz.func146 rfl (Nat.le_of_ble_eq_true rfl) rfl rfl ?_
   (repeat' (first | (refine zbP ?_; refine zbM ?_; refine zag rfl zab (zl6 hr hc rfl rfl) ?_) | refine zad ?_ | (refine is_f 144 ?_; refine zaa (c1) ?_) | (refine is_f 144 ?_; refine zaa (c2) ?_) | (refine is_f 112 ?_; refine zaa (cS) ?_) | (refine is_f 156 ?_; refine zaa (cD) ?_) | (refine is_f 155 ?_; refine zaa (cG) ?_) | (refine is_f 155 ?_; refine zaa (cH) ?_) | (refine zac (fun hb => ?_) (fun hb => ?_) <;> (try (exfalso; omega))) | fail))
   all_goals (first | (exfalso; omega) | exact absurd rfl hb | exact zhC [] (Rt.wz _) (Rt.wz _) (.bool rfl) rfl rfl rfl rfl rfl rfl rfl rfl (zak rfl) rfl)
  ·obtain ⟨k1, k3⟩ := k2 h0
   have hq1 : m / n + 1 < B64 ^ 4 := by
    rcases Nat.lt_or_ge 1 n with h | h
    ·have : m / n ≤ m / 2 := Nat.div_le_div_left h (by omega)
     rw [zfg] at *
     omega
    ·exact absurd (by rw [show n = 1 by omega]; exact Nat.mod_one m) h0
   have cA := zpA (m / n) 1 hq (by rw [zfg]; omega) hq1
   have cB := zlp n (m % n) hN hr (by omega)
   have cG := zaP true (m / n + 1) hq1
   have cH := zaP false (n - m % n) (by omega)
   rw [zb_f] at cH
   rw [zb_t] at cG
   rw [k1, k3]
   rw [zaD m hm, zat]
   rw [zq6] at cA
   have hc : decide (m % n ≠ 0) = true := decide_eq_true h0
   clear hy0 k1 k2 k3 h0
   generalize m / n + 1 = q1 at *
   generalize n - m % n = r1 at *
   generalize m / n = q at *
   generalize m % n = r at *
   refine zap Tryz.func146 rfl (Nat.le_of_ble_eq_true rfl) rfl rfl ?_
   (repeat' (first | (refine zbP ?_; refine zbM ?_; refine zag rfl zab (zl6 hr hc rfl rfl) ?_) | refine zad ?_ | (refine is_f 144 ?_; refine zaa (c1) ?_) | (refine is_f 144 ?_; refine zaa (c2) ?_) | (refine is_f 112 ?_; refine zaa (cS) ?_) | (refine is_f 156 ?_; refine zaa (cD) ?_) | (refine is_f 157 ?_; refine zaa (cA) ?_) | (refine is_f 158 ?_; refine zaa (cB) ?_) | (refine is_f 155 ?_; refine zaa (cG) ?_) | (refine is_f 155 ?_; refine zaa (cH) ?_) | (refine zac (fun hb => ?_) (fun hb => ?_) <;> (try (exfalso; omega))) | fail))
   all_goals (first | (exfalso; omega) | exact absurd rfl hb | exact zhC [] (Rt.wz _) (Rt.wz _) (.bool rfl) rfl rfl rfl rfl rfl rfl rfl rfl (zak rfl) rfl)
 ·have hM : m < B64 ^ 4 := by simpa using hx
  have hN : n < B64 ^ 4 := by simpa using hy
  have cD := zlE m n hM hN hn
  have hq : m / n < B64 ^ 4 := Nat.lt_of_le_of_lt (Nat.div_le_self _ _) hM
  have hr : m % n < B64 ^ 4 := Nat.lt_of_le_of_lt (Nat.mod_le _ _) hM
  have hrn := Nat.mod_lt m (Nat.pos_of_ne_zero hn)
  obtain ⟨k1, k2⟩ := zif m n hn
  rw [zaD m hm] at c1
  rw [zaD n hn] at c2 cS
  by_cases h0 : m % n = 0
  ·obtain ⟨k1, k3⟩ := k1 h0
   have cG := zaP false (m / n) hq
   have cH := zaP false (m % n) hr
   rw [zb_f] at cH
   rw [zb_f] at cG
   rw [Int.ediv_neg, k1, Int.neg_neg, Int.emod_neg, k3]
   rw [zaD m hm, zaD n hn]
   have hc : decide (m % n ≠ 0) = false := decide_eq_false (fun h => h h0)
   clear hy0 k1 k2 k3 h0
   generalize m / n = q at *
   generalize m % n = r at *
   refine zap Tryz.func146 rfl (Nat.le_of_ble_eq_true rfl) rfl rfl ?_
   (repeat' (first | (refine zbP ?_; refine zbM ?_; refine zag rfl zab (zl6 hr hc rfl rfl) ?_) | refine zad ?_ | (refine is_f 144 ?_; refine zaa (c1) ?_) | (refine is_f 144 ?_; refine zaa (c2) ?_) | (refine is_f 112 ?_; refine zaa (cS) ?_) | (refine is_f 156 ?_; refine zaa (cD) ?_) | (refine is_f 155 ?_; refine zaa (cG) ?_) | (refine is_f 155 ?_; refine zaa (cH) ?_) | (refine zac (fun hb => ?_) (fun hb => ?_) <;> (try (exfalso; omega))) | fail))
   all_goals (first | (exfalso; omega) | exact absurd rfl hb | exact zhC [] (Rt.wz _) (Rt.wz _) (.bool rfl) rfl rfl rfl rfl rfl rfl rfl rfl (zak rfl) rfl)
  ·obtain ⟨k1, k3⟩ := k2 h0
   have hq1 : m / n + 1 < B64 ^ 4 := by
    rcases Nat.lt_or_ge 1 n with h | h
    ·have : m / n ≤ m / 2 := Nat.div_le_div_left h (by omega)
     rw [zfg] at *
     omega
    ·exact absurd (by rw [show n = 1 by omega]; exact Nat.mod_one m) h0
   have cA := zpA (m / n) 1 hq (by rw [zfg]; omega) hq1
   have cB := zlp n (m % n) hN hr (by omega)
   have cG := zaP false (m / n + 1) hq1
   have cH := zaP false (n - m % n) (by omega)
   rw [zb_f] at cH
   rw [zb_f] at cG
   rw [Int.ediv_neg, k1, Int.neg_neg, Int.emod_neg, k3]
   rw [zaD m hm, zaD n hn]
   rw [zq6] at cA
   have hc : decide (m % n ≠ 0) = true := decide_eq_true h0
   clear hy0 k1 k2 k3 h0
   generalize m / n + 1 = q1 at *
   generalize n - m % n = r1 at *
   generalize m / n = q at *
   generalize m % n = r at *
   refine zap Tryz.func146 rfl (Nat.le_of_ble_eq_true rfl) rfl rfl ?_
   (repeat' (first | (refine zbP ?_; refine zbM ?_; refine zag rfl zab (zl6 hr hc rfl rfl) ?_) | refine zad ?_ | (refine is_f 144 ?_; refine zaa (c1) ?_) | (refine is_f 144 ?_; refine zaa (c2) ?_) | (refine is_f 112 ?_; refine zaa (cS) ?_) | (refine is_f 156 ?_; refine zaa (cD) ?_) | (refine is_f 157 ?_; refine zaa (cA) ?_) | (refine is_f 158 ?_; refine zaa (cB) ?_) | (refine is_f 155 ?_; refine zaa (cG) ?_) | (refine is_f 155 ?_; refine zaa (cH) ?_) | (refine zac (fun hb => ?_) (fun hb => ?_) <;> (try (exfalso; omega))) | fail))
   all_goals (first | (exfalso; omega) | exact absurd rfl hb | exact zhC [] (Rt.wz _) (Rt.wz _) (.bool rfl) rfl rfl rfl rfl rfl rfl rfl rfl (zak rfl) rfl)
end Go.Proofs.YtibedaeefnjjlaaGreat
