/- Texts of the second layer in one: Co2. -/
import Derived.Test.YtibedaeefnjjlaaGreatG18
set_option maxHeartbeats 16000000
set_option maxRecDepth 100000
set_option linter.unusedVariables false
set_option linter.unusedSimpArgs false
namespace Go.Proofs.YtibedaeefnjjlaaGreat
open Go.RowKit Go.Ab Go.Wd
def mLo (p q p' q' : Int) : Int × Int := if p * q' < p' * q then (p', q') else (p, q)
def mHi (r s r' s' : Int) : Int × Int := if r' * s < r * s' then (r', s') else (r, s)
theorem zoh {p q p' q' : Int} (h : VR p q) (h' : VR p' q') : VR (mLo p q p' q').1 (mLo p q p' q').2 := by unfold mLo; split <;> assumption
theorem zof {p q p' q' : Int} (h : VR p q) (h' : VR p' q') : VR (mHi p q p' q').1 (mHi p q p' q').2 := by unfold mHi; split <;> assumption
theorem ziO {x y : Int} : 0 < cmpZ x y ↔ y < x := by unfold cmpZ; split <;> (try split) <;> constructor <;> intro h <;> omega
theorem znL {x y : Int} : cmpZ x y < 0 ↔ x < y := by unfold cmpZ; split <;> (try split) <;> constructor <;> intro h <;> omega
theorem zjJ (o : Bool) (p q r s : Int) (cV : zan Tryz.prog 64 [cn o p q r s] [] (.r (.v (.bool true))) []) : zan Tryz.prog 72 [cn true 0 0 0 0, cn o p q r s] [] (.tu [cn o p q r s, .r (.v (.bool true))]) [] := by
 refine zap Tryz.func72 rfl (Nat.le_of_ble_eq_true rfl) rfl rfl ?_
 (repeat' (first | refine zad ?_ | (refine is_f 64 ?_; refine zaa (zcT) ?_) | (refine is_f 64 ?_; refine zaa (cV) ?_) | (refine zac (fun hb => ?_) (fun hb => ?_) <;> (try (exfalso; omega))) | fail))
 all_goals (first | (exfalso; omega) | exact absurd rfl hb | exact zbb [] (Rt.cn _ _ _ _ _) (.bool rfl) rfl rfl rfl rfl rfl (zak rfl) rfl)
theorem zjK (p q r s : Int) (h : VC p q r s) : zan Tryz.prog 72 [cn false p q r s, cn true 0 0 0 0] [] (.tu [cn false p q r s, .r (.v (.bool true))]) [] := by
 have cV := zcD p q r s h
 refine zap Tryz.func72 rfl (Nat.le_of_ble_eq_true rfl) rfl rfl ?_
 (repeat' (first | refine zad ?_ | (refine is_f 64 ?_; refine zaa (cV) ?_) | (refine is_f 64 ?_; refine zaa (zcT) ?_) | (refine zac (fun hb => ?_) (fun hb => ?_) <;> (try (exfalso; omega))) | fail))
 all_goals (first | (exfalso; omega) | exact absurd rfl hb | exact zbb [] (Rt.cn _ _ _ _ _) (.bool rfl) rfl rfl rfl rfl rfl (zak rfl) rfl)
theorem zh7 (p q r s p' q' r' s' : Int) (h : VC p q r s) (h' : VC p' q' r' s') : zan Tryz.prog 72 [cn false p q r s, cn false p' q' r' s'] []
  (if (mLo p q p' q').1 * (mHi r s r' s').2 ≤ (mHi r s r' s').1 * (mLo p q p' q').2 then .tu [cn false (mLo p q p' q').1 (mLo p q p' q').2 (mHi r s r' s').1 (mHi r s r' s').2, .r (.v (.bool true))] else .tu [cn false 0 0 0 0, .r (.v (.bool false))]) [] := by
 have v1 := zcD p q r s h
 have v2 := zcD p' q' r' s' h'
 have c1 := zgv p' q' p q h'.1 h.1
 have c2 := zgv r' s' r s h'.2.1 h.2.1
 have c3 := zgv (mLo p q p' q').1 (mLo p q p' q').2 (mHi r s r' s').1 (mHi r s r' s').2 (zoh h.1 h'.1) (zof h.2.1 h'.2.1)
 have k1 := @ziO (p' * q) (p * q')
 have k2 := @znL (r' * s) (r * s')
 have k3 := @ziO ((mLo p q p' q').1 * (mHi r s r' s').2) ((mHi r s r' s').1 * (mLo p q p' q').2)
 generalize cmpZ (p' * q) (p * q') = e1 at *
 generalize cmpZ (r' * s) (r * s') = e2 at *
 generalize cmpZ ((mLo p q p' q').1 * (mHi r s r' s').2) ((mHi r s r' s').1 * (mLo p q p' q').2) = e3 at *
 clear h h'
 by_cases h1 : p * q' < p' * q <;> by_cases h2 : r' * s < r * s'
 ·have d1 : mLo p q p' q' = (p', q') := by unfold mLo; rw [if_pos h1]
  have d2 : mHi r s r' s' = (r', s') := by unfold mHi; rw [if_pos h2]
  rw [d1, d2] at c3 k3 ⊢
  dsimp only at c3 k3 ⊢
  have k1 : 0 < e1 := k1.2 h1
  have k2 : e2 < 0 := k2.2 h2
  clear d1 d2
  by_cases h3 : p' * s' ≤ r' * q'
  ·have k3 : ¬ 0 < e3 := fun h => by have := k3.1 h; omega
   rw [if_pos h3]
   clear h1 h2 h3
   refine zap Tryz.func72 rfl (Nat.le_of_ble_eq_true rfl) rfl rfl ?_
   (repeat' (first | refine zad ?_ | (refine is_f 64 ?_; refine zaa (v1) ?_) | (refine is_f 64 ?_; refine zaa (v2) ?_) | (refine is_f 95 ?_; refine zaa (c1) ?_) | (refine is_f 95 ?_; refine zaa (c2) ?_) | (refine is_f 95 ?_; refine zaa (c3) ?_) | (refine zac (fun hb => ?_) (fun hb => ?_) <;> (try (exfalso; omega))) | fail))
   all_goals (first | (exfalso; omega) | exact absurd rfl hb | exact zbb [] (Rt.cn _ _ _ _ _) (.bool rfl) rfl rfl rfl rfl rfl (zak rfl) rfl)
  ·have k3 : 0 < e3 := k3.2 (by omega)
   rw [if_neg h3]
   clear h1 h2 h3
   refine zap Tryz.func72 rfl (Nat.le_of_ble_eq_true rfl) rfl rfl ?_
   (repeat' (first | refine zad ?_ | (refine is_f 64 ?_; refine zaa (v1) ?_) | (refine is_f 64 ?_; refine zaa (v2) ?_) | (refine is_f 95 ?_; refine zaa (c1) ?_) | (refine is_f 95 ?_; refine zaa (c2) ?_) | (refine is_f 95 ?_; refine zaa (c3) ?_) | (refine zac (fun hb => ?_) (fun hb => ?_) <;> (try (exfalso; omega))) | fail))
   all_goals (first | (exfalso; omega) | exact absurd rfl hb | exact zbb [] (Rt.cn _ _ _ _ _) (.bool rfl) rfl rfl rfl rfl rfl (zak rfl) rfl)
 ·have d1 : mLo p q p' q' = (p', q') := by unfold mLo; rw [if_pos h1]
  have d2 : mHi r s r' s' = (r, s) := by unfold mHi; rw [if_neg h2]
  rw [d1, d2] at c3 k3 ⊢
  dsimp only at c3 k3 ⊢
  have k1 : 0 < e1 := k1.2 h1
  have k2 : ¬ e2 < 0 := fun h => h2 (k2.1 h)
  clear d1 d2
  by_cases h3 : p' * s ≤ r * q'
  ·have k3 : ¬ 0 < e3 := fun h => by have := k3.1 h; omega
   rw [if_pos h3]
   clear h1 h2 h3
   refine zap Tryz.func72 rfl (Nat.le_of_ble_eq_true rfl) rfl rfl ?_
   (repeat' (first | refine zad ?_ | (refine is_f 64 ?_; refine zaa (v1) ?_) | (refine is_f 64 ?_; refine zaa (v2) ?_) | (refine is_f 95 ?_; refine zaa (c1) ?_) | (refine is_f 95 ?_; refine zaa (c2) ?_) | (refine is_f 95 ?_; refine zaa (c3) ?_) | (refine zac (fun hb => ?_) (fun hb => ?_) <;> (try (exfalso; omega))) | fail))
   all_goals (first | (exfalso; omega) | exact absurd rfl hb | exact zbb [] (Rt.cn _ _ _ _ _) (.bool rfl) rfl rfl rfl rfl rfl (zak rfl) rfl)
  ·have k3 : 0 < e3 := k3.2 (by omega)
   rw [if_neg h3]
   clear h1 h2 h3
   refine zap Tryz.func72 rfl (Nat.le_of_ble_eq_true rfl) rfl rfl ?_
   (repeat' (first | refine zad ?_ | (refine is_f 64 ?_; refine zaa (v1) ?_) | (refine is_f 64 ?_; refine zaa (v2) ?_) | (refine is_f 95 ?_; refine zaa (c1) ?_) | (refine is_f 95 ?_; refine zaa (c2) ?_) | (refine is_f 95 ?_; refine zaa (c3) ?_) | (refine zac (fun hb => ?_) (fun hb => ?_) <;> (try (exfalso; omega))) | fail))
   all_goals (first | (exfalso; omega) | exact absurd rfl hb | exact zbb [] (Rt.cn _ _ _ _ _) (.bool rfl) rfl rfl rfl rfl rfl (zak rfl) rfl)
 ·have d1 : mLo p q p' q' = (p, q) := by unfold mLo; rw [if_neg h1]
  have d2 : mHi r s r' s' = (r', s') := by unfold mHi; rw [if_pos h2]
  rw [d1, d2] at c3 k3 ⊢
  dsimp only at c3 k3 ⊢
  have k1 : ¬ 0 < e1 := fun h => h1 (k1.1 h)
  have k2 : e2 < 0 := k2.2 h2
  clear d1 d2
  by_cases h3 : p * s' ≤ r' * q
  ·have k3 : ¬ 0 < e3 := fun h => by have := k3.1 h; omega
   rw [if_pos h3]
   clear h1 h2 h3
   refine zap Tryz.func72 rfl (Nat.le_of_ble_eq_true rfl) rfl rfl ?_
   (repeat' (first | refine zad ?_ | (refine is_f 64 ?_; refine zaa (v1) ?_) | (refine is_f 64 ?_; refine zaa (v2) ?_) | (refine is_f 95 ?_; refine zaa (c1) ?_) | (refine is_f 95 ?_; refine zaa (c2) ?_) | (refine is_f 95 ?_; refine zaa (c3) ?_) | (refine zac (fun hb => ?_) (fun hb => ?_) <;> (try (exfalso; omega))) | fail))
   all_goals (first | (exfalso; omega) | exact absurd rfl hb | exact zbb [] (Rt.cn _ _ _ _ _) (.bool rfl) rfl rfl rfl rfl rfl (zak rfl) rfl)
  ·have k3 : 0 < e3 := k3.2 (by omega)
   rw [if_neg h3]
   clear h1 h2 h3
   refine zap Tryz.func72 rfl (Nat.le_of_ble_eq_true rfl) rfl rfl ?_
   (repeat' (first | refine zad ?_ | (refine is_f 64 ?_; refine zaa (v1) ?_) | (refine is_f 64 ?_; refine zaa (v2) ?_) | (refine is_f 95 ?_; refine zaa (c1) ?_) | (refine is_f 95 ?_; refine zaa (c2) ?_) | (refine is_f 95 ?_; refine zaa (c3) ?_) | (refine zac (fun hb => ?_) (fun hb => ?_) <;> (try (exfalso; omega))) | fail))
   all_goals (first | (exfalso; omega) | exact absurd rfl hb | exact zbb [] (Rt.cn _ _ _ _ _) (.bool rfl) rfl rfl rfl rfl rfl (zak rfl) rfl)
 ·have d1 : mLo p q p' q' = (p, q) := by unfold mLo; rw [if_neg h1]
  have d2 : mHi r s r' s' = (r, s) := by unfold mHi; rw [if_neg h2]
  rw [d1, d2] at c3 k3 ⊢
  dsimp only at c3 k3 ⊢
  have k1 : ¬ 0 < e1 := fun h => h1 (k1.1 h)
  have k2 : ¬ e2 < 0 := fun h => h2 (k2.1 h)
  clear d1 d2
  by_cases h3 : p * s ≤ r * q
  ·have k3 : ¬ 0 < e3 := fun h => by have := k3.1 h; omega
   rw [if_pos h3]
   clear h1 h2 h3
   refine zap Tryz.func72 rfl (Nat.le_of_ble_eq_true rfl) rfl rfl ?_
   (repeat' (first | refine zad ?_ | (refine is_f 64 ?_; refine zaa (v1) ?_) | (refine is_f 64 ?_; refine zaa (v2) ?_) | (refine is_f 95 ?_; refine zaa (c1) ?_) | (refine is_f 95 ?_; refine zaa (c2) ?_) | (refine is_f 95 ?_; refine zaa (c3) ?_) | (refine zac (fun hb => ?_) (fun hb => ?_) <;> (try (exfalso; omega))) | fail))
   all_goals (first | (exfalso; omega) | exact absurd rfl hb | exact zbb [] (Rt.cn _ _ _ _ _) (.bool rfl) rfl rfl rfl rfl rfl (zak rfl) rfl)
  ·have k3 : 0 < e3 := k3.2 (by omega)
   rw [if_neg h3]
   clear h1 h2 h3
   refine zap Tryz.func72 rfl (Nat.le_of_ble_eq_true rfl) rfl rfl ?_
   (repeat' (first | refine zad ?_ | (refine is_f 64 ?_; refine zaa (v1) ?_) | (refine is_f 64 ?_; refine zaa (v2) ?_) | (refine is_f 95 ?_; refine zaa (c1) ?_) | (refine is_f 95 ?_; refine zaa (c2) ?_) | (refine is_f 95 ?_; refine zaa (c3) ?_) | (refine zac (fun hb => ?_) (fun hb => ?_) <;> (try (exfalso; omega))) | fail))
   all_goals (first | (exfalso; omega) | exact absurd rfl hb | exact zbb [] (Rt.cn _ _ _ _ _) (.bool rfl) rfl rfl rfl rfl rfl (zak rfl) rfl)
end Go.Proofs.YtibedaeefnjjlaaGreat
