/- Texts of the second layer in one: Rg4. -/
import Derived.Test.YtibedaeefnjjlaaGreatG29
import Derived.Test.YtibedaeefnjjlaaGreatG33
set_option maxHeartbeats 16000000
set_option maxRecDepth 100000
set_option linter.unusedVariables false
set_option linter.unusedSimpArgs false
namespace Go.Proofs.YtibedaeefnjjlaaGreat
open Go.RowKit Go.Ab Go.Wd
theorem zli (p q r s : Int) (h1 : VR p q) (h2 : VR r s) (h3 : p * s ≤ r * q) : zan Tryz.prog 59 [cn false p q r s, cn true 0 0 0 0] [] (.tu [cn false p q r s, .r (.v (.bool true))]) [] := by
 have cV := zcH p q r s h1 h2 h3
 refine zap Tryz.func59 rfl (Nat.le_of_ble_eq_true rfl) rfl rfl ?_
 (repeat' (first | refine zad ?_ | (refine is_f 40 ?_; refine zaa (cV) ?_) | (refine is_f 40 ?_; refine zaa (zdK) ?_) | (refine zac (fun hb => ?_) (fun hb => ?_) <;> (try (exfalso; omega))) | fail))
 all_goals (first | (exfalso; omega) | exact absurd rfl hb | exact zbb [] (Rt.cn _ _ _ _ _) (.bool rfl) rfl rfl rfl rfl rfl (zak rfl) rfl)
theorem zkf (p q r s p' q' r' s' : Int) (a1 : VR p q) (a2 : VR r s) (a3 : p * s ≤ r * q) (b1 : VR p' q') (b2 : VR r' s') (b3 : p' * s' ≤ r' * q') : zan Tryz.prog 59 [cn false p q r s, cn false p' q' r' s'] []
  (if (mLo p q p' q').1 * (mHi r s r' s').2 ≤ (mHi r s r' s').1 * (mLo p q p' q').2 then .tu [cn false (mLo p q p' q').1 (mLo p q p' q').2 (mHi r s r' s').1 (mHi r s r' s').2, .r (.v (.bool true))] else .tu [cn false 0 0 0 0, .r (.v (.bool false))]) [] := by
 have v1 := zcH p q r s a1 a2 a3
 have v2 := zcH p' q' r' s' b1 b2 b3
 have c1 := zeG p' q' p q b1 a1
 have c2 := zeG r' s' r s b2 a2
 have c3 := zeG (mLo p q p' q').1 (mLo p q p' q').2 (mHi r s r' s').1 (mHi r s r' s').2 (zoh a1 b1) (zof a2 b2)
 have k1 := @ziO (p' * q) (p * q')
 have k2 := @znL (r' * s) (r * s')
 have k3 := @ziO ((mLo p q p' q').1 * (mHi r s r' s').2) ((mHi r s r' s').1 * (mLo p q p' q').2)
 generalize cmpZ (p' * q) (p * q') = e1 at *
 generalize cmpZ (r' * s) (r * s') = e2 at *
 generalize cmpZ ((mLo p q p' q').1 * (mHi r s r' s').2) ((mHi r s r' s').1 * (mLo p q p' q').2) = e3 at *
 clear a1 a2 a3 b1 b2 b3
 by_cases h1 : p * q' < p' * q <;> by_cases h2 : r' * s < r * s'
 ·have d1 : mLo p q p' q' = (p', q') := by unfold mLo; rw [if_pos h1]
  have d2 : mHi r s r' s' = (r', s') := by unfold mHi; rw [if_pos h2]
  rw [d1, d2] at c3 k3 ⊢
  dsimp only at c3 k3 ⊢
  have k1 : 0 < e1 := k1.2 h1
  have k2 : e2 < 0 := k2.2 h2
  clear d1 d2
  by_cases h3 : p' * s' ≤ r' * q'
  ·have k3 : ¬ 0 < e3 := fun h => by have := k3.1 h; omega
   rw [if_pos h3]
   clear h1 h2 h3
   refine zap Tryz.func59 rfl (Nat.le_of_ble_eq_true rfl) rfl rfl ?_
   (repeat' (first | refine zad ?_ | (refine is_f 40 ?_; refine zaa (v1) ?_) | (refine is_f 40 ?_; refine zaa (v2) ?_) | (refine is_f 18 ?_; refine zaa (c1) ?_) | (refine is_f 18 ?_; refine zaa (c2) ?_) | (refine is_f 18 ?_; refine zaa (c3) ?_) | (refine zac (fun hb => ?_) (fun hb => ?_) <;> (try (exfalso; omega))) | fail))
   all_goals (first | (exfalso; omega) | exact absurd rfl hb | exact zbb [] (Rt.cn _ _ _ _ _) (.bool rfl) rfl rfl rfl rfl rfl (zak rfl) rfl)
  ·have k3 : 0 < e3 := k3.2 (by omega)
   rw [if_neg h3]
   clear h1 h2 h3
   refine zap Tryz.func59 rfl (Nat.le_of_ble_eq_true rfl) rfl rfl ?_
   (repeat' (first | refine zad ?_ | (refine is_f 40 ?_; refine zaa (v1) ?_) | (refine is_f 40 ?_; refine zaa (v2) ?_) | (refine is_f 18 ?_; refine zaa (c1) ?_) | (refine is_f 18 ?_; refine zaa (c2) ?_) | (refine is_f 18 ?_; refine zaa (c3) ?_) | (refine zac (fun hb => ?_) (fun hb => ?_) <;> (try (exfalso; omega))) | fail))
   all_goals (first | (exfalso; omega) | exact absurd rfl hb | exact zbb [] (Rt.cn _ _ _ _ _) (.bool rfl) rfl rfl rfl rfl rfl (zak rfl) rfl)
 ·have d1 : mLo p q p' q' = (p', q') := by unfold mLo; rw [if_pos h1]
  have d2 : mHi r s r' s' = (r, s) := by unfold mHi; rw [if_neg h2]
  rw [d1, d2] at c3 k3 ⊢
  dsimp only at c3 k3 ⊢
  have k1 : 0 < e1 := k1.2 h1
  have k2 : ¬ e2 < 0 := fun h => h2 (k2.1 h)
  clear d1 d2
  by_cases h3 : p' * s ≤ r * q'
  ·have k3 : ¬ 0 < e3 := fun h => by have := k3.1 h; omega
   rw [if_pos h3]
   clear h1 h2 h3
   refine zap Tryz.func59 rfl (Nat.le_of_ble_eq_true rfl) rfl rfl ?_
   (repeat' (first | refine zad ?_ | (refine is_f 40 ?_; refine zaa (v1) ?_) | (refine is_f 40 ?_; refine zaa (v2) ?_) | (refine is_f 18 ?_; refine zaa (c1) ?_) | (refine is_f 18 ?_; refine zaa (c2) ?_) | (refine is_f 18 ?_; refine zaa (c3) ?_) | (refine zac (fun hb => ?_) (fun hb => ?_) <;> (try (exfalso; omega))) | fail))
   all_goals (first | (exfalso; omega) | exact absurd rfl hb | exact zbb [] (Rt.cn _ _ _ _ _) (.bool rfl) rfl rfl rfl rfl rfl (zak rfl) rfl)
  ·have k3 : 0 < e3 := k3.2 (by omega)
   rw [if_neg h3]
   clear h1 h2 h3
   refine zap Tryz.func59 rfl (Nat.le_of_ble_eq_true rfl) rfl rfl ?_
   (repeat' (first | refine zad ?_ | (refine is_f 40 ?_; refine zaa (v1) ?_) | (refine is_f 40 ?_; refine zaa (v2) ?_) | (refine is_f 18 ?_; refine zaa (c1) ?_) | (refine is_f 18 ?_; refine zaa (c2) ?_) | (refine is_f 18 ?_; refine zaa (c3) ?_) | (refine zac (fun hb => ?_) (fun hb => ?_) <;> (try (exfalso; omega))) | fail))
   all_goals (first | (exfalso; omega) | exact absurd rfl hb | exact zbb [] (Rt.cn _ _ _ _ _) (.bool rfl) rfl rfl rfl rfl rfl (zak rfl) rfl)
 ·have d1 : mLo p q p' q' = (p, q) := by unfold mLo; rw [if_neg h1]
  have d2 : mHi r s r' s' = (r', s') := by unfold mHi; rw [if_pos h2]
  rw [d1, d2] at c3 k3 ⊢
  dsimp only at c3 k3 ⊢
  have k1 : ¬ 0 < e1 := fun h => h1 (k1.1 h)
  have k2 : e2 < 0 := k2.2 h2
  clear d1 d2
  by_cases h3 : p * s' ≤ r' * q
  ·have k3 : ¬ 0 < e3 := fun h => by have := k3.1 h; omega
   rw [if_pos h3]
   clear h1 h2 h3
   refine zap Tryz.func59 rfl (Nat.le_of_ble_eq_true rfl) rfl rfl ?_
   (repeat' (first | refine zad ?_ | (refine is_f 40 ?_; refine zaa (v1) ?_) | (refine is_f 40 ?_; refine zaa (v2) ?_) | (refine is_f 18 ?_; refine zaa (c1) ?_) | (refine is_f 18 ?_; refine zaa (c2) ?_) | (refine is_f 18 ?_; refine zaa (c3) ?_) | (refine zac (fun hb => ?_) (fun hb => ?_) <;> (try (exfalso; omega))) | fail))
   all_goals (first | (exfalso; omega) | exact absurd rfl hb | exact zbb [] (Rt.cn _ _ _ _ _) (.bool rfl) rfl rfl rfl rfl rfl (zak rfl) rfl)
  ·have k3 : 0 < e3 := k3.2 (by omega)
   rw [if_neg h3]
   clear h1 h2 h3
   refine zap Tryz.func59 rfl (Nat.le_of_ble_eq_true rfl) rfl rfl ?_
   (repeat' (first | refine zad ?_ | (refine is_f 40 ?_; refine zaa (v1) ?_) | (refine is_f 40 ?_; refine zaa (v2) ?_) | (refine is_f 18 ?_; refine zaa (c1) ?_) | (refine is_f 18 ?_; refine zaa (c2) ?_) | (refine is_f 18 ?_; refine zaa (c3) ?_) | (refine zac (fun hb => ?_) (fun hb => ?_) <;> (try (exfalso; omega))) | fail))
   all_goals (first | (exfalso; omega) | exact absurd rfl hb | exact zbb [] (Rt.cn _ _ _ _ _) (.bool rfl) rfl rfl rfl rfl rfl (zak rfl) rfl)
 ·have d1 : mLo p q p' q' = (p, q) := by unfold mLo; rw [if_neg h1]
  have d2 : mHi r s r' s' = (r, s) := by unfold mHi; rw [if_neg h2]
  rw [d1, d2] at c3 k3 ⊢
  dsimp only at c3 k3 ⊢
  have k1 : ¬ 0 < e1 := fun h => h1 (k1.1 h)
  have k2 : ¬ e2 < 0 := fun h => h2 (k2.1 h)
  clear d1 d2
  by_cases h3 : p * s ≤ r * q
  ·have k3 : ¬ 0 < e3 := fun h => by have := k3.1 h; omega
   rw [if_pos h3]
   clear h1 h2 h3
   refine zap Tryz.func59 rfl (Nat.le_of_ble_eq_true rfl) rfl rfl ?_
   (repeat' (first | refine zad ?_ | (refine is_f 40 ?_; refine zaa (v1) ?_) | (refine is_f 40 ?_; refine zaa (v2) ?_) | (refine is_f 18 ?_; refine zaa (c1) ?_) | (refine is_f 18 ?_; refine zaa (c2) ?_) | (refine is_f 18 ?_; refine zaa (c3) ?_) | (refine zac (fun hb => ?_) (fun hb => ?_) <;> (try (exfalso; omega))) | fail))
   all_goals (first | (exfalso; omega) | exact absurd rfl hb | exact zbb [] (Rt.cn _ _ _ _ _) (.bool rfl) rfl rfl rfl rfl rfl (zak rfl) rfl)
  ·have k3 : 0 < e3 := k3.2 (by omega)
   rw [if_neg h3]
   clear h1 h2 h3
   refine zap Tryz.func59 rfl (Nat.le_of_ble_eq_true rfl) rfl rfl ?_
   (repeat' (first | refine zad ?_ | (refine is_f 40 ?_; refine zaa (v1) ?_) | (refine is_f 40 ?_; refine zaa (v2) ?_) | (refine is_f 18 ?_; refine zaa (c1) ?_) | (refine is_f 18 ?_; refine zaa (c2) ?_) | (refine is_f 18 ?_; refine zaa (c3) ?_) | (refine zac (fun hb => ?_) (fun hb => ?_) <;> (try (exfalso; omega))) | fail))
   all_goals (first | (exfalso; omega) | exact absurd rfl hb | exact zbb [] (Rt.cn _ _ _ _ _) (.bool rfl) rfl rfl rfl rfl rfl (zak rfl) rfl)
end Go.Proofs.YtibedaeefnjjlaaGreat
