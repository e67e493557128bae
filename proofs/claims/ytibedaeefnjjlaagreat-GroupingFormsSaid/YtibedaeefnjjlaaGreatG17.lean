/- Texts of the second layer in one: Si3. -/
import Derived.Test.YtibedaeefnjjlaaGreatG16
set_option maxHeartbeats 4000000
set_option maxRecDepth 100000
set_option linter.unusedVariables false
set_option linter.unusedSimpArgs false
namespace Go.Proofs.YtibedaeefnjjlaaGreat
open Go.RowKit Go.Ab Go.Wd
def btw (a b c d : Int) : Int × Int :=
 if c < 0 then (-((posF c.natAbs d.natAbs a.natAbs b.natAbs).1 : Int), ((posF c.natAbs d.natAbs a.natAbs b.natAbs).2 : Int))
 else if a ≤ 0 then (0, 1)
 else (((posF a.natAbs b.natAbs c.natAbs d.natAbs).1 : Int), ((posF a.natAbs b.natAbs c.natAbs d.natAbs).2 : Int))
theorem zga {x y : Int} (h : x ≤ y) : cmpZ x y ≤ 0 := by unfold cmpZ; split <;> omega
theorem VR.w4n {p q : Int} (h : VR p q) : W4 p := zaR h.2.1
theorem VR.w4d {p q : Int} (h : VR p q) : W4 q := zaR h.2.2.1
theorem zmC (a b c d : Int) (h1 : VR a b) (h2 : VR c d) (hle : a * d ≤ c * b) : zan Tryz.prog 76 [rt a b, rt c d] [] (.tu [rt (btw a b c d).1 (btw a b c d).2, .r (.v (.bool true))]) [] := by
 have v1 := zfe a b h1.w4n h1.w4d
 have v2 := zfe c d h2.w4n h2.w4d
 rw [decide_eq_true h1] at v1
 rw [decide_eq_true h2] at v2
 have cC := zgv a b c d h1 h2
 have hcmp := zga hle
 have s1 := zgr c h2.w4n
 have s2 := zgr a h1.w4n
 have hb0 := h1.1
 have hd0 := h2.1
 generalize cmpZ (a * d) (c * b) = e at *
 unfold btw
 by_cases hc : c < 0
 ·rw [if_pos hc]
  have hsg : sgZ c = -1 := by unfold sgZ; rw [if_pos hc]
  rw [hsg] at s1
  have ha : a < 0 := by
   rcases Int.lt_or_le a 0 with h | h
   ·exact h
   ·have k1 : 0 ≤ a * d := Int.mul_nonneg h (by omega)
    have k2 : c * b < 0 := Int.mul_neg_of_neg_of_pos hc hb0
    omega
  have n1 := zop c d h2.w4n
  have n2 := zop a b h1.w4n
  obtain ⟨a', rfl⟩ : ∃ n : Nat, a = -(n : Int) := ⟨a.natAbs, by omega⟩
  obtain ⟨c', rfl⟩ : ∃ n : Nat, c = -(n : Int) := ⟨c.natAbs, by omega⟩
  obtain ⟨b', rfl⟩ : ∃ n : Nat, b = (n : Int) := ⟨b.natAbs, by omega⟩
  obtain ⟨d', rfl⟩ : ∃ n : Nat, d = (n : Int) := ⟨d.natAbs, by omega⟩
  simp only [Int.natAbs_neg, Int.natAbs_natCast] at *
  rw [Int.neg_neg] at n1 n2
  have hle2 : c' * b' ≤ a' * d' := by
   rw [Int.neg_mul, Int.neg_mul] at hle
   have : ((c' * b' : Nat) : Int) ≤ ((a' * d' : Nat) : Int) := by rw [Int.natCast_mul, Int.natCast_mul]; omega
   omega
  have wa : a' < B64 ^ 4 := by have := h1.w4n; unfold W4 at this; simpa using this
  have wb : b' < B64 ^ 4 := by have := h1.w4d; unfold W4 at this; simpa using this
  have wc : c' < B64 ^ 4 := by have := h2.w4n; unfold W4 at this; simpa using this
  have wd' : d' < B64 ^ 4 := by have := h2.w4d; unfold W4 at this; simpa using this
  have cP := zoA (d' + b') c' d' a' b' (Nat.le_refl _) (by omega) (by omega) hle2 wc wd' wa wb
  obtain ⟨i1, _, _, _⟩ := zei (d' + b') c' d' a' b' (Nat.le_refl _) (by omega) (by omega) hle2
  generalize (posF c' d' a' b').1 = n at *
  generalize (posF c' d' a' b').2 = m at *
  have n3 := zop (n : Int) (m : Int) (za7 (by omega))
  refine zap Tryz.func76 rfl (Nat.le_of_ble_eq_true rfl) rfl rfl ?_
  (repeat' (first | refine zad ?_ | (refine is_f 94 ?_; refine zaa (v1) ?_) | (refine is_f 94 ?_; refine zaa (v2) ?_) | (refine is_f 95 ?_; refine zaa (cC) ?_) | (refine is_f 112 ?_; refine zaa (s1) ?_) | (refine is_f 113 ?_; refine zaa (n1) ?_) | (refine is_f 113 ?_; refine zaa (n2) ?_) | (refine is_f 113 ?_; refine zaa (n3) ?_) | (refine is_f 114 ?_; refine zaa (cP) ?_) | (refine zac (fun hb => ?_) (fun hb => ?_) <;> (try (exfalso; omega))) | fail))
  all_goals (first | (exfalso; omega) | exact absurd rfl hb | exact zbb [] (Rt.rt _ _) (.bool rfl) rfl rfl rfl rfl rfl (zak rfl) rfl)
 ·rw [if_neg hc]
  have hsg : ¬ sgZ c < 0 := by unfold sgZ; rw [if_neg hc]; split <;> omega
  by_cases ha : a ≤ 0
  ·rw [if_pos ha]
   have hsg2 : sgZ a ≤ 0 := by unfold sgZ; split <;> omega
   have cO := zth 0 (by constructor <;> decide)
   generalize sgZ c = sc at *
   generalize sgZ a = sa at *
   refine zap Tryz.func76 rfl (Nat.le_of_ble_eq_true rfl) rfl rfl ?_
   (repeat' (first | refine zad ?_ | (refine is_f 94 ?_; refine zaa (v1) ?_) | (refine is_f 94 ?_; refine zaa (v2) ?_) | (refine is_f 95 ?_; refine zaa (cC) ?_) | (refine is_f 112 ?_; refine zaa (s1) ?_) | (refine is_f 112 ?_; refine zaa (s2) ?_) | (refine is_f 75 ?_; refine zaa (cO) ?_) | (refine zac (fun hb => ?_) (fun hb => ?_) <;> (try (exfalso; omega))) | fail))
   all_goals (first | (exfalso; omega) | exact absurd rfl hb | exact zbb [] (Rt.rt _ _) (.bool rfl) rfl rfl rfl rfl rfl (zak rfl) rfl)
  ·rw [if_neg ha]
   have hsg2 : ¬ sgZ a ≤ 0 := by unfold sgZ; rw [if_neg (by omega), if_neg (by omega)]; omega
   obtain ⟨a', rfl⟩ : ∃ n : Nat, a = (n : Int) := ⟨a.natAbs, by omega⟩
   obtain ⟨c', rfl⟩ : ∃ n : Nat, c = (n : Int) := ⟨c.natAbs, by omega⟩
   obtain ⟨b', rfl⟩ : ∃ n : Nat, b = (n : Int) := ⟨b.natAbs, by omega⟩
   obtain ⟨d', rfl⟩ : ∃ n : Nat, d = (n : Int) := ⟨d.natAbs, by omega⟩
   simp only [Int.natAbs_natCast] at *
   have hle2 : a' * d' ≤ c' * b' := by
    have : ((a' * d' : Nat) : Int) ≤ ((c' * b' : Nat) : Int) := by rw [Int.natCast_mul, Int.natCast_mul]; exact hle
    omega
   have wa : a' < B64 ^ 4 := by have := h1.w4n; unfold W4 at this; simpa using this
   have wb : b' < B64 ^ 4 := by have := h1.w4d; unfold W4 at this; simpa using this
   have wc : c' < B64 ^ 4 := by have := h2.w4n; unfold W4 at this; simpa using this
   have wd' : d' < B64 ^ 4 := by have := h2.w4d; unfold W4 at this; simpa using this
   have cP := zoA (b' + d') a' b' c' d' (Nat.le_refl _) (by omega) (by omega) hle2 wa wb wc wd'
   generalize sgZ (c' : Int) = sc at *
   generalize sgZ (a' : Int) = sa at *
   generalize (posF a' b' c' d').1 = n at *
   generalize (posF a' b' c' d').2 = m at *
   refine zap Tryz.func76 rfl (Nat.le_of_ble_eq_true rfl) rfl rfl ?_
   (repeat' (first | refine zad ?_ | (refine is_f 94 ?_; refine zaa (v1) ?_) | (refine is_f 94 ?_; refine zaa (v2) ?_) | (refine is_f 95 ?_; refine zaa (cC) ?_) | (refine is_f 112 ?_; refine zaa (s1) ?_) | (refine is_f 112 ?_; refine zaa (s2) ?_) | (refine is_f 114 ?_; refine zaa (cP) ?_) | (refine zac (fun hb => ?_) (fun hb => ?_) <;> (try (exfalso; omega))) | fail))
   all_goals (first | (exfalso; omega) | exact absurd rfl hb | exact zbb [] (Rt.rt _ _) (.bool rfl) rfl rfl rfl rfl rfl (zak rfl) rfl)
end Go.Proofs.YtibedaeefnjjlaaGreat
