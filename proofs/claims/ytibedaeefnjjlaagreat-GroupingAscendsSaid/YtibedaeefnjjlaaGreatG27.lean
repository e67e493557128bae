/- Texts of the second layer in one: Si3. -/
import Derived.Test.YtibedaeefnjjlaaGreatG26
set_option maxRecDepth 100000
set_option linter.unusedVariables false
set_option linter.unusedSimpArgs false
namespace Go.Proofs.YtibedaeefnjjlaaGreat
open Go.RowKit Go.Ab Go.Wd
def btw (a b c d : Int) : Int × Int :=
 if c < 0 then (-((posF c.natAbs d.natAbs a.natAbs b.natAbs).1 : Int), ((posF c.natAbs d.natAbs a.natAbs b.natAbs).2 : Int))
 else if a ≤ 0 then (0, 1)
 else (((posF a.natAbs b.natAbs c.natAbs d.natAbs).1 : Int), ((posF a.natAbs b.natAbs c.natAbs d.natAbs).2 : Int))
theorem cmpZ_le {x y : Int} (h : x ≤ y) : cmpZ x y ≤ 0 := by unfold cmpZ; split <;> omega
theorem VR.w4n {p q : Int} (h : VR p q) : W4 p := N127_w4 h.2.1
theorem VR.w4d {p q : Int} (h : VR p q) : W4 q := N127_w4 h.2.2.1
set_option maxHeartbeats 4000000 in
theorem betweenQ_m (a b c d : Int) (h1 : VR a b) (h2 : VR c d) (hle : a * d ≤ c * b) : Meets Tryz.prog 76 [rt a b, rt c d] [] (.tu [rt (btw a b c d).1 (btw a b c d).2, .r (.v (.bool true))]) [] := by
 have v1 := validQ_m a b h1.w4n h1.w4d
 have v2 := validQ_m c d h2.w4n h2.w4d
 rw [decide_eq_true h1] at v1
 rw [decide_eq_true h2] at v2
 have cC := cmpQ_m a b c d h1 h2
 have hcmp := cmpZ_le hle
 have s1 := wSign_m c h2.w4n
 have s2 := wSign_m a h1.w4n
 have hb0 := h1.1
 have hd0 := h2.1
 generalize cmpZ (a * d) (c * b) = e at *
 unfold btw
 by_cases hc : c < 0
 ·rw [if_pos hc]
  have hsg : sgZ c = -1 := by unfold sgZ; rw [if_pos hc]
  rw [hsg] at s1
  have ha : a < 0 := by
   rcases Int.lt_or_le a 0 with h | h
   ·exact h
   ·have k1 : 0 ≤ a * d := Int.mul_nonneg h (by omega)
    have k2 : c * b < 0 := Int.mul_neg_of_neg_of_pos hc hb0
    omega
  have n1 := negQ_m c d h2.w4n
  have n2 := negQ_m a b h1.w4n
  obtain ⟨a', rfl⟩ : ∃ n : Nat, a = -(n : Int) := ⟨a.natAbs, by omega⟩
  obtain ⟨c', rfl⟩ : ∃ n : Nat, c = -(n : Int) := ⟨c.natAbs, by omega⟩
  obtain ⟨b', rfl⟩ : ∃ n : Nat, b = (n : Int) := ⟨b.natAbs, by omega⟩
  obtain ⟨d', rfl⟩ : ∃ n : Nat, d = (n : Int) := ⟨d.natAbs, by omega⟩
  simp only [Int.natAbs_neg, Int.natAbs_natCast] at *
  rw [Int.neg_neg] at n1 n2
  have hle2 : c' * b' ≤ a' * d' := by
   rw [Int.neg_mul, Int.neg_mul] at hle
   have : ((c' * b' : Nat) : Int) ≤ ((a' * d' : Nat) : Int) := by rw [Int.natCast_mul, Int.natCast_mul]; omega
   omega
  have wa : a' < B64 ^ 4 := by have := h1.w4n; unfold W4 at this; simpa using this
  have wb : b' < B64 ^ 4 := by have := h1.w4d; unfold W4 at this; simpa using this
  have wc : c' < B64 ^ 4 := by have := h2.w4n; unfold W4 at this; simpa using this
  have wd' : d' < B64 ^ 4 := by have := h2.w4d; unfold W4 at this; simpa using this
  have cP := posQ_m (d' + b') c' d' a' b' (Nat.le_refl _) (by omega) (by omega) hle2 wc wd' wa wb
  obtain ⟨i1, _, _, _⟩ := posF_le (d' + b') c' d' a' b' (Nat.le_refl _) (by omega) (by omega) hle2
  generalize (posF c' d' a' b').1 = n at *
  generalize (posF c' d' a' b').2 = m at *
  have n3 := negQ_m (n : Int) (m : Int) (w4_nat (by omega))
  refine fn_of Tryz.func76 rfl (Nat.le_of_ble_eq_true rfl) rfl rfl ?_
  (repeat' (first | refine r_4eabd4 ?_ | (refine is_f 94 ?_; refine r_bb2b31 (v1) ?_) | (refine is_f 94 ?_; refine r_bb2b31 (v2) ?_) | (refine is_f 95 ?_; refine r_bb2b31 (cC) ?_) | (refine is_f 112 ?_; refine r_bb2b31 (s1) ?_) | (refine is_f 113 ?_; refine r_bb2b31 (n1) ?_) | (refine is_f 113 ?_; refine r_bb2b31 (n2) ?_) | (refine is_f 113 ?_; refine r_bb2b31 (n3) ?_) | (refine is_f 114 ?_; refine r_bb2b31 (cP) ?_) | (refine r_0efca5 (fun hb => ?_) (fun hb => ?_) <;> (try (exfalso; omega))) | fail))
  all_goals (first | (exfalso; omega) | exact absurd rfl hb | exact ret2c [] (Rt.rt _ _) (.bool rfl) rfl rfl rfl rfl rfl (post_none rfl) rfl)
 ·rw [if_neg hc]
  have hsg : ¬ sgZ c < 0 := by unfold sgZ; rw [if_neg hc]; split <;> omega
  by_cases ha : a ≤ 0
  ·rw [if_pos ha]
   have hsg2 : sgZ a ≤ 0 := by unfold sgZ; split <;> omega
   have cO := ofQ_m 0 (by constructor <;> decide)
   generalize sgZ c = sc at *
   generalize sgZ a = sa at *
   refine fn_of Tryz.func76 rfl (Nat.le_of_ble_eq_true rfl) rfl rfl ?_
   (repeat' (first | refine r_4eabd4 ?_ | (refine is_f 94 ?_; refine r_bb2b31 (v1) ?_) | (refine is_f 94 ?_; refine r_bb2b31 (v2) ?_) | (refine is_f 95 ?_; refine r_bb2b31 (cC) ?_) | (refine is_f 112 ?_; refine r_bb2b31 (s1) ?_) | (refine is_f 112 ?_; refine r_bb2b31 (s2) ?_) | (refine is_f 75 ?_; refine r_bb2b31 (cO) ?_) | (refine r_0efca5 (fun hb => ?_) (fun hb => ?_) <;> (try (exfalso; omega))) | fail))
   all_goals (first | (exfalso; omega) | exact absurd rfl hb | exact ret2c [] (Rt.rt _ _) (.bool rfl) rfl rfl rfl rfl rfl (post_none rfl) rfl)
  ·rw [if_neg ha]
   have hsg2 : ¬ sgZ a ≤ 0 := by unfold sgZ; rw [if_neg (by omega), if_neg (by omega)]; omega
   obtain ⟨a', rfl⟩ : ∃ n : Nat, a = (n : Int) := ⟨a.natAbs, by omega⟩
   obtain ⟨c', rfl⟩ : ∃ n : Nat, c = (n : Int) := ⟨c.natAbs, by omega⟩
   obtain ⟨b', rfl⟩ : ∃ n : Nat, b = (n : Int) := ⟨b.natAbs, by omega⟩
   obtain ⟨d', rfl⟩ : ∃ n : Nat, d = (n : Int) := ⟨d.natAbs, by omega⟩
   simp only [Int.natAbs_natCast] at *
   have hle2 : a' * d' ≤ c' * b' := by
    have : ((a' * d' : Nat) : Int) ≤ ((c' * b' : Nat) : Int) := by rw [Int.natCast_mul, Int.natCast_mul]; exact hle
    omega
   have wa : a' < B64 ^ 4 := by have := h1.w4n; unfold W4 at this; simpa using this
   have wb : b' < B64 ^ 4 := by have := h1.w4d; unfold W4 at this; simpa using this
   have wc : c' < B64 ^ 4 := by have := h2.w4n; unfold W4 at this; simpa using this
   have wd' : d' < B64 ^ 4 := by have := h2.w4d; unfold W4 at this; simpa using this
   have cP := posQ_m (b' + d') a' b' c' d' (Nat.le_refl _) (by omega) (by omega) hle2 wa wb wc wd'
   generalize sgZ (c' : Int) = sc at *
   generalize sgZ (a' : Int) = sa at *
   generalize (posF a' b' c' d').1 = n at *
   generalize (posF a' b' c' d').2 = m at *
   refine fn_of Tryz.func76 rfl (Nat.le_of_ble_eq_true rfl) rfl rfl ?_
   (repeat' (first | refine r_4eabd4 ?_ | (refine is_f 94 ?_; refine r_bb2b31 (v1) ?_) | (refine is_f 94 ?_; refine r_bb2b31 (v2) ?_) | (refine is_f 95 ?_; refine r_bb2b31 (cC) ?_) | (refine is_f 112 ?_; refine r_bb2b31 (s1) ?_) | (refine is_f 112 ?_; refine r_bb2b31 (s2) ?_) | (refine is_f 114 ?_; refine r_bb2b31 (cP) ?_) | (refine r_0efca5 (fun hb => ?_) (fun hb => ?_) <;> (try (exfalso; omega))) | fail))
   all_goals (first | (exfalso; omega) | exact absurd rfl hb | exact ret2c [] (Rt.rt _ _) (.bool rfl) rfl rfl rfl rfl rfl (post_none rfl) rfl)
end Go.Proofs.YtibedaeefnjjlaaGreat
