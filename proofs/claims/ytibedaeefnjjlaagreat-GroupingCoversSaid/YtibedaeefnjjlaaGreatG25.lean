/- Texts of the second layer in one: Wg0. -/
import Derived.Test.YtibedaeefnjjlaaGreatG23
import Derived.Lib.BitFns
import Derived.Lib.ItoaNum
/- Shifts, lengths, differences of words. No program. -/
namespace Go.Wd
open Go
set_option linter.unusedVariables false
set_option linter.unusedSimpArgs false
/-- A word of a number. -/
def wo (n i : Nat) : Nat := n / B64 ^ i % B64
theorem wo_lt (n i : Nat) : wo n i < B64 := Nat.mod_lt _ (by decide)
theorem wo0 (n : Nat) : wo n 0 = n % B64 := by unfold wo; rw [Nat.pow_zero, Nat.div_one]
theorem wo1 (n : Nat) : wo n 1 = n / B64 % B64 := by unfold wo; rw [Nat.pow_one]
theorem wo2 (n : Nat) : wo n 2 = n / B64 / B64 % B64 := by unfold wo; rw [Nat.pow_succ, Nat.pow_one, Nat.div_div_eq_div_mul]
theorem wo3 (n : Nat) : wo n 3 = n / B64 / B64 / B64 % B64 := by unfold wo; rw [Nat.pow_succ, Nat.pow_succ, Nat.pow_one, Nat.div_div_eq_div_mul, Nat.div_div_eq_div_mul, Nat.mul_assoc]
theorem ws4 (n : Nat) : ws n 4 = [wo n 0, wo n 1, wo n 2, wo n 3] := by rw [wo0, wo1, wo2, wo3]; rfl
theorem B64_two : B64 = 2 ^ 64 := by decide
theorem wo_zero_of_lt {n i : Nat} (h : n < B64 ^ i) : wo n i = 0 := by unfold wo; rw [Nat.div_eq_of_lt h]; rfl
/-- The words of a number that is shifted to the left. -/
theorem wo_shl0 (n w r : Nat) (hr : r < 64) : wo (n * 2 ^ (64 * w + r)) w = wo n 0 * 2 ^ r % B64 := by
  have e : n * 2 ^ (64 * w + r) = n * 2 ^ r * B64 ^ w := by rw [Nat.pow_add, Nat.pow_mul, ← B64_two, Nat.mul_assoc, Nat.mul_comm (B64 ^ w)]
  have hp : 0 < B64 ^ w := Nat.pow_pos (by decide)
  unfold wo
  rw [e, Nat.mul_div_cancel _ hp, Nat.pow_zero, Nat.div_one, Nat.mod_mul_mod]
theorem wo_shl_low (n w r i : Nat) (hi : i < w) : wo (n * 2 ^ (64 * w + r)) i = 0 := by
  obtain ⟨d, rfl⟩ : ∃ d, w = i + 1 + d := ⟨w - (i + 1), by omega⟩
  have e : n * 2 ^ (64 * (i + 1 + d) + r) = (n * 2 ^ r * B64 ^ d * B64) * B64 ^ i := by
    rw [Nat.pow_add, Nat.pow_mul, ← B64_two, Nat.pow_add, Nat.pow_succ]
    simp only [Nat.mul_assoc, Nat.mul_comm, Nat.mul_left_comm]
  have hp : 0 < B64 ^ i := Nat.pow_pos (by decide)
  unfold wo
  rw [e, Nat.mul_div_cancel _ hp, Nat.mul_mod_left]
theorem shr_word (h r : Nat) (hr : r ≤ 64) : h / 2 ^ (64 - r) % B64 = h / B64 % B64 * 2 ^ r % B64 + h % B64 / 2 ^ (64 - r) ∧ h / B64 % B64 * 2 ^ r % B64 % 2 ^ r = 0 ∧ h % B64 / 2 ^ (64 - r) < 2 ^ r := by
  obtain ⟨s, hs⟩ : ∃ s, s = 64 - r := ⟨_, rfl⟩
  have hb : B64 = 2 ^ s * 2 ^ r := by rw [B64_two, ← Nat.pow_add]; congr 1; omega
  rw [← hs]
  have hps : 0 < 2 ^ s := Nat.pow_pos (by decide)
  have hpr : 0 < 2 ^ r := Nat.pow_pos (by decide)
  generalize 2 ^ s = S at *
  generalize 2 ^ r = R at *
  clear hs
  have hlt : h % B64 / S < R := by
    rw [Nat.div_lt_iff_lt_mul hps, Nat.mul_comm, ← hb]
    exact Nat.mod_lt _ (by decide)
  have hm : h / B64 % B64 * R % B64 = R * (h / B64 % S) := by
    rw [Nat.mul_comm, hb, Nat.mul_comm S R, Nat.mul_mod_mul_left, Nat.mod_mul_left_mod]
  refine ⟨?_, by rw [hm, Nat.mul_mod_right], hlt⟩
  have hd : h / S = R * (h / B64) + h % B64 / S := by
    have e := Nat.mod_add_div h B64
    have : h = h % B64 + S * (R * (h / B64)) := by
      rw [← Nat.mul_assoc, ← hb]; exact e.symm
    have e2 : h / S = (h % B64 + S * (R * (h / B64))) / S := by rw [← this]
    rw [e2, Nat.add_mul_div_left _ _ hps, Nat.add_comm]
  rw [hd, hm]
  have hq := Nat.mod_add_div (h / B64) S
  have hc : h / B64 % S < S := Nat.mod_lt _ hps
  generalize h / B64 % S = c at *
  generalize h / B64 / S = q at *
  generalize h % B64 / S = e at *
  rw [← hq, Nat.mul_add, hb]
  have e1 : R * c + R * (S * q) + e = (R * c + e) + S * R * q := by
    have : R * (S * q) = S * R * q := by rw [← Nat.mul_assoc, Nat.mul_comm R S]
    omega
  rw [e1, Nat.add_mul_mod_self_left]
  refine Nat.mod_eq_of_lt ?_
  have h3 : R * (c + 1) ≤ R * S := Nat.mul_le_mul (Nat.le_refl _) hc
  rw [Nat.mul_comm S R]
  rw [Nat.mul_add] at h3
  omega
theorem wo_shl (n w r j : Nat) (hr : r < 64) : wo (n * 2 ^ (64 * w + r)) (w + (j + 1)) = wo n (j + 1) * 2 ^ r % B64 + wo n j / 2 ^ (64 - r) ∧ wo n (j + 1) * 2 ^ r % B64 % 2 ^ r = 0 ∧ wo n j / 2 ^ (64 - r) < 2 ^ r := by
  have e : n * 2 ^ (64 * w + r) / B64 ^ (w + (j + 1)) = n / B64 ^ j / 2 ^ (64 - r) := by
    have e1 : n * 2 ^ (64 * w + r) = n * (2 ^ r * B64 ^ w) := by rw [Nat.pow_add, Nat.pow_mul, ← B64_two, Nat.mul_comm (B64 ^ w)]
    have e2 : B64 ^ (w + (j + 1)) = B64 ^ j * 2 ^ (64 - r) * (2 ^ r * B64 ^ w) := by
      have hb : B64 = 2 ^ (64 - r) * 2 ^ r := by rw [B64_two, ← Nat.pow_add]; congr 1; omega
      rw [Nat.pow_add, Nat.pow_succ]
      conv => lhs; rw [show B64 ^ w * (B64 ^ j * B64) = B64 ^ w * (B64 ^ j * (2 ^ (64 - r) * 2 ^ r)) by rw [← hb]]
      simp only [Nat.mul_assoc, Nat.mul_comm, Nat.mul_left_comm]
    rw [e1, e2, Nat.mul_div_mul_right _ _ (Nat.mul_pos (Nat.pow_pos (by decide)) (Nat.pow_pos (by decide))), Nat.div_div_eq_div_mul]
  have h := shr_word (n / B64 ^ j) r (by omega)
  have e3 : n / B64 ^ (j + 1) = n / B64 ^ j / B64 := by rw [Nat.pow_succ, Nat.div_div_eq_div_mul]
  unfold wo
  rw [e, e3]
  exact h
theorem or_add_lt (a b k : Nat) (ha : a % 2 ^ k = 0) (hb : b < 2 ^ k) : a ||| b = a + b := by
  have e : a = 2 ^ k * (a / 2 ^ k) := by
    have := Nat.mod_add_div a (2 ^ k)
    omega
  rw [e, ← Nat.two_pow_add_eq_or_of_lt hb]
/-- The words of a half. -/
theorem wo_half (n i : Nat) : wo (n / 2) i = wo n i / 2 + wo n (i + 1) % 2 * 9223372036854775808 := by
  have e : n / 2 / B64 ^ i = n / B64 ^ i / 2 := by rw [Nat.div_div_eq_div_mul, Nat.div_div_eq_div_mul, Nat.mul_comm]
  unfold wo
  rw [e, Nat.pow_succ, ← Nat.div_div_eq_div_mul]
  unfold B64
  omega
/-- The number of bits. -/
def bl (n : Nat) : Nat := if n = 0 then 0 else n.log2 + 1
theorem bl_lt (n : Nat) : n < 2 ^ bl n := by
  unfold bl
  split
  · rename_i h; subst h; decide
  · exact Nat.lt_log2_self
theorem bl_le (n : Nat) (h : n ≠ 0) : 2 ^ (bl n - 1) ≤ n := by
  unfold bl
  rw [if_neg h]
  exact Nat.log2_self_le h
theorem bl_pos {n : Nat} (h : n ≠ 0) : 0 < bl n := by unfold bl; rw [if_neg h]; omega
theorem bl_uniq (n k : Nat) (h1 : 2 ^ k ≤ n) (h2 : n < 2 ^ (k + 1)) : bl n = k + 1 := by
  have hn : n ≠ 0 := by have : 0 < 2 ^ k := Nat.pow_pos (by decide); omega
  have a1 := bl_lt n
  have a2 := bl_le n hn
  have a3 := bl_pos hn
  rcases Nat.lt_trichotomy (bl n) (k + 1) with h | h | h
  · have : 2 ^ bl n ≤ 2 ^ k := Nat.pow_le_pow_right (by decide) (by omega)
    omega
  · exact h
  · have : 2 ^ (k + 1) ≤ 2 ^ (bl n - 1) := Nat.pow_le_pow_right (by decide) (by omega)
    omega
theorem bl_lib (x : Nat) (h : x < B64) : Lib.bitLen x = bl x := by
  by_cases h0 : x = 0
  · subst h0; rfl
  · obtain ⟨b1, b2, b3⟩ := Lib.bitLenAux_bounds 64 x (by rw [← B64_two]; exact h) h0
    have := bl_uniq x (Lib.bitLenAux 64 x - 1) b2 (by rw [Nat.sub_add_cancel b1]; exact b3)
    rw [this]
    show Lib.bitLenAux 64 x = _
    omega
theorem bl_word (a b : Nat) (ha : a < B64) (hb : b ≠ 0) : bl (a + B64 * b) = 64 + bl b := by
  have h1 := bl_lt b
  have h2 := bl_le b hb
  have h3 := bl_pos hb
  have e : 64 + bl b = (64 + (bl b - 1)) + 1 := by omega
  rw [e]
  refine bl_uniq _ _ ?_ ?_
  · rw [Nat.pow_add, ← B64_two]
    have := Nat.mul_le_mul (Nat.le_refl B64) h2
    omega
  · rw [← e, Nat.pow_add, ← B64_two]
    have := Nat.mul_le_mul (Nat.le_refl B64) (show b + 1 ≤ 2 ^ bl b from h1)
    rw [Nat.mul_add] at this
    omega
theorem bl_le_of_lt {n k : Nat} (h : n < 2 ^ k) : bl n ≤ k := by
  by_cases h0 : n = 0
  · subst h0; unfold bl; rw [if_pos rfl]; omega
  · rcases Nat.lt_or_ge k (bl n) with h1 | h1
    · have := bl_le n h0
      have : 2 ^ k ≤ 2 ^ (bl n - 1) := Nat.pow_le_pow_right (by decide) (by omega)
      omega
    · exact h1
end Go.Wd
