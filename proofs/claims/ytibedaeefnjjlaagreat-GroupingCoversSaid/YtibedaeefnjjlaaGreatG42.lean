/- Texts of the second layer in one: Gq1. -/
import Derived.Test.YtibedaeefnjjlaaGreatG33
/- Chapter 21, plain: the simplest fraction lies in the interval. Conditions: positive denominators. -/
namespace Go.Proofs.YtibedaeefnjjlaaGreat
open Go.RowKit Go.Ab Go.Wd
set_option linter.unusedVariables false
set_option linter.unusedSimpArgs false

theorem posF_in : ∀ (N a b c d : Nat), b + d ≤ N → 0 < b → 0 < d → a * d ≤ c * b → a * (posF a b c d).2 ≤ (posF a b c d).1 * b ∧ (posF a b c d).1 * d ≤ c * (posF a b c d).2 ∧ 0 < (posF a b c d).2 ∧ Nat.gcd (posF a b c d).1 (posF a b c d).2 = 1
  | 0, a, b, c, d, hN, hb, hd, _ => by omega
  | N + 1, a, b, c, d, hN, hb, hd, hle => by
    have ea := Nat.mod_add_div a b
    have ec := Nat.mod_add_div c d
    have hra := Nat.mod_lt a hb
    have hrc := Nat.mod_lt c hd
    rw [posF]
    split
    · rename_i h
      have hr : a % b = 0 := by omega
      rw [hr, Nat.zero_add] at ea
      refine ⟨?_, ?_, Nat.one_pos, Nat.gcd_one_right _⟩
      · show a * 1 ≤ a / b * b
        rw [Nat.mul_one, Nat.mul_comm (a / b) b]; omega
      · show a / b * d ≤ c * 1
        rw [Nat.mul_one]
        refine Nat.le_of_mul_le_mul_left (c := b) ?_ hb
        rw [← Nat.mul_assoc, ea, Nat.mul_comm b c]; exact hle
    · rename_i h
      split
      · rename_i hq
        refine ⟨?_, ?_, Nat.one_pos, Nat.gcd_one_right _⟩
        · show a * 1 ≤ (a / b + 1) * b
          rw [Nat.mul_one, Nat.add_mul, Nat.one_mul, Nat.mul_comm (a / b) b]; omega
        · show (a / b + 1) * d ≤ c * 1
          have h1 : (a / b + 1) * d ≤ c / d * d := Nat.mul_le_mul hq (Nat.le_refl d)
          have h2 := Nat.div_mul_le_self c d
          omega
      · rename_i hq
        obtain ⟨he, hi, hs⟩ := posF_rest hb hd hle (by omega) hq
        obtain ⟨i1, i2, i3, i4⟩ := posF_in N d (c % d) b (a % b) (by omega) hs (by omega) hi
        generalize posF d (c % d) b (a % b) = R at *
        obtain ⟨n, m⟩ := R
        simp only at *
        have hn : 0 < n := by
          rcases Nat.eq_zero_or_pos n with h | h
          · subst h
            have : 0 < d * m := Nat.mul_pos hd i3
            omega
          · exact h
        generalize a % b = r at *
        generalize c % d = s at *
        rw [he] at ea ⊢
        generalize c / d = q at *
        refine ⟨?_, ?_, hn, ?_⟩
        · rw [← ea, Nat.add_mul, Nat.add_mul]
          have e1 : b * q * n = q * n * b := by simp only [Nat.mul_assoc, Nat.mul_comm, Nat.mul_left_comm]
          have e2 : n * r = r * n := Nat.mul_comm _ _
          have e3 : b * m = m * b := Nat.mul_comm _ _
          omega
        · rw [← ec, Nat.add_mul, Nat.add_mul]
          have e1 : q * n * d = d * q * n := by simp only [Nat.mul_assoc, Nat.mul_comm, Nat.mul_left_comm]
          have e2 : n * s = s * n := Nat.mul_comm _ _
          have e3 : d * m = m * d := Nat.mul_comm _ _
          omega
        · rw [Nat.mul_comm q n, Nat.gcd_comm, Nat.add_comm, Nat.gcd_add_mul_left_right]; exact i4
/-- The chosen fraction lies between the ends, in lowest terms, and is no larger than they are. -/
theorem btw_in (a b c d : Int) (hb : 0 < b) (hd : 0 < d) (hle : a * d ≤ c * b) :
    a * (btw a b c d).2 ≤ (btw a b c d).1 * b ∧ (btw a b c d).1 * d ≤ c * (btw a b c d).2 ∧ 0 < (btw a b c d).2 ∧ Nat.gcd (btw a b c d).1.natAbs (btw a b c d).2.natAbs = 1 ∧ (btw a b c d).1.natAbs ≤ a.natAbs + c.natAbs ∧ ((btw a b c d).1.natAbs ≤ a.natAbs ∨ (btw a b c d).1.natAbs ≤ c.natAbs) ∧ (btw a b c d).2.natAbs ≤ b.natAbs := by
  obtain ⟨b, rfl⟩ : ∃ n : Nat, b = (n : Int) := ⟨b.toNat, by omega⟩
  obtain ⟨d, rfl⟩ : ∃ n : Nat, d = (n : Int) := ⟨d.toNat, by omega⟩
  unfold btw
  split
  · rename_i hc
    obtain ⟨c', rfl⟩ : ∃ n : Nat, c = -(n : Int) := ⟨c.natAbs, by omega⟩
    have ha : a < 0 := by
      rcases Int.lt_or_le a 0 with h | h
      · exact h
      · have h1 : 0 ≤ a * (d : Int) := Int.mul_nonneg h (by omega)
        have h2 : -(c' : Int) * (b : Int) < 0 := Int.mul_neg_of_neg_of_pos hc (by omega)
        omega
    obtain ⟨a', rfl⟩ : ∃ n : Nat, a = -(n : Int) := ⟨a.natAbs, by omega⟩
    simp only [Int.natAbs_neg, Int.natAbs_natCast]
    have hle' : c' * b ≤ a' * d := by
      rw [Int.neg_mul, Int.neg_mul] at hle
      have : ((c' * b : Nat) : Int) ≤ ((a' * d : Nat) : Int) := by rw [Int.natCast_mul, Int.natCast_mul]; omega
      omega
    obtain ⟨p1, p2, p3, p4⟩ := posF_in _ c' d a' b (Nat.le_refl _) (by omega) (by omega) hle'
    obtain ⟨q1, q2, q3, q4⟩ := posF_le _ c' d a' b (Nat.le_refl _) (by omega) (by omega) hle'
    generalize posF c' d a' b = R at *
    obtain ⟨n, m⟩ := R
    simp only at *
    refine ⟨?_, ?_, by omega, p4, by omega, .inl q2, q4⟩
    · rw [Int.neg_mul, Int.neg_mul, ← Int.natCast_mul, ← Int.natCast_mul]; omega
    · rw [Int.neg_mul, Int.neg_mul, ← Int.natCast_mul, ← Int.natCast_mul]; omega
  · rename_i hc
    split
    · rename_i ha
      refine ⟨by simp; omega, by simp; omega, by simp, by simp, by simp, by simp, by simp; omega⟩
    · rename_i ha
      obtain ⟨a, rfl⟩ : ∃ n : Nat, a = (n : Int) := ⟨a.toNat, by omega⟩
      obtain ⟨c, rfl⟩ : ∃ n : Nat, c = (n : Int) := ⟨c.toNat, by omega⟩
      simp only [Int.natAbs_natCast]
      rw [← Int.natCast_mul, ← Int.natCast_mul] at hle
      have hle' : a * d ≤ c * b := by omega
      obtain ⟨p1, p2, p3, p4⟩ := posF_in _ a b c d (Nat.le_refl _) (by omega) (by omega) hle'
      obtain ⟨q1, q2, q3, q4⟩ := posF_le _ a b c d (Nat.le_refl _) (by omega) (by omega) hle'
      generalize posF a b c d = R at *
      obtain ⟨n, m⟩ := R
      simp only at *
      refine ⟨?_, ?_, by omega, p4, by omega, .inl q1, q3⟩
      · rw [← Int.natCast_mul, ← Int.natCast_mul]; omega
      · rw [← Int.natCast_mul, ← Int.natCast_mul]; omega
end Go.Proofs.YtibedaeefnjjlaaGreat
