/- Texts of the second layer in one: Mq. -/
import Derived.Test.YtibedaeefnjjlaaGreatG10
set_option linter.unusedVariables false
set_option linter.unusedSimpArgs false
namespace Go.Proofs.YtibedaeefnjjlaaGreat
def mkQ (m : Int) (d : Nat) : Int × Int := if m < 0 then (-((m.natAbs / Nat.gcd m.natAbs d : Nat) : Int), ((d / Nat.gcd m.natAbs d : Nat) : Int)) else (((m.natAbs / Nat.gcd m.natAbs d : Nat) : Int), ((d / Nat.gcd m.natAbs d : Nat) : Int))
theorem zhj (m : Int) (d : Nat) (hd : 0 < d) : (mkQ m d).1 * (d : Int) = m * (mkQ m d).2 ∧ 0 < (mkQ m d).2 ∧ (mkQ m d).1.natAbs ≤ m.natAbs ∧ (mkQ m d).2.natAbs ≤ d ∧ Nat.gcd (mkQ m d).1.natAbs (mkQ m d).2.natAbs = 1 := by
 have hg : 0 < Nat.gcd m.natAbs d := Nat.gcd_pos_of_pos_right _ hd
 obtain ⟨a, ha⟩ := Nat.gcd_dvd_left m.natAbs d
 obtain ⟨b, hb⟩ := Nat.gcd_dvd_right m.natAbs d
 have ea : m.natAbs / Nat.gcd m.natAbs d = a := by
  generalize Nat.gcd m.natAbs d = g at *
  rw [ha]; exact Nat.mul_div_cancel_left _ hg
 have eb : d / Nat.gcd m.natAbs d = b := by
  generalize Nat.gcd m.natAbs d = g at *
  rw [hb]; exact Nat.mul_div_cancel_left _ hg
 have hco : Nat.gcd a b = 1 := by
  clear ea eb
  generalize hgd : Nat.gcd m.natAbs d = g at *
  rw [ha, hb, Nat.gcd_mul_left] at hgd
  exact Nat.eq_of_mul_eq_mul_left hg (by rw [Nat.mul_one]; exact hgd)
 have hbp : 0 < b := by
  rcases Nat.eq_zero_or_pos b with h | h
  ·subst h; omega
  ·exact h
 have hm1 : a * d = m.natAbs * b := by
  generalize Nat.gcd m.natAbs d = g at *
  rw [ha, hb]
  generalize m.natAbs = n at *
  rw [Nat.mul_comm g b, ← Nat.mul_assoc, Nat.mul_comm g a, Nat.mul_assoc a b g, Nat.mul_comm b g, ← Nat.mul_assoc]
 have hle1 : a ≤ m.natAbs := by rw [← ea]; exact Nat.div_le_self _ _
 have hle2 : b ≤ d := by rw [← eb]; exact Nat.div_le_self _ _
 unfold mkQ
 rw [ea, eb]
 have hm2 : ((a * d : Nat) : Int) = ((m.natAbs * b : Nat) : Int) := by rw [hm1]
 rw [Int.natCast_mul, Int.natCast_mul] at hm2
 by_cases h : m < 0
 ·rw [if_pos h]
  refine ⟨?_, by omega, by simp; omega, by simp; omega, by simpa using hco⟩
  simp only
  rw [Int.neg_mul, hm2, show m = -(m.natAbs : Int) by omega, Int.neg_mul, Int.natAbs_neg, Int.natAbs_natCast]
 ·rw [if_neg h]
  refine ⟨?_, by simp only; omega, by simpa using hle1, by simpa using hle2, by simpa using hco⟩
  simp only
  rw [hm2, show m = (m.natAbs : Int) by omega, Int.natAbs_natCast]
theorem zqT (m m' : Int) (d : Nat) (hd : 0 < d) (h : m ≤ m') : (mkQ m d).1 * (mkQ m' d).2 ≤ (mkQ m' d).1 * (mkQ m d).2 := by
 obtain ⟨h1, h2, _⟩ := zhj m d hd
 obtain ⟨k1, k2, _⟩ := zhj m' d hd
 generalize mkQ m d = A at *
 generalize mkQ m' d = B at *
 refine Int.le_of_mul_le_mul_right (a := (d : Int)) ?_ (by omega)
 have e1 : A.1 * B.2 * (d : Int) = m * (A.2 * B.2) := by rw [Int.mul_right_comm, h1, Int.mul_assoc]
 have e2 : B.1 * A.2 * (d : Int) = m' * (A.2 * B.2) := by rw [Int.mul_right_comm, k1, Int.mul_assoc, Int.mul_comm B.2]
 rw [e1, e2]
 exact Int.mul_le_mul_of_nonneg_right h (Int.le_of_lt (Int.mul_pos h2 k2))
end Go.Proofs.YtibedaeefnjjlaaGreat
