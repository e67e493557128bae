/- Texts of the second layer in one: Wg8. -/
import Derived.Test.YtpnbgalbdohfgaaGreatDoorG16
set_option maxRecDepth 100000
set_option linter.unusedVariables false
set_option linter.unusedSimpArgs false
namespace Go.Proofs.YtpnbgalbdohfgaaGreatDoor
open Go.RowKit Go.Ab Go.Wd
theorem zcb (z : Int) : (∃ n : Nat, z = (n : Int)) ∨ ∃ n : Nat, n ≠ 0 ∧ z = -(n : Int) := by
 rcases Int.lt_or_le z 0 with h | h
 ·exact .inr ⟨z.natAbs, by omega, by omega⟩
 ·exact .inl ⟨z.natAbs, by omega⟩
theorem zmp (m n : Nat) : cmpZ (m : Int) (n : Int) = cmpN m n := by
 unfold cmpZ cmpN
 by_cases h : m < n
 ·rw [if_pos h, if_pos (by omega)]
 ·rw [if_neg h, if_neg (by omega)]
  by_cases h2 : n < m
  ·rw [if_pos h2, if_pos (by omega)]
  ·rw [if_neg h2, if_neg (by omega)]
theorem zk8 (m n : Nat) : cmpZ (-(m : Int)) (-(n : Int)) = cmpN n m := by
 unfold cmpZ cmpN
 by_cases h : n < m
 ·rw [if_pos h, if_pos (by omega)]
 ·rw [if_neg h, if_neg (by omega)]
  by_cases h2 : m < n
  ·rw [if_pos h2, if_pos (by omega)]
  ·rw [if_neg h2, if_neg (by omega)]
end Go.Proofs.YtpnbgalbdohfgaaGreatDoor
