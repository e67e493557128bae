/- Texts of the second layer in one: Wg9. -/
import Derived.Test.YtpnbgalbdohfgaaGreatDoorG17
import Derived.Test.YtpnbgalbdohfgaaGreatDoorG9
set_option maxRecDepth 100000
set_option linter.unusedVariables false
set_option linter.unusedSimpArgs false
namespace Go.Proofs.YtpnbgalbdohfgaaGreatDoor
open Go.RowKit Go.Ab Go.Wd
theorem zb_f (n : Nat) : zb false n = (n : Int) := rfl
theorem zb_t (n : Nat) : zb true n = -(n : Int) := rfl
theorem zjQ {m n : Nat} (h : n ≤ m) : 0 ≤ cmpN m n := by unfold cmpN; rw [if_neg (by omega)]; split <;> omega
theorem ziv {m n : Nat} (h : m < n) : ¬ 0 ≤ cmpN m n := by unfold cmpN; rw [if_pos h]; omega
end Go.Proofs.YtpnbgalbdohfgaaGreatDoor
