/- Texts of the second layer in one: Un. -/
import Derived.Test.YtibedaeefnjjlaaGreatAu
set_option linter.unusedVariables false
namespace Go.Proofs.YtibedaeefnjjlaaGreat
def I64 (x : Int) : Prop := -9223372036854775808 ≤ x ∧ x < 9223372036854775808
def allR (n : Nat) (f : Nat → Bool) : Bool := (List.range n).all f
theorem allR_true {n : Nat} {f : Nat → Bool} (h : ∀ i, i < n → f i = true) : true = allR n f := by
 unfold allR
 exact (List.all_eq_true.2 fun i hi => h i (List.mem_range.1 hi)).symm
theorem allR_false {n : Nat} {f : Nat → Bool} (i : Nat) (h : i < n) (hf : f i = false) : false = allR n f := by
 cases hx : allR n f with
 | false => rfl
 | true =>
  have := List.all_eq_true.1 hx i (List.mem_range.2 h)
  rw [hf] at this; cases this
theorem take_succ_getD {α : Type} (l : List α) (k : Nat) (d : α) (h : k < l.length) : l.take (k + 1) = l.take k ++ [l.getD k d] := by
 rw [List.take_succ_eq_append_getElem h]
 simp [h]
end Go.Proofs.YtibedaeefnjjlaaGreat
