/- Texts of the second layer in one: Ab36. -/
import Derived.Test.YtibedaeefnjjlaaGreatG5
namespace Go.Ab
open Go.RowKit
theorem awp_loopE {P : Program} {L : Ln} {N : Nat} {Q : Exit → St → Prop} {S : St} {α : Type} {id : Nat} {c y : Code} (T : α → St) (I : α → Prop)
  (h1 : awp P L N (.loop c) (blockA id (thenA (fun S => ∃ a, I a ∧ Le L S (T a)) Q)) S) (h2 : ∀ a, I a → awp P L N y Q (T a)) : awp P L N (.loop c) (blockA id (thenA (awp P L N y Q) Q)) S := by
 refine awp_mono h1 fun e S' h => ?_
 have key : (∃ a, I a ∧ Le L S' (T a)) → awp P L N y Q S' := fun ⟨a, ha, hL⟩ => awp_le hL (h2 a ha)
 cases e with
 | normal => exact key h
 | exit id' =>
  simp only [blockA] at h ⊢
  cases hb : Nat.beq id' id with
  | true => rw [hb] at h; exact key h
  | false => rw [hb] at h; exact h
 | _ => exact h
end Go.Ab
