/- Chapter 12: what the parts of a sequence are. Plain laws. --ext4 -/
import Derived.Test.YtabgmodllifgjaaSe10
namespace Go.Proofs.Ytabgmodllifgjaa
open Go.RowKit Go.Ab
set_option maxRecDepth 100000
set_option linter.unusedVariables false
set_option linter.unusedSimpArgs false

/-- Part j is as it ought to be. -/
def okP (size : Int) (fl : List Int) (n : Nat) (P : List (List (Int × Int))) (j : Nat) : Prop :=
  0 < (P.getD j []).length ∧ ((P.getD j []).length : Int) ≤ size ∧ (((P.getD j []).length : Int) = size ∨ (P.take (j + 1)).flatten.length = n ∨ flAny fl fl.length ((P.take (j + 1)).flatten.length : Int) = true)
theorem okP_snoc {size : Int} {fl : List Int} {n : Nat} {P : List (List (Int × Int))} {p : List (Int × Int)} (h : ∀ j, j < P.length → okP size fl n P j)
    (h1 : 0 < p.length) (h2 : (p.length : Int) ≤ size) (h3 : (p.length : Int) = size ∨ P.flatten.length + p.length = n ∨ flAny fl fl.length ((P.flatten.length + p.length : Nat) : Int) = true) : ∀ j, j < (P ++ [p]).length → okP size fl n (P ++ [p]) j := by
  intro j hj
  rw [List.length_append, List.length_singleton] at hj
  rcases Nat.lt_or_ge j P.length with h4 | h4
  · have e1 : (P ++ [p]).getD j [] = P.getD j [] := by simp [List.getElem?_append_left h4]
    have e2 : (P ++ [p]).take (j + 1) = P.take (j + 1) := List.take_append_of_le_length (by omega)
    unfold okP
    rw [e1, e2]
    exact h j h4
  · obtain rfl : j = P.length := by omega
    have e1 : (P ++ [p]).getD P.length [] = p := by simp
    have e2 : (P ++ [p]).take (P.length + 1) = P ++ [p] := List.take_of_length_le (by simp)
    have e3 : (P ++ [p]).flatten.length = P.flatten.length + p.length := by rw [List.flatten_append, List.flatten_singleton, List.length_append]
    unfold okP
    rw [e1, e2, e3]
    exact ⟨h1, h2, h3⟩
theorem cutR_ok (size : Int) (fl : List Int) (n : Nat) : ∀ (r : List (Int × Int)) (i : Nat) (part : List (Int × Int)) (out : List (List (Int × Int))),
    i + r.length = n → (r = [] → part = []) → (part.length : Int) < size → out.flatten.length + part.length = i → (∀ j, j < out.length → okP size fl n out j) →
    (∀ j, j < (cutR size fl n r i part out).length → okP size fl n (cutR size fl n r i part out) j) ∧ (cutR size fl n r i part out).flatten = out.flatten ++ part ++ r
  | [], i, part, out, h1, h2, h3, h4, h5 => by
    rw [cutR, h2 rfl, List.append_nil, List.append_nil]
    exact ⟨h5, rfl⟩
  | s :: r, i, part, out, h1, h2, h3, h4, h5 => by
    rw [List.length_cons] at h1
    have hps : (part ++ [s]).length = part.length + 1 := by simp
    have hfl : (out ++ [part ++ [s]]).flatten.length = out.flatten.length + (part ++ [s]).length := by rw [List.flatten_append, List.flatten_singleton, List.length_append]
    rw [cutR]
    split
    · rename_i hE
      have hE3 : (((part ++ [s]).length : Nat) : Int) = size ∨ out.flatten.length + (part ++ [s]).length = n ∨ flAny fl fl.length ((out.flatten.length + (part ++ [s]).length : Nat) : Int) = true := by
        have e : out.flatten.length + (part ++ [s]).length = i + 1 := by omega
        rw [e, hps]
        unfold cutE at hE
        simp only [Bool.or_eq_true, decide_eq_true_eq] at hE
        rcases hE with (hE | hE) | hE
        · exact .inr (.inl hE)
        · exact .inl hE
        · exact .inr (.inr (by rw [Int.natCast_add]; exact hE))
      have h6 := okP_snoc h5 (p := part ++ [s]) (by omega) (by omega) hE3
      have h7 := cutR_ok size fl n r (i + 1) [] (out ++ [part ++ [s]]) (by omega) (fun _ => rfl) (by simp; omega) (by rw [hfl]; simp only [List.length_nil]; omega) h6
      exact ⟨h7.1, by rw [h7.2]; simp⟩
    · rename_i hE
      unfold cutE at hE
      simp only [Bool.or_eq_true, decide_eq_true_eq, not_or] at hE
      have h7 := cutR_ok size fl n r (i + 1) (part ++ [s]) out (by omega) (fun h => by subst h; simp at h1; omega) (by omega) (by omega) h5
      exact ⟨h7.1, by rw [h7.2]; simp⟩
theorem cutL_ok (l : List (Int × Int)) (size : Int) (fl : List Int) (h : 1 ≤ size) : (∀ j, j < (cutL l size fl).length → okP size fl l.length (cutL l size fl) j) ∧ (cutL l size fl).flatten = l := by
  have := cutR_ok size fl l.length l 0 [] [] (by simp) (fun _ => rfl) (by simp; omega) (by simp) (by simp)
  simpa [cutL] using this
theorem prts_get {P : List (List (Int × Int))} {j : Nat} (h : j < P.length) : (prts P)[j]? = some [.sl 2 (smps (P.getD j []))] := by simp [prts, h]
theorem flat_take_succ (P : List (List (Int × Int))) (j : Nat) (h : j < P.length) : (P.take (j + 1)).flatten = (P.take j).flatten ++ P.getD j [] := by
  rw [take_succ_getD P j [] h]; simp
theorem flat_take_len (P : List (List (Int × Int))) (j : Nat) : (P.take j).flatten.length ≤ P.flatten.length := by
  have e := congrArg (fun Q : List (List (Int × Int)) => Q.flatten.length) (List.take_append_drop j P)
  simp only [List.flatten_append, List.length_append] at e
  omega
end Go.Proofs.Ytabgmodllifgjaa
