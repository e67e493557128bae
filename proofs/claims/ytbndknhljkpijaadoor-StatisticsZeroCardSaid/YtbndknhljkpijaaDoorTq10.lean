/- Chapter 12: what the tape's samples are; a sequence and its ranges. Plain laws. --ext4 -/
import Derived.Test.YtbndknhljkpijaaDoorTq9
import Derived.Test.YtbndknhljkpijaaDoorTq6
namespace Go.Proofs.YtbndknhljkpijaaDoor
open Go.RowKit Go.Ab
set_option maxRecDepth 100000
set_option linter.unusedVariables false
set_option linter.unusedSimpArgs false

theorem tms_sorted (t : List Int) (kind step : Int) (hs : 1 ≤ step ∧ step ≤ 50) : ∀ (i k : Nat) (a : Int) (acc : List Int), acc.Pairwise (· < ·) → (∀ x ∈ acc, x < a ∧ I64 x) → I64 a → (tms t kind step i k a acc).1.Pairwise (· < ·) ∧ ∀ x ∈ (tms t kind step i k a acc).1, I64 x
  | 0, k, a, acc, h1, h2, h3 => by rw [tms]; exact ⟨h1, fun x hx => (h2 x hx).2⟩
  | i + 1, k, a, acc, h1, h2, h3 => by
    have hd := tmD_range t kind step k hs
    have hp : (acc ++ [a]).Pairwise (· < ·) := List.pairwise_append.2 ⟨h1, by simp, fun x hx y hy => by simp at hy; subst hy; exact (h2 x hx).1⟩
    have hr : ∀ x ∈ acc ++ [a], I64 x := fun x hx => by
      rcases List.mem_append.1 hx with h | h
      · exact (h2 x h).2
      · simp at h; subst h; exact h3
    rw [tms]
    split
    · exact ⟨hp, hr⟩
    · rename_i hov
      have h4 : I64 (a + (tmD t kind step k).1) := by unfold I64 at *; omega
      refine tms_sorted t kind step hs i _ _ _ hp (fun x hx => ⟨?_, hr x hx⟩) h4
      rcases List.mem_append.1 hx with h | h
      · have := (h2 x h).1; omega
      · simp at h; omega
theorem tmL_sorted (t : List Int) (k n : Nat) : (tmL t k n).1.Pairwise (· < ·) ∧ ∀ x ∈ (tmL t k n).1, I64 x := by
  have h50 := nx_range t (itv t (adv t k)).2 (show (1 : Int) ≤ 50 by omega)
  exact tms_sorted t _ _ (by omega) _ _ _ [] (by simp) (by simp) (itv_range t (adv t k))
theorem wrap_I64 (x : Int) : I64 (IntKind.i64.wrap x) := by unfold I64; rw [i64w]; omega
theorem smX_range (t : List Int) (kind slope : Int) (i : Nat) (v : Int) (k : Nat) (h : I64 v) : I64 (smX t kind slope i v k).1 ∧ I64 (smX t kind slope i v k).2.1 := by
  unfold smX
  (repeat' split) <;> exact ⟨by first | exact wrap_I64 _ | exact itv_range _ _ | exact h, by first | exact h | exact wrap_I64 _⟩
theorem sms_fst (t : List Int) (kind slope : Int) (ts : List Int) : ∀ (j i : Nat) (v : Int) (k : Nat) (acc : List (Int × Int)), i + j = ts.length → (sms t kind slope ts j i v k acc).1.map Prod.fst = acc.map Prod.fst ++ ts.drop i
  | 0, i, v, k, acc, h => by rw [sms, List.drop_eq_nil_of_le (by omega), List.append_nil]
  | j + 1, i, v, k, acc, h => by
    rw [sms, sms_fst t kind slope ts j (i + 1) _ _ _ (by omega), List.map_append, List.append_assoc]
    congr 1
    rw [List.drop_eq_getElem_cons (show i < ts.length by omega)]
    simp [show i < ts.length by omega]
theorem sms_rng (t : List Int) (kind slope : Int) (ts : List Int) : ∀ (j i : Nat) (v : Int) (k : Nat) (acc : List (Int × Int)), I64 v → (∀ s ∈ acc, I64 s.2) → ∀ s ∈ (sms t kind slope ts j i v k acc).1, I64 s.2
  | 0, i, v, k, acc, h, h2 => by rw [sms]; exact h2
  | j + 1, i, v, k, acc, h, h2 => by
    rw [sms]
    have hx := smX_range t kind slope i v k h
    refine sms_rng t kind slope ts j (i + 1) _ _ _ hx.2 fun s hs => ?_
    rcases List.mem_append.1 hs with h3 | h3
    · exact h2 s h3
    · simp at h3; subst h3; exact hx.1
theorem smpL_fst (t : List Int) (k n : Nat) : (smpL t k n).1.map Prod.fst = (tmL t k n).1 := by
  unfold smpL; rw [sms_fst _ _ _ _ _ _ _ _ _ (by omega)]; simp
theorem smpL_len (t : List Int) (k n : Nat) : (smpL t k n).1.length ≤ n := by
  have := congrArg List.length (smpL_fst t k n)
  rw [List.length_map] at this
  rw [this]; exact tmL_len t k n
theorem mem_getD {α : Type} (l : List α) (i : Nat) (d : α) (h : i < l.length) : l.getD i d ∈ l := by
  have : l.getD i d = l[i] := by simp [h]
  rw [this]; exact List.getElem_mem h
theorem smpL_smp (t : List Int) (k n : Nat) : Smp (smpL t k n).1 := by
  intro i hi
  have hm := mem_getD _ i ((0 : Int), (0 : Int)) hi
  constructor
  · have h1 : ((smpL t k n).1.getD i (0, 0)).1 ∈ (smpL t k n).1.map Prod.fst := List.mem_map_of_mem hm
    rw [smpL_fst] at h1
    exact (tmL_sorted t k n).2 _ h1
  · exact sms_rng t _ _ _ _ _ _ _ [] (itv_range t _) (by simp) _ hm
/-- A sequence in order falls into what is before, within and behind. -/
theorem split3 (a b : Int) : ∀ (l : List (Int × Int)), (l.map Prod.fst).Pairwise (· < ·) → a ≤ b →
    (l.filter fun s => decide (s.1 < a)) ++ (l.filter fun s => decide (a ≤ s.1 ∧ s.1 ≤ b)) ++ (l.filter fun s => decide (b < s.1)) = l
  | [], _, _ => rfl
  | s :: l, h, hab => by
    rw [List.map_cons, List.pairwise_cons] at h
    have ih := split3 a b l h.2 hab
    have hall : ∀ u ∈ l, s.1 < u.1 := fun u hu => h.1 u.1 (List.mem_map_of_mem hu)
    rcases Int.lt_or_le s.1 a with h1 | h1
    · rw [List.filter_cons_of_pos (by simpa using h1), List.filter_cons_of_neg (by simp; omega), List.filter_cons_of_neg (by simp; omega), List.cons_append, List.cons_append, ih]
    · have e1 : (l.filter fun s => decide (s.1 < a)) = [] := List.filter_eq_nil_iff.2 fun u hu => by have := hall u hu; simp; omega
      rw [e1] at ih
      rcases Int.lt_or_le b s.1 with h2 | h2
      · have e2 : (l.filter fun s => decide (a ≤ s.1 ∧ s.1 ≤ b)) = [] := List.filter_eq_nil_iff.2 fun u hu => by have := hall u hu; simp; omega
        rw [e2] at ih
        rw [List.filter_cons_of_neg (by simp; omega), List.filter_cons_of_neg (by simp; omega), List.filter_cons_of_pos (by simpa using h2), e1, e2]
        simpa using ih
      · rw [List.filter_cons_of_neg (by simp; omega), List.filter_cons_of_pos (by simp; omega), List.filter_cons_of_neg (by simp; omega), e1]
        simpa using ih
theorem ranges_whole (l : List (Int × Int)) (h : Smp l) (hs : (l.map Prod.fst).Pairwise (· < ·)) (a b : Int) (hab : a ≤ b) : rng l (-9223372036854775808) (a - 1) ++ rng l a b ++ rng l (b + 1) 9223372036854775807 = l := by
  have hm : ∀ u ∈ l, I64 u.1 := fun u hu => by
    obtain ⟨i, hi, e⟩ := List.getElem_of_mem hu
    have := (h i hi).1
    have e2 : l.getD i (0, 0) = l[i] := by simp [hi]
    rw [e2, e] at this
    exact this
  have e1 : rng l (-9223372036854775808) (a - 1) = l.filter fun s => decide (s.1 < a) := List.filter_congr fun u hu => by
    have := hm u hu; unfold I64 at this
    rw [decide_eq_decide]; omega
  have e3 : rng l (b + 1) 9223372036854775807 = l.filter fun s => decide (b < s.1) := List.filter_congr fun u hu => by
    have := hm u hu; unfold I64 at this
    rw [decide_eq_decide]; omega
  rw [e1, e3]
  exact split3 a b l hs hab
end Go.Proofs.YtbndknhljkpijaaDoor
