/- Chapter 33: what shaken keeps; the law's numbers. Conditions: none. --ext6 -/
import Derived.Test.YtbndknhljkpijaaDoorSt6
namespace Go.Proofs.YtbndknhljkpijaaDoor
open Go.RowKit Go.Ab Go.Wd
set_option maxRecDepth 100000
set_option linter.unusedVariables false
set_option linter.unusedSimpArgs false

theorem wrap_i64r (x : Int) : I64 (IntKind.i64.wrap x) := by unfold I64; rw [i64w]; omega
theorem smp_set33 {l : List (Int × Int)} (h : Smp l) (i : Nat) (s : Int × Int) (hs : I64 s.1 ∧ I64 s.2) : Smp (l.set i s) := by
  intro j hj
  rw [List.length_set] at hj
  by_cases e : i = j
  · subst e
    have : (l.set i s).getD i (0, 0) = s := by simp [hj]
    rw [this]; exact hs
  · have : (l.set i s).getD j (0, 0) = l.getD j (0, 0) := by simp [e]
    rw [this]; exact h j hj
theorem smp_getD33 {l : List (Int × Int)} (h : Smp l) (i : Nat) : I64 (l.getD i (0, 0)).1 ∧ I64 (l.getD i (0, 0)).2 := by
  rcases Nat.lt_or_ge i l.length with hi | hi
  · exact h i hi
  · have : l.getD i (0, 0) = (0, 0) := by simp [hi]
    rw [this]; unfold I64; omega
theorem sk1_keep (t : List Int) (q i : Nat) {L : List (Int × Int)} (h : Smp L) : Smp (sk1 t q i L) ∧ (sk1 t q i L).length = L.length := by
  unfold sk1
  exact ⟨smp_set33 h _ _ ⟨(smp_getD33 h i).1, wrap_i64r _⟩, List.length_set⟩
theorem sk2_keep (t : List Int) (q i : Nat) {L : List (Int × Int)} (h : Smp L) : Smp (sk2 t q i L) ∧ (sk2 t q i L).length = L.length := by
  unfold sk2
  exact ⟨smp_set33 h _ _ ⟨(smp_getD33 h i).1, itv_range t q⟩, List.length_set⟩
theorem skG_keep (t : List Int) : ∀ (j i q : Nat) (L : List (Int × Int)), Smp L → Smp (skG t j i q L).1 ∧ (skG t j i q L).1.length = L.length
  | 0, i, q, L, h => by rw [skG]; exact ⟨h, rfl⟩
  | j + 1, i, q, L, h => by
    have h1 := sk1_keep t q i h
    have h2 := sk2_keep t (adv t (adv t q)) i h1.1
    rw [skG]
    split
    · have := skG_keep t j (i + 1) (itv t (adv t (adv t q))).2 _ h2.1
      exact ⟨this.1, by rw [this.2, h2.2, h1.2]⟩
    · have := skG_keep t j (i + 1) (adv t (adv t q)) _ h1.1
      exact ⟨this.1, by rw [this.2, h1.2]⟩
theorem skT_keep (t : List Int) (q : Nat) {L : List (Int × Int)} (h : Smp L) : Smp (skT t q L).1 ∧ (skT t q L).1.length = L.length := by
  unfold skT
  split
  · exact ⟨smp_set33 h _ _ ⟨wrap_i64r _, (smp_getD33 h _).2⟩, List.length_set⟩
  · exact ⟨h, rfl⟩
theorem smp_drop {l : List (Int × Int)} (h : Smp l) (k : Nat) : Smp (l.drop k) := by
  intro i hi
  rw [List.length_drop] at hi
  have : (l.drop k).getD i (0, 0) = l.getD (k + i) (0, 0) := by simp [List.getD_eq_getElem?_getD, List.getElem?_drop]
  rw [this]; exact h (k + i) (by omega)
theorem shk33_keep (t : List Int) (k : Nat) {l : List (Int × Int)} (h : Smp l) : Smp (shk33 t k l).1 ∧ (shk33 t k l).1.length ≤ l.length := by
  obtain ⟨g1, g2⟩ := skG_keep t l.length 0 k l h
  unfold shk33
  split
  · exact ⟨g1, by omega⟩
  · obtain ⟨t1, t2⟩ := skT_keep t (skG t l.length 0 k l).2 g1
    split
    · exact ⟨smp_drop t1 1, by show ((skT t (skG t l.length 0 k l).2 (skG t l.length 0 k l).1).1.drop 1).length ≤ _; rw [List.length_drop]; omega⟩
    · exact ⟨t1, by show (skT t (skG t l.length 0 k l).2 (skG t l.length 0 k l).1).1.length ≤ _; omega⟩
theorem dst_comm (a b : Int) : dst a b = dst b a := by unfold dst; split <;> split <;> omega
theorem fD_comm (a b : List (Int × Int)) : fD b a = fD a b := by
  funext i; unfold fD; rw [dst_comm]
theorem chkE_zero {a b : List (Int × Int)} (h : chkE a b = 0) : a.length = b.length ∧ a.map Prod.fst = b.map Prod.fst ∧ chkS a = 0 ∧ ∀ i, i < a.length → (a.getD i (0, 0)).1 = (b.getD i (0, 0)).1 := by
  unfold chkE at h
  split at h
  · rename_i hc
    split at h
    · rename_i hl
      split at h
      · rename_i hr
        have hr2 : ∀ i, i < a.length → (a.getD i (0, 0)).1 = (b.getD i (0, 0)).1 := fun i hi => by
          have := List.all_eq_true.1 hr i (List.mem_range.2 hi)
          exact of_decide_eq_true this
        refine ⟨hl, ?_, hc, hr2⟩
        apply List.ext_getElem
        · rw [List.length_map, List.length_map, hl]
        · intro i h1 h2
          rw [List.length_map] at h1 h2
          have := hr2 i h1
          simp only [List.getElem_map]
          simpa [h1, h2] using this
      · omega
    · omega
  · rename_i hc; exact absurd h hc
theorem chkE_comm {a b : List (Int × Int)} (h : chkE a b = 0) : chkE b a = 0 := by
  obtain ⟨h1, h2, h3, h4⟩ := chkE_zero h
  have hb : chkS b = 0 := by
    unfold chkS at h3 ⊢
    rw [← h2]; exact h3
  have hr : allR b.length (fun i => decide ((b.getD i (0, 0)).1 = (a.getD i (0, 0)).1)) = true := (allR_true fun i hi => decide_eq_true (h4 i (by omega)).symm).symm
  unfold chkE
  rw [if_pos hb, if_pos h1.symm, if_pos hr]
theorem mD_ge (f : Nat → Nat) : ∀ n i, i < n → f i ≤ mD f n
  | 0, i, h => by omega
  | n + 1, i, h => by
    rw [mD]
    rcases Nat.lt_or_ge i n with hi | hi
    · have := mD_ge f n i hi
      split <;> omega
    · have : i = n := by omega
      subst this
      split <;> omega
theorem mD_sD (f : Nat → Nat) : ∀ n, mD f n ≤ sD f n
  | 0 => Nat.le_refl _
  | n + 1 => by
    have := mD_sD f n
    rw [mD, sD]; split <;> omega
theorem sD_mD (f : Nat → Nat) (n : Nat) : sD f n ≤ n * mD f n := sD_le f (mD f n) n fun i hi => mD_ge f n i hi
theorem qD_sD (f : Nat → Nat) (M : Nat) : ∀ n, (∀ i, i < n → f i ≤ M) → sD (fun i => f i * f i) n ≤ sD f n * M
  | 0, _ => by simp [sD]
  | n + 1, h => by
    rw [sD, sD, Nat.add_mul]
    have h1 := qD_sD f M n (fun i hi => h i (by omega))
    have h2 := Nat.mul_le_mul (Nat.le_refl (f n)) (h n (by omega))
    omega
theorem sD_qD (f : Nat → Nat) : ∀ n, sD f n ≤ sD (fun i => f i * f i) n
  | 0 => Nat.le_refl _
  | n + 1 => by
    have h1 := sD_qD f n
    have h2 := Nat.le_mul_self (f n)
    rw [sD, sD]
    omega
theorem mD_zero (f : Nat → Nat) : ∀ n, (∀ i, i < n → f i = 0) → mD f n = 0
  | 0, _ => rfl
  | n + 1, h => by
    rw [mD, mD_zero f n (fun i hi => h i (by omega)), h n (by omega)]; rfl
theorem fD_zero {a b : List (Int × Int)} (ha : Smp a) (hb : Smp b) (i : Nat) (h1 : i < a.length) (h2 : i < b.length) : fD a b i = 0 ↔ dst (a.getD i (0, 0)).2 (b.getD i (0, 0)).2 ≤ 0 := by
  have := dst_range (a.getD i (0, 0)).2 (b.getD i (0, 0)).2 (ha i h1).2 (hb i h2).2
  unfold fD; omega
theorem wth_zero {a b : List (Int × Int)} (ha : Smp a) (hb : Smp b) (he : chkE a b = 0) : wth a b 0 = decide (mD (fD a b) a.length = 0) := by
  obtain ⟨h1, _, _, h4⟩ := chkE_zero he
  by_cases hz : mD (fD a b) a.length = 0
  · rw [decide_eq_true hz]
    unfold wth
    rw [decide_eq_true h1, Bool.true_and]
    refine (allR_true fun i hi => ?_).symm
    have hf : fD a b i = 0 := by have := mD_ge (fD a b) a.length i hi; omega
    have hd := (fD_zero ha hb i hi (by omega)).1 hf
    unfold wthF near
    rw [decide_eq_true (h4 i hi), Bool.true_and]
    exact decide_eq_true ⟨Int.le_refl _, hd⟩
  · rw [decide_eq_false hz]
    unfold wth
    rw [decide_eq_true h1, Bool.true_and]
    have : ∃ i, i < a.length ∧ fD a b i ≠ 0 := by
      rcases Classical.em (∃ i, i < a.length ∧ fD a b i ≠ 0) with h | h
      · exact h
      · exact absurd (mD_zero (fD a b) a.length fun i hi => by
          rcases Nat.eq_zero_or_pos (fD a b i) with h' | h'
          · exact h'
          · exact absurd ⟨i, hi, by omega⟩ h) hz
    obtain ⟨i, hi, hf⟩ := this
    refine (allR_false i hi ?_).symm
    have hd : ¬ dst (a.getD i (0, 0)).2 (b.getD i (0, 0)).2 ≤ 0 := fun h => hf ((fD_zero ha hb i hi (by omega)).2 h)
    unfold wthF near
    rw [decide_eq_true (h4 i hi), Bool.true_and]
    exact decide_eq_false fun h => hd h.2
theorem cmpN_le {m n : Nat} (h : m ≤ n) : cmpN m n ≤ 0 := by
  unfold cmpN
  split
  · omega
  · rw [if_neg (by omega)]; omega
end Go.Proofs.YtbndknhljkpijaaDoor
