/- Texts of the second layer in one: Rc1. -/
import Derived.Test.YtibedaeefnjjlaaGreatG37
import Derived.Test.YtibedaeefnjjlaaGreatG26
/- The reference's cones: Start, Valid, Contains. Conditions: valid ones of one word. --ext6 -/
namespace Go.Proofs.YtibedaeefnjjlaaGreat
open Go.RowKit Go.Ab Go.Wd
set_option maxRecDepth 100000
set_option linter.unusedVariables false
set_option linter.unusedSimpArgs false

set_option maxHeartbeats 1000000 in
theorem rcStart_m : Meets Tryz.prog 19 [] [] (cn true 0 0 0 0) [] := by
  refine fn_of Tryz.func19 rfl (Nat.le_of_ble_eq_true rfl) rfl rfl ?_
  (repeat' (first | refine r_4eabd4 ?_ | (refine r_48b933 (fun hb => ?_) (fun hb => ?_) <;> (try (exfalso; omega))) | (refine awp_cond rfl (fun hb => ?_) (fun hb => ?_) <;> (try simp only [Bool.not_eq_true', Bool.not_eq_false', decide_eq_true_eq, decide_eq_false_iff_not] at hb) <;> (try (exfalso; omega)))))
  all_goals exact ret1c [] (Rt.cn _ _ _ _ _) rfl rfl rfl rfl (post_none rfl) rfl
set_option maxHeartbeats 8000000 in
theorem rcValid0_m : Meets Tryz.prog 40 [cn true 0 0 0 0] [] (.r (.v (.bool true))) [] := by
  refine fn_of Tryz.func40 rfl (Nat.le_of_ble_eq_true rfl) rfl rfl ?_
  (repeat' (first | (refine is_bin ?_; refine is_b_eql ?_; refine w_read rfl q_85eb5 (p_eqcn0 rfl rfl) ?_) | refine r_4eabd4 ?_ | (refine is_f 19 ?_; refine r_bb2b31 (rcStart_m) ?_) | (refine r_48b933 (fun hb => ?_) (fun hb => ?_) <;> (try (exfalso; omega))) | (refine awp_cond rfl (fun hb => ?_) (fun hb => ?_) <;> (try simp only [Bool.not_eq_true', Bool.not_eq_false', decide_eq_true_eq, decide_eq_false_iff_not] at hb) <;> (try (exfalso; omega)))))
  all_goals exact ret1 [] (.bool rfl) rfl rfl rfl
set_option maxHeartbeats 1000000 in
theorem rcValid_m (p q r s : Int) (h1 : VS p q) (h2 : VS r s) (h3 : p * s ≤ r * q) : Meets Tryz.prog 40 [cn false p q r s] [] (.r (.v (.bool true))) [] := by
  have v1 := rValidS_m p q h1
  have v2 := rValidS_m r s h2
  have cC := rCmpS_m p q r s h1 h2
  have hcmp := cmpZ_le h3
  generalize cmpZ (p * s) (r * q) = e at *
  refine fn_of Tryz.func40 rfl (Nat.le_of_ble_eq_true rfl) rfl rfl ?_
  (repeat' (first | refine r_4eabd4 ?_ | (refine is_f 41 ?_; refine r_bb2b31 (v1) ?_) | (refine is_f 41 ?_; refine r_bb2b31 (v2) ?_) | (refine is_f 18 ?_; refine r_bb2b31 (cC) ?_) | (refine r_48b933 (fun hb => ?_) (fun hb => ?_) <;> (try (exfalso; omega))) | (refine awp_cond rfl (fun hb => ?_) (fun hb => ?_) <;> (try simp only [Bool.not_eq_true', Bool.not_eq_false', decide_eq_true_eq, decide_eq_false_iff_not] at hb) <;> (try (exfalso; omega)))))
  all_goals (first | (exfalso; omega) | exact ret1 [] (.bool rfl) rfl rfl rfl)
set_option maxHeartbeats 1000000 in
theorem rContains0_m (u v : Int) (h : VS u v) : Meets Tryz.prog 16 [cn true 0 0 0 0, rt u v] [] (.r (.v (.bool true))) [] := by
  have v1 := rValidS_m u v h
  refine fn_of Tryz.func16 rfl (Nat.le_of_ble_eq_true rfl) rfl rfl ?_
  (repeat' (first | refine r_4eabd4 ?_ | (refine is_f 41 ?_; refine r_bb2b31 (v1) ?_) | (refine is_f 40 ?_; refine r_bb2b31 (rcValid0_m) ?_) | (refine r_48b933 (fun hb => ?_) (fun hb => ?_) <;> (try (exfalso; omega))) | (refine awp_cond rfl (fun hb => ?_) (fun hb => ?_) <;> (try simp only [Bool.not_eq_true', Bool.not_eq_false', decide_eq_true_eq, decide_eq_false_iff_not] at hb) <;> (try (exfalso; omega)))))
  all_goals (first | (exfalso; omega) | exact ret1 [] (.bool rfl) rfl rfl rfl)
set_option maxHeartbeats 2000000 in
theorem rContains_m (p q r s u v : Int) (h1 : VS p q) (h2 : VS r s) (h3 : p * s ≤ r * q) (h : VS u v) : Meets Tryz.prog 16 [cn false p q r s, rt u v] [] (.r (.v (.bool (decide (p * v ≤ u * q ∧ u * s ≤ r * v))))) [] := by
  have v1 := rValidS_m u v h
  have cV := rcValid_m p q r s h1 h2 h3
  have c1 := rCmpS_m p q u v h1 h
  have c2 := rCmpS_m u v r s h h2
  have k1 : ¬ cmpZ (p * v) (u * q) ≤ 0 → false = decide (p * v ≤ u * q ∧ u * s ≤ r * v) := fun hc => (decide_eq_false (fun hh => hc (cmpZ_le hh.1))).symm
  have k2 : ¬ cmpZ (u * s) (r * v) ≤ 0 → false = decide (p * v ≤ u * q ∧ u * s ≤ r * v) := fun hc => (decide_eq_false (fun hh => hc (cmpZ_le hh.2))).symm
  have k3 : cmpZ (p * v) (u * q) ≤ 0 → cmpZ (u * s) (r * v) ≤ 0 → true = decide (p * v ≤ u * q ∧ u * s ≤ r * v) := fun ha hb => by
    refine (decide_eq_true ⟨?_, ?_⟩).symm
    · unfold cmpZ at ha; split at ha <;> (try split at ha) <;> omega
    · unfold cmpZ at hb; split at hb <;> (try split at hb) <;> omega
  generalize decide (p * v ≤ u * q ∧ u * s ≤ r * v) = res at *
  generalize cmpZ (p * v) (u * q) = e1 at *
  generalize cmpZ (u * s) (r * v) = e2 at *
  refine fn_of Tryz.func16 rfl (Nat.le_of_ble_eq_true rfl) rfl rfl ?_
  (repeat' (first | refine r_4eabd4 ?_ | (refine is_f 41 ?_; refine r_bb2b31 (v1) ?_) | (refine is_f 40 ?_; refine r_bb2b31 (cV) ?_) | (refine is_f 18 ?_; refine r_bb2b31 (c1) ?_) | (refine is_f 18 ?_; refine r_bb2b31 (c2) ?_) | (refine r_48b933 (fun hb => ?_) (fun hb => ?_) <;> (try (exfalso; omega))) | (refine awp_cond rfl (fun hb => ?_) (fun hb => ?_) <;> (try simp only [Bool.not_eq_true', Bool.not_eq_false', decide_eq_true_eq, decide_eq_false_iff_not] at hb) <;> (try (exfalso; omega)))))
  all_goals (first | (exfalso; omega) | exact ret1 [] (.bool (k3 (by assumption) (by assumption))) rfl rfl rfl | exact ret1 [] (.bool (k1 (by omega))) rfl rfl rfl | exact ret1 [] (.bool (k2 (by omega))) rfl rfl rfl | (rw [← k1 (by omega)]; exact ret1 [] (.bool rfl) rfl rfl rfl) | (rw [← k2 (by omega)]; exact ret1 [] (.bool rfl) rfl rfl rfl) | (rw [← k3 (by omega) (by omega)]; exact ret1 [] (.bool rfl) rfl rfl rfl))
end Go.Proofs.YtibedaeefnjjlaaGreat
