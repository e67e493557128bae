/- Chapter 33: check, Compare. Conditions: lengths, ranges. --ext6 -/
import Derived.Test.YtbndknhljkpijaaDoorWd10
import Derived.Test.YtbndknhljkpijaaDoorTq9
namespace Go.Proofs.YtbndknhljkpijaaDoor
open Go.RowKit Go.Ab Go.Wd
set_option maxRecDepth 100000
set_option linter.unusedVariables false
set_option linter.unusedSimpArgs false

/-- The first error of two sequences. -/
def chkE (a b : List (Int × Int)) : Int := if chkS a = 0 then (if a.length = b.length then (if allR a.length (fun i => decide ((a.getD i (0, 0)).1 = (b.getD i (0, 0)).1)) = true then 0 else 7) else 10) else chkS a
def ckS (a b : List (Int × Int)) (i : Nat) : St := ⟨[(0, .r (.sl 2 (smps a))), (1, .r (.sl 2 (smps b))), (18, .r (.v (.int .i64 (a.length : Int)))), (19, .r (.v (.int .i64 (i : Int))))], [], 0⟩
theorem check33_m (a b : List (Int × Int)) (ha : a.length ≤ 1000000) (hb0 : b.length ≤ 1000000) : Meets Tryd.prog 18 [.r (.sl 2 (smps a)), .r (.sl 2 (smps b))] [] (.r (.v (.int .i64 (chkE a b)))) [] := by
  refine fn_of Tryd.func18 rfl (Nat.le_of_ble_eq_true rfl) rfl rfl ?_
  have cC := check12_m a (by omega)
  have l1 := smps_len a
  have l2 := smps_len b
  by_cases hc : chkS a = 0
  · rw [hc] at cC
    by_cases hl : a.length = b.length
    · have e0 : chkE a b = if allR a.length (fun i => decide ((a.getD i (0, 0)).1 = (b.getD i (0, 0)).1)) = true then 0 else 7 := by unfold chkE; rw [if_pos hc, if_pos hl]
      rw [e0]
      (repeat' (first | refine r_4eabd4 ?_ | (refine is_f 32 ?_; refine r_bb2b31 (cC) ?_) | (refine r_48b933 (fun hb => ?_) (fun hb => ?_) <;> (try (exfalso; omega))) | (refine awp_cond rfl (fun hb => ?_) (fun hb => ?_) <;> (try simp only [Bool.not_eq_true', Bool.not_eq_false', decide_eq_true_eq, decide_eq_false_iff_not] at hb) <;> (try (exfalso; omega)))))
      all_goals (first | (exfalso; omega) | skip)
      refine awp_loop' (ckS a b) (fun i => i ≤ a.length ∧ ∀ j, j < i → (a.getD j (0, 0)).1 = (b.getD j (0, 0)).1) (fun i => a.length - i) 0 ⟨Nat.zero_le _, fun j hj => absurd hj (Nat.not_lt_zero _)⟩ (by (refine Le.mk [] [] q_5ec36 q_43730 q_16bb5 q_509a2)) fun i hi => ?_
      obtain ⟨hi1, hi2⟩ := hi
      rcases Nat.lt_or_ge i a.length with hi | hi
      · have ga := smps_get (l := a) hi
        have gb := smps_get (l := b) (j := i) (by omega)
        have hn := nat_incI i (by omega)
        by_cases he : (a.getD i (0, 0)).1 = (b.getD i (0, 0)).1
        · (repeat' (first | refine r_4eabd4 ?_ | (refine r_48b933 (fun hb => ?_) (fun hb => ?_) <;> (try (exfalso; omega))) | (refine awp_cond rfl (fun hb => ?_) (fun hb => ?_) <;> (try simp only [Bool.not_eq_true', Bool.not_eq_false', decide_eq_true_eq, decide_eq_false_iff_not] at hb) <;> (try (exfalso; omega)))))
          all_goals (first | (exfalso; omega) | exact ⟨i + 1, ⟨hi, fun j hj => by
            rcases Nat.lt_or_ge j i with h | h
            · exact hi2 j h
            · rw [show j = i by omega]; exact he⟩, by show Le _ _ (ckS a b (i + 1)); (refine Le.mk [] [] q_5ec36 q_43730 q_16bb5 q_509a2), by show a.length - (i + 1) < a.length - i; omega⟩)
        · have hf : allR a.length (fun i => decide ((a.getD i (0, 0)).1 = (b.getD i (0, 0)).1)) = false := (allR_false i hi (decide_eq_false he)).symm
          rw [hf]
          (repeat' (first | refine r_4eabd4 ?_ | (refine r_48b933 (fun hb => ?_) (fun hb => ?_) <;> (try (exfalso; omega))) | (refine awp_cond rfl (fun hb => ?_) (fun hb => ?_) <;> (try simp only [Bool.not_eq_true', Bool.not_eq_false', decide_eq_true_eq, decide_eq_false_iff_not] at hb) <;> (try (exfalso; omega)))))
          all_goals (first | (exfalso; omega) | exact ret1 [] (.int rfl) rfl rfl rfl)
      · have ht : allR a.length (fun i => decide ((a.getD i (0, 0)).1 = (b.getD i (0, 0)).1)) = true := (allR_true fun j hj => decide_eq_true (hi2 j (by omega))).symm
        rw [ht]
        (repeat' (first | refine r_4eabd4 ?_ | (refine r_48b933 (fun hb => ?_) (fun hb => ?_) <;> (try (exfalso; omega))) | (refine awp_cond rfl (fun hb => ?_) (fun hb => ?_) <;> (try simp only [Bool.not_eq_true', Bool.not_eq_false', decide_eq_true_eq, decide_eq_false_iff_not] at hb) <;> (try (exfalso; omega)))))
        all_goals (first | (exfalso; omega) | exact ret1 [] (.int rfl) rfl rfl rfl)
    · have e0 : (10 : Int) = chkE a b := by unfold chkE; rw [if_pos hc, if_neg hl]
      (repeat' (first | refine r_4eabd4 ?_ | (refine is_f 32 ?_; refine r_bb2b31 (cC) ?_) | (refine r_48b933 (fun hb => ?_) (fun hb => ?_) <;> (try (exfalso; omega))) | (refine awp_cond rfl (fun hb => ?_) (fun hb => ?_) <;> (try simp only [Bool.not_eq_true', Bool.not_eq_false', decide_eq_true_eq, decide_eq_false_iff_not] at hb) <;> (try (exfalso; omega)))))
      all_goals (first | (exfalso; omega) | exact ret1 [] (.int e0) rfl rfl rfl)
  · have e0 : chkS a = chkE a b := by unfold chkE; rw [if_neg hc]
    (repeat' (first | refine r_4eabd4 ?_ | (refine is_f 32 ?_; refine r_bb2b31 (cC) ?_) | (refine r_48b933 (fun hb => ?_) (fun hb => ?_) <;> (try (exfalso; omega))) | (refine awp_cond rfl (fun hb => ?_) (fun hb => ?_) <;> (try simp only [Bool.not_eq_true', Bool.not_eq_false', decide_eq_true_eq, decide_eq_false_iff_not] at hb) <;> (try (exfalso; omega)))))
    all_goals (first | (exfalso; omega) | exact ret1 [] (.int e0) rfl rfl rfl)
end Go.Proofs.YtbndknhljkpijaaDoor
