/- Chapter 12, what is compared: Increasing, Near, Within, Same, Times, Values, Join of the reference. Conditions: lengths, ranges. --ext3 -/
import Derived.Test.YtbndknhljkpijaaDoorTq5
import Derived.Test.YtbndknhljkpijaaDoorGB
namespace Go.Proofs.YtbndknhljkpijaaDoor
open Go.RowKit Go.Ab
set_option maxRecDepth 100000
set_option linter.unusedVariables false
set_option linter.unusedSimpArgs false

/-- Whether times increase strictly. -/
def inc (l : List Int) : Bool := allR (l.length - 1) fun j => decide (l.getD j 0 < l.getD (j + 1) 0)
theorem inc_m (l : List Int) (hl : l.length ≤ 140737488355328) : Meets Tryd.prog 45 [.r (.sl 1 (nums .i64 l))] [] (.r (.v (.bool (inc l)))) [] := by
  refine fn_of Tryd.func45 rfl (Nat.le_of_ble_eq_true rfl) rfl rfl ?_
  have hlen : (nums .i64 l).length = l.length := nums_len .i64 l
  (repeat' (first | refine r_9b4c86 ?_ | (refine r_9d2174 (fun hb => ?_) (fun hb => ?_) <;> (try (exfalso; omega))) | (refine awp_cond rfl (fun hb => ?_) (fun hb => ?_) <;> (try simp only [Bool.not_eq_true', Bool.not_eq_false', decide_eq_true_eq, decide_eq_false_iff_not] at hb) <;> (try (exfalso; omega)))))
  refine awp_loop' (fun k => ⟨[(0, .r (.sl 1 (nums .i64 l))), (3, .r (.v (.int .i64 ((k + 1 : Nat) : Int))))], [], 0⟩) (fun k => (k = 0 ∨ k + 1 ≤ l.length) ∧ ∀ i, i < k → decide (l.getD i 0 < l.getD (i + 1) 0) = true) (fun k => l.length - k) 0 ⟨.inl rfl, fun i h => by omega⟩ (by (refine Le.mk [] [] rfl q_4bd83 q_5650d q_509a2)) fun k hk => ?_
  obtain ⟨hk, hall⟩ := hk
  have hkk : l.getD (k + 1 - 1) 0 = l.getD k 0 := rfl
  rcases Nat.lt_or_ge (k + 1) l.length with h | h
  · by_cases hlt : l.getD k 0 < l.getD (k + 1) 0
    · (repeat' (first | refine r_9b4c86 ?_ | (refine r_9d2174 (fun hb => ?_) (fun hb => ?_) <;> (try (exfalso; omega))) | (refine awp_cond rfl (fun hb => ?_) (fun hb => ?_) <;> (try simp only [Bool.not_eq_true', Bool.not_eq_false', decide_eq_true_eq, decide_eq_false_iff_not] at hb) <;> (try (exfalso; omega)))))
      all_goals exact ⟨k + 1, ⟨.inr (by omega), fun i hi => if h2 : i < k then hall i h2 else (show i = k by omega) ▸ decide_eq_true hlt⟩, by (refine Le.mk [] [] rfl q_4bd83 q_5650d q_509a2), by omega⟩
    · (repeat' (first | refine r_9b4c86 ?_ | (refine r_9d2174 (fun hb => ?_) (fun hb => ?_) <;> (try (exfalso; omega))) | (refine awp_cond rfl (fun hb => ?_) (fun hb => ?_) <;> (try simp only [Bool.not_eq_true', Bool.not_eq_false', decide_eq_true_eq, decide_eq_false_iff_not] at hb) <;> (try (exfalso; omega)))))
      all_goals exact ret1 [] (.bool (allR_false k (by omega) (decide_eq_false hlt))) rfl rfl rfl
  · (repeat' (first | refine r_9b4c86 ?_ | (refine r_9d2174 (fun hb => ?_) (fun hb => ?_) <;> (try (exfalso; omega))) | (refine awp_cond rfl (fun hb => ?_) (fun hb => ?_) <;> (try simp only [Bool.not_eq_true', Bool.not_eq_false', decide_eq_true_eq, decide_eq_false_iff_not] at hb) <;> (try (exfalso; omega)))))
    all_goals exact ret1 [] (.bool (allR_true fun i hi => hall i (by omega))) rfl rfl rfl
def dst (a b : Int) : Int := if a < b then b - a else a - b
theorem dst_sub (a b : Int) (h : I64 a) (h' : I64 b) (hab : a ≤ b) : IntKind.u64.wrap (IntKind.u64.wrap b - IntKind.u64.wrap a) = b - a := by
  unfold I64 at h h'
  rw [u64w, u64w, u64w]; omega
theorem refDist_m (a b : Int) (ha : I64 a) (hb0 : I64 b) : Meets Tryd.prog 59 [.r (.v (.int .i64 a)), .r (.v (.int .i64 b))] [] (.r (.v (.int .u64 (dst a b)))) [] := by
  refine fn_of Tryd.func59 rfl (Nat.le_of_ble_eq_true rfl) rfl rfl ?_
  by_cases h : a < b
  · have h1 := dst_sub a b ha hb0 (by omega)
    have h2 : b - a = dst a b := (if_pos h).symm
    (repeat' (first | refine r_9b4c86 ?_ | (refine r_9d2174 (fun hb => ?_) (fun hb => ?_) <;> (try (exfalso; omega))) | (refine awp_cond rfl (fun hb => ?_) (fun hb => ?_) <;> (try simp only [Bool.not_eq_true', Bool.not_eq_false', decide_eq_true_eq, decide_eq_false_iff_not] at hb) <;> (try (exfalso; omega)))))
    all_goals exact ret1 [] (.int h2) rfl rfl rfl
  · have h1 := dst_sub b a hb0 ha (by omega)
    have h2 : a - b = dst a b := (if_neg h).symm
    (repeat' (first | refine r_9b4c86 ?_ | (refine r_9d2174 (fun hb => ?_) (fun hb => ?_) <;> (try (exfalso; omega))) | (refine awp_cond rfl (fun hb => ?_) (fun hb => ?_) <;> (try simp only [Bool.not_eq_true', Bool.not_eq_false', decide_eq_true_eq, decide_eq_false_iff_not] at hb) <;> (try (exfalso; omega)))))
    all_goals exact ret1 [] (.int h2) rfl rfl rfl
theorem dist_m (a b : Int) (ha : I64 a) (hb0 : I64 b) : Meets Tryd.prog 19 [.r (.v (.int .i64 a)), .r (.v (.int .i64 b))] [] (.r (.v (.int .u64 (dst a b)))) [] := by
  refine fn_of Tryd.func19 rfl (Nat.le_of_ble_eq_true rfl) rfl rfl ?_
  by_cases h : a < b
  · have h1 := dst_sub a b ha hb0 (by omega)
    have h2 : b - a = dst a b := (if_pos h).symm
    (repeat' (first | refine r_9b4c86 ?_ | (refine r_9d2174 (fun hb => ?_) (fun hb => ?_) <;> (try (exfalso; omega))) | (refine awp_cond rfl (fun hb => ?_) (fun hb => ?_) <;> (try simp only [Bool.not_eq_true', Bool.not_eq_false', decide_eq_true_eq, decide_eq_false_iff_not] at hb) <;> (try (exfalso; omega)))))
    all_goals exact ret1 [] (.int h2) rfl rfl rfl
  · have h1 := dst_sub b a hb0 ha (by omega)
    have hmin : (if b < a then b else a) = b := by split <;> omega
    have h2 : a - b = dst a b := (if_neg h).symm
    (repeat' (first | refine r_9b4c86 ?_ | (refine r_9d2174 (fun hb => ?_) (fun hb => ?_) <;> (try (exfalso; omega))) | (refine awp_cond rfl (fun hb => ?_) (fun hb => ?_) <;> (try simp only [Bool.not_eq_true', Bool.not_eq_false', decide_eq_true_eq, decide_eq_false_iff_not] at hb) <;> (try (exfalso; omega)))))
    all_goals exact ret1 [] (.int h2) rfl rfl rfl
def near (a b eps : Int) : Bool := decide (0 ≤ eps ∧ dst a b ≤ eps)
theorem dst_range (a b : Int) (ha : I64 a) (hb : I64 b) : 0 ≤ dst a b ∧ dst a b < 18446744073709551616 := by unfold dst I64 at *; split <;> omega
theorem refNear_m (a b eps : Int) (ha : I64 a) (hb0 : I64 b) (he : I64 eps) : Meets Tryd.prog 44 [.r (.v (.int .i64 a)), .r (.v (.int .i64 b)), .r (.v (.int .i64 eps))] [] (.r (.v (.bool (near a b eps)))) [] := by
  refine fn_of Tryd.func44 rfl (Nat.le_of_ble_eq_true rfl) rfl rfl ?_
  have hd := dst_range a b ha hb0
  have he2 : -9223372036854775808 ≤ eps ∧ eps < 9223372036854775808 := he
  by_cases h0 : 0 ≤ eps
  · by_cases h : dst a b ≤ eps
    · have hr : true = near a b eps := (decide_eq_true ⟨h0, h⟩).symm
      (repeat' (first | refine r_9b4c86 ?_ | (refine is_f 59 ?_; refine r_74a3b0 (refDist_m a b ha hb0) ?_) | (refine r_9d2174 (fun hb => ?_) (fun hb => ?_) <;> (try (exfalso; omega))) | (refine awp_cond rfl (fun hb => ?_) (fun hb => ?_) <;> (try simp only [Bool.not_eq_true', Bool.not_eq_false', decide_eq_true_eq, decide_eq_false_iff_not] at hb) <;> (try (exfalso; omega)))))
      all_goals exact ret1 [] (.bool hr) rfl rfl rfl
    · have hr : false = near a b eps := (decide_eq_false fun e => h e.2).symm
      (repeat' (first | refine r_9b4c86 ?_ | (refine is_f 59 ?_; refine r_74a3b0 (refDist_m a b ha hb0) ?_) | (refine r_9d2174 (fun hb => ?_) (fun hb => ?_) <;> (try (exfalso; omega))) | (refine awp_cond rfl (fun hb => ?_) (fun hb => ?_) <;> (try simp only [Bool.not_eq_true', Bool.not_eq_false', decide_eq_true_eq, decide_eq_false_iff_not] at hb) <;> (try (exfalso; omega)))))
      all_goals exact ret1 [] (.bool hr) rfl rfl rfl
  · have hr : false = near a b eps := (decide_eq_false fun e => h0 e.1).symm
    (repeat' (first | refine r_9b4c86 ?_ | (refine is_f 59 ?_; refine r_74a3b0 (refDist_m a b ha hb0) ?_) | (refine r_9d2174 (fun hb => ?_) (fun hb => ?_) <;> (try (exfalso; omega))) | (refine awp_cond rfl (fun hb => ?_) (fun hb => ?_) <;> (try simp only [Bool.not_eq_true', Bool.not_eq_false', decide_eq_true_eq, decide_eq_false_iff_not] at hb) <;> (try (exfalso; omega)))))
    all_goals exact ret1 [] (.bool hr) rfl rfl rfl
end Go.Proofs.YtbndknhljkpijaaDoor
