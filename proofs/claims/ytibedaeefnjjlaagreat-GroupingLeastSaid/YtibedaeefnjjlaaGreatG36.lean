/- Texts of the second layer in one: Rr2. -/
import Derived.Test.YtibedaeefnjjlaaGreatG35
import Derived.Test.YtibedaeefnjjlaaGreatG24
/- The reference's fractions of one word: Valid, clean, Compare, Of. Conditions: ranges. --ext6 -/
namespace Go.Proofs.YtibedaeefnjjlaaGreat
open Go.RowKit Go.Ab Go.Wd
set_option maxRecDepth 100000
set_option linter.unusedVariables false
set_option linter.unusedSimpArgs false

/-- A valid fraction of one word. -/
def VS (p q : Int) : Prop := VR p q ∧ p.natAbs < B64 ∧ q.natAbs < B64
theorem rSmallZ_m (z : Int) (hz : W4 z) : Meets Tryz.prog 77 [wz z] [] (.r (.v (.bool (decide (z.natAbs < N127))))) [] := rSmallW_m _ _ hz
set_option maxHeartbeats 4000000 in
theorem rValidS_m (p q : Int) (h : VS p q) : Meets Tryz.prog 41 [rt p q] [] (.r (.v (.bool true))) [] := by
  obtain ⟨hv, hp, hq⟩ := h
  have v1 := validRZ_m p hv.w4n
  have v2 := validRZ_m q hv.w4d
  have cS := rSign_m q hv.w4d
  have s1 := rSmallZ_m p hv.w4n
  have s2 := rSmallZ_m q hv.w4d
  have cA := rAbs_m p hv.w4n
  have cO := rOne_m
  have h0 := hv.1
  have hqn : ((q.natAbs : Nat) : Int) = q := by omega
  have cG := rGcdS_m p.natAbs q.natAbs hp hq
  rw [hv.2.2.2, hqn] at cG
  rw [decide_eq_true hv.2.1] at s1
  rw [decide_eq_true hv.2.2.1] at s2
  have hsg : sgZ q = 1 := by unfold sgZ; rw [if_neg (by omega), if_neg (by omega)]
  rw [hsg] at cS
  have h1w := wone
  refine fn_of Tryz.func41 rfl (Nat.le_of_ble_eq_true rfl) rfl rfl ?_
  (repeat' (first | (refine is_bin ?_; refine is_b_eql ?_; refine w_read rfl q_85eb5 (p_eqwz h1w h1w (decide_eq_true rfl) rfl rfl) ?_) | refine r_4eabd4 ?_ | (refine is_f 45 ?_; refine r_bb2b31 (v1) ?_) | (refine is_f 45 ?_; refine r_bb2b31 (v2) ?_) | (refine is_f 46 ?_; refine r_bb2b31 (cS) ?_) | (refine is_f 77 ?_; refine r_bb2b31 (s1) ?_) | (refine is_f 77 ?_; refine r_bb2b31 (s2) ?_) | (refine is_f 48 ?_; refine r_bb2b31 (cA) ?_) | (refine is_f 47 ?_; refine r_bb2b31 (cG) ?_) | (refine is_f 60 ?_; refine r_bb2b31 (cO) ?_) | (refine r_48b933 (fun hb => ?_) (fun hb => ?_) <;> (try (exfalso; omega))) | (refine awp_cond rfl (fun hb => ?_) (fun hb => ?_) <;> (try simp only [Bool.not_eq_true', Bool.not_eq_false', decide_eq_true_eq, decide_eq_false_iff_not] at hb) <;> (try (exfalso; omega)))))
  all_goals (first | (exfalso; omega) | exact ret1 [] (.bool rfl) rfl rfl rfl)
theorem rCleanS_m (p q : Int) (h : VS p q) : Meets Tryz.prog 42 [rt p q] [] (rt p q) [] := by
  have cV := rValidS_m p q h
  refine fn_of Tryz.func42 rfl (Nat.le_of_ble_eq_true rfl) rfl rfl ?_
  (repeat' (first | refine r_4eabd4 ?_ | (refine is_f 41 ?_; refine r_bb2b31 (cV) ?_) | (refine r_48b933 (fun hb => ?_) (fun hb => ?_) <;> (try (exfalso; omega))) | (refine awp_cond rfl (fun hb => ?_) (fun hb => ?_) <;> (try simp only [Bool.not_eq_true', Bool.not_eq_false', decide_eq_true_eq, decide_eq_false_iff_not] at hb) <;> (try (exfalso; omega)))))
  all_goals exact ret1c [] (Rt.rt p q) rfl rfl rfl rfl (post_none rfl) rfl
set_option maxHeartbeats 4000000 in
theorem rCmpS_m (p q r s : Int) (h1 : VS p q) (h2 : VS r s) : Meets Tryz.prog 18 [rt p q, rt r s] [] (.r (.v (.int .i64 (cmpZ (p * s) (r * q))))) [] := by
  have c1 := rCleanS_m p q h1
  have c2 := rCleanS_m r s h2
  have m1 := rMul_m p s h1.1.w4n h2.1.w4d (mul_w4 h1.1.2.1 h2.1.2.2.1)
  have m2 := rMul_m r q h2.1.w4n h1.1.w4d (mul_w4 h2.1.2.1 h1.1.2.2.1)
  have cC := rCompare_m (p * s) (r * q) (mul_w4 h1.1.2.1 h2.1.2.2.1) (mul_w4 h2.1.2.1 h1.1.2.2.1)
  generalize p * s = x at *
  generalize r * q = y at *
  refine fn_of Tryz.func18 rfl (Nat.le_of_ble_eq_true rfl) rfl rfl ?_
  (repeat' (first | refine r_4eabd4 ?_ | (refine is_f 42 ?_; refine r_bb2b31 (c1) ?_) | (refine is_f 42 ?_; refine r_bb2b31 (c2) ?_) | (refine is_f 43 ?_; refine r_bb2b31 (m1) ?_) | (refine is_f 43 ?_; refine r_bb2b31 (m2) ?_) | (refine is_f 44 ?_; refine r_bb2b31 (cC) ?_) | (refine r_48b933 (fun hb => ?_) (fun hb => ?_) <;> (try (exfalso; omega))) | (refine awp_cond rfl (fun hb => ?_) (fun hb => ?_) <;> (try simp only [Bool.not_eq_true', Bool.not_eq_false', decide_eq_true_eq, decide_eq_false_iff_not] at hb) <;> (try (exfalso; omega)))))
  all_goals exact ret1 [] (.int rfl) rfl rfl rfl
theorem rOfQ_m (v : Int) (hv : I64 v) : Meets Tryz.prog 31 [.r (.v (.int .i64 v))] [] (rt v 1) [] := by
  have c1 := rOf_m v hv
  refine fn_of Tryz.func31 rfl (Nat.le_of_ble_eq_true rfl) rfl rfl ?_
  (repeat' (first | refine r_4eabd4 ?_ | (refine is_f 21 ?_; refine r_bb2b31 (c1) ?_) | (refine is_f 60 ?_; refine r_bb2b31 (rOne_m) ?_) | (refine r_48b933 (fun hb => ?_) (fun hb => ?_) <;> (try (exfalso; omega))) | (refine awp_cond rfl (fun hb => ?_) (fun hb => ?_) <;> (try simp only [Bool.not_eq_true', Bool.not_eq_false', decide_eq_true_eq, decide_eq_false_iff_not] at hb) <;> (try (exfalso; omega)))))
  all_goals exact ret1c [] (Rt.rt v 1) rfl rfl rfl rfl (post_none rfl) rfl
end Go.Proofs.YtibedaeefnjjlaaGreat
