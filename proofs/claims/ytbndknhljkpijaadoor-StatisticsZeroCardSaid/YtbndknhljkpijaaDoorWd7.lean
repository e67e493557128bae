/- The reference's whole numbers that are not negative: Valid, clean, Of, OfUnsigned, Sign, Compare, Mul. Conditions: ranges. --ext6 -/
import Derived.Test.YtbndknhljkpijaaDoorWd6
namespace Go.Proofs.YtbndknhljkpijaaDoor
open Go.RowKit Go.Ab Go.Wd
set_option maxRecDepth 100000
set_option linter.unusedVariables false
set_option linter.unusedSimpArgs false

theorem refValid_m (n : Nat) (hn : n < B64 ^ 4) : Meets Tryd.prog 40 [wd false n] [] (.r (.v (.bool true))) [] := by
  refine fn_of Tryd.func40 rfl (Nat.le_of_ble_eq_true rfl) rfl rfl ?_
  (repeat' (first | refine r_4eabd4 ?_ | (refine r_48b933 (fun hb => ?_) (fun hb => ?_) <;> (try (exfalso; omega))) | (refine awp_cond rfl (fun hb => ?_) (fun hb => ?_) <;> (try simp only [Bool.not_eq_true', Bool.not_eq_false', decide_eq_true_eq, decide_eq_false_iff_not] at hb) <;> (try (exfalso; omega)))))
  all_goals exact ret1 [] (.bool rfl) rfl rfl rfl
theorem refClean_m (n : Nat) (hn : n < B64 ^ 4) : Meets Tryd.prog 24 [wd false n] [] (wd false n) [] := by
  refine fn_of Tryd.func24 rfl (Nat.le_of_ble_eq_true rfl) rfl rfl ?_
  (repeat' (first | refine r_4eabd4 ?_ | (refine is_f 40 ?_; refine r_bb2b31 (refValid_m n hn) ?_) | (refine r_48b933 (fun hb => ?_) (fun hb => ?_) <;> (try (exfalso; omega))) | (refine awp_cond rfl (fun hb => ?_) (fun hb => ?_) <;> (try simp only [Bool.not_eq_true', Bool.not_eq_false', decide_eq_true_eq, decide_eq_false_iff_not] at hb) <;> (try (exfalso; omega)))))
  all_goals exact ret1c [] (Rt.wd false n) rfl rfl rfl rfl (post_none rfl) rfl
theorem refOf_m (n : Nat) (hn : n < 9223372036854775808) : Meets Tryd.prog 10 [.r (.v (.int .i64 (n : Int)))] [] (wd false n) [] := by
  refine fn_of Tryd.func10 rfl (Nat.le_of_ble_eq_true rfl) rfl rfl ?_
  have h0 : IntKind.u64.wrap (n : Int) = ((n % B64 : Nat) : Int) := by rw [IntKind.wrap_u64]; unfold B64; omega
  have h1 : n / B64 = 0 := by unfold B64; omega
  have h2 : wd false n = .ag [.r (.v (.bool false)), .r (.v (.int .u64 ((n % B64 : Nat) : Int))), .r (.v (.int .u64 0)), .r (.v (.int .u64 0)), .r (.v (.int .u64 0))] := by
    unfold wd; rw [h1]; rfl
  (repeat' (first | refine r_4eabd4 ?_ | (refine r_48b933 (fun hb => ?_) (fun hb => ?_) <;> (try (exfalso; omega))) | (refine awp_cond rfl (fun hb => ?_) (fun hb => ?_) <;> (try simp only [Bool.not_eq_true', Bool.not_eq_false', decide_eq_true_eq, decide_eq_false_iff_not] at hb) <;> (try (exfalso; omega)))))
  all_goals (first | (exfalso; omega) | (rw [h2]; exact ret1c [] (.ag _ _ _ (Rt.agR [.v (.bool false), .v (.int .u64 ((n % B64 : Nat) : Int)), .v (.int .u64 0), .v (.int .u64 0), .v (.int .u64 0)])) rfl rfl rfl rfl (post_none rfl) rfl))
def sgN (n : Nat) : Int := if n = 0 then 0 else 1
theorem refSign_m (n : Nat) (hn : n < B64 ^ 4) : Meets Tryd.prog 11 [wd false n] [] (.r (.v (.int .i64 (sgN n)))) [] := by
  refine fn_of Tryd.func11 rfl (Nat.le_of_ble_eq_true rfl) rfl rfl ?_
  have hl := wns_len (tw n)
  have c0 : (wns (tw n)).length = 0 → (0 : Int) = sgN n := fun h => by
    have : n = 0 := by
      rcases Nat.eq_zero_or_pos n with h' | h'
      · exact h'
      · rw [hl, tw_pos (by omega)] at h; simp at h
    unfold sgN; rw [if_pos this]
  have c1 : (wns (tw n)).length ≠ 0 → (1 : Int) = sgN n := fun h => by
    have : n ≠ 0 := by
      intro e; subst e; rw [tw_zero] at h; exact h rfl
    unfold sgN; rw [if_neg this]
  (repeat' (first | refine r_4eabd4 ?_ | (refine is_f 27 ?_; refine r_bb2b31 (of_m false n hn) ?_) | (refine r_48b933 (fun hb => ?_) (fun hb => ?_) <;> (try (exfalso; omega))) | (refine awp_cond rfl (fun hb => ?_) (fun hb => ?_) <;> (try simp only [Bool.not_eq_true', Bool.not_eq_false', decide_eq_true_eq, decide_eq_false_iff_not] at hb) <;> (try (exfalso; omega)))))
  all_goals (first | exact ret1 [] (.int (c0 (by omega))) rfl rfl rfl | exact ret1 [] (.int (c1 (by omega))) rfl rfl rfl)
theorem refCompare_m (m n : Nat) (hm : m < B64 ^ 4) (hn : n < B64 ^ 4) : Meets Tryd.prog 13 [wd false m, wd false n] [] (.r (.v (.int .i64 (cmpN m n)))) [] := by
  refine fn_of Tryd.func13 rfl (Nat.le_of_ble_eq_true rfl) rfl rfl ?_
  have lm := tw_len 4 m hm
  have ln := tw_len 4 n hn
  have cS := refSign_m m hm
  have cT := refSign_m n hn
  have cC := compare_m m n (by omega) (by omega)
  have hr : IntKind.i64.wrap (1 * cmpN m n) = cmpN m n ∧ (m = 0 → n = 0 → IntKind.i64.wrap (0 * cmpN m n) = cmpN m n) := by
    unfold cmpN
    refine ⟨?_, fun h1 h2 => ?_⟩
    · split
      · rfl
      · split <;> rfl
    · subst h1 h2; rfl
  obtain ⟨hr1, hr2⟩ := hr
  have hlt : m < n → (-1 : Int) = cmpN m n := fun h => by unfold cmpN; rw [if_pos h]
  have hgt : n < m → (1 : Int) = cmpN m n := fun h => by unfold cmpN; rw [if_neg (by omega), if_pos h]
  unfold sgN at cS cT
  by_cases h1 : m = 0 <;> by_cases h2 : n = 0
  · have hr2 := hr2 h1 h2
    rw [if_pos h1] at cS
    rw [if_pos h2] at cT
    (repeat' (first | refine r_4eabd4 ?_ | (refine is_f 11 ?_; refine r_bb2b31 (cS) ?_) | (refine is_f 11 ?_; refine r_bb2b31 (cT) ?_) | (refine is_f 27 ?_; refine r_bb2b31 (of_m false m hm) ?_) | (refine is_f 27 ?_; refine r_bb2b31 (of_m false n hn) ?_) | (refine is_f 29 ?_; refine r_bb2b31 (cC) ?_) | (refine r_48b933 (fun hb => ?_) (fun hb => ?_) <;> (try (exfalso; omega))) | (refine awp_cond rfl (fun hb => ?_) (fun hb => ?_) <;> (try simp only [Bool.not_eq_true', Bool.not_eq_false', decide_eq_true_eq, decide_eq_false_iff_not] at hb) <;> (try (exfalso; omega)))))
    all_goals (first | (exfalso; omega) | exact ret1 [] (.int rfl) rfl rfl rfl)
  · rw [if_pos h1] at cS
    rw [if_neg h2] at cT
    (repeat' (first | refine r_4eabd4 ?_ | (refine is_f 11 ?_; refine r_bb2b31 (cS) ?_) | (refine is_f 11 ?_; refine r_bb2b31 (cT) ?_) | (refine is_f 27 ?_; refine r_bb2b31 (of_m false m hm) ?_) | (refine is_f 27 ?_; refine r_bb2b31 (of_m false n hn) ?_) | (refine is_f 29 ?_; refine r_bb2b31 (cC) ?_) | (refine r_48b933 (fun hb => ?_) (fun hb => ?_) <;> (try (exfalso; omega))) | (refine awp_cond rfl (fun hb => ?_) (fun hb => ?_) <;> (try simp only [Bool.not_eq_true', Bool.not_eq_false', decide_eq_true_eq, decide_eq_false_iff_not] at hb) <;> (try (exfalso; omega)))))
    all_goals (first | (exfalso; omega) | exact ret1 [] (.int (hlt (by omega))) rfl rfl rfl)
  · rw [if_neg h1] at cS
    rw [if_pos h2] at cT
    (repeat' (first | refine r_4eabd4 ?_ | (refine is_f 11 ?_; refine r_bb2b31 (cS) ?_) | (refine is_f 11 ?_; refine r_bb2b31 (cT) ?_) | (refine is_f 27 ?_; refine r_bb2b31 (of_m false m hm) ?_) | (refine is_f 27 ?_; refine r_bb2b31 (of_m false n hn) ?_) | (refine is_f 29 ?_; refine r_bb2b31 (cC) ?_) | (refine r_48b933 (fun hb => ?_) (fun hb => ?_) <;> (try (exfalso; omega))) | (refine awp_cond rfl (fun hb => ?_) (fun hb => ?_) <;> (try simp only [Bool.not_eq_true', Bool.not_eq_false', decide_eq_true_eq, decide_eq_false_iff_not] at hb) <;> (try (exfalso; omega)))))
    all_goals (first | (exfalso; omega) | exact ret1 [] (.int (hgt (by omega))) rfl rfl rfl)
  · rw [if_neg h1] at cS
    rw [if_neg h2] at cT
    (repeat' (first | refine r_4eabd4 ?_ | (refine is_f 11 ?_; refine r_bb2b31 (cS) ?_) | (refine is_f 11 ?_; refine r_bb2b31 (cT) ?_) | (refine is_f 27 ?_; refine r_bb2b31 (of_m false m hm) ?_) | (refine is_f 27 ?_; refine r_bb2b31 (of_m false n hn) ?_) | (refine is_f 29 ?_; refine r_bb2b31 (cC) ?_) | (refine r_48b933 (fun hb => ?_) (fun hb => ?_) <;> (try (exfalso; omega))) | (refine awp_cond rfl (fun hb => ?_) (fun hb => ?_) <;> (try simp only [Bool.not_eq_true', Bool.not_eq_false', decide_eq_true_eq, decide_eq_false_iff_not] at hb) <;> (try (exfalso; omega)))))
    all_goals (first | (exfalso; omega) | exact ret1 [] (.int rfl) rfl rfl rfl)
theorem refMul_m (m n : Nat) (hm : m < B64 ^ 4) (hn : n < B64 ^ 4) (hmn : m * n < B64 ^ 4) : Meets Tryd.prog 9 [wd false m, wd false n] [] (.tu [wd false (m * n), .r (.v (.bool true))]) [] := by
  refine fn_of Tryd.func9 rfl (Nat.le_of_ble_eq_true rfl) rfl rfl ?_
  have lm := tw_len 4 m hm
  have ln := tw_len 4 n hn
  have cM := refMulL_m (tw m) (tw n) (tw_wds m) (tw_wds n) (by omega) (by omega)
  rw [val_tw, val_tw] at cM
  have cW := wide_m false (m * n) hmn
  rw [Bool.false_and] at cW
  (repeat' (first | refine r_4eabd4 ?_ | (refine is_f 24 ?_; refine r_bb2b31 (refClean_m m hm) ?_) | (refine is_f 24 ?_; refine r_bb2b31 (refClean_m n hn) ?_) | (refine is_f 27 ?_; refine r_bb2b31 (of_m false m hm) ?_) | (refine is_f 27 ?_; refine r_bb2b31 (of_m false n hn) ?_) | (refine is_f 26 ?_; refine r_bb2b31 (cM) ?_) | (refine is_f 25 ?_; refine r_bb2b31 (cW) ?_) | (refine r_48b933 (fun hb => ?_) (fun hb => ?_) <;> (try (exfalso; omega))) | (refine awp_cond rfl (fun hb => ?_) (fun hb => ?_) <;> (try simp only [Bool.not_eq_true', Bool.not_eq_false', decide_eq_true_eq, decide_eq_false_iff_not] at hb) <;> (try (exfalso; omega)))))
  all_goals exact ret2c [] (Rt.wd false (m * n)) (.bool rfl) rfl rfl rfl rfl rfl (post_none rfl) rfl
end Go.Proofs.YtbndknhljkpijaaDoor
