/- The program's whole numbers that are not negative: Valid, clean, signed, OfUnsigned, Add, Mul; plus. Conditions: ranges. --ext6 -/
import Derived.Test.YtbndknhljkpijaaDoorWd9
namespace Go.Proofs.YtbndknhljkpijaaDoor
open Go.RowKit Go.Ab Go.Wd
set_option maxRecDepth 100000
set_option linter.unusedVariables false
set_option linter.unusedSimpArgs false

theorem wValid_m (n : Nat) (hn : n < B64 ^ 4) : Meets Tryd.prog 47 [wd false n] [] (.r (.v (.bool true))) [] := by
  refine fn_of Tryd.func47 rfl (Nat.le_of_ble_eq_true rfl) rfl rfl ?_
  (repeat' (first | refine r_4eabd4 ?_ | (refine r_48b933 (fun hb => ?_) (fun hb => ?_) <;> (try (exfalso; omega))) | (refine awp_cond rfl (fun hb => ?_) (fun hb => ?_) <;> (try simp only [Bool.not_eq_true', Bool.not_eq_false', decide_eq_true_eq, decide_eq_false_iff_not] at hb) <;> (try (exfalso; omega)))))
  all_goals exact ret1 [] (.bool rfl) rfl rfl rfl
theorem wClean_m (n : Nat) (hn : n < B64 ^ 4) : Meets Tryd.prog 33 [wd false n] [] (wd false n) [] := by
  refine fn_of Tryd.func33 rfl (Nat.le_of_ble_eq_true rfl) rfl rfl ?_
  (repeat' (first | refine r_4eabd4 ?_ | (refine is_f 47 ?_; refine r_bb2b31 (wValid_m n hn) ?_) | (refine r_48b933 (fun hb => ?_) (fun hb => ?_) <;> (try (exfalso; omega))) | (refine awp_cond rfl (fun hb => ?_) (fun hb => ?_) <;> (try simp only [Bool.not_eq_true', Bool.not_eq_false', decide_eq_true_eq, decide_eq_false_iff_not] at hb) <;> (try (exfalso; omega)))))
  all_goals exact ret1c [] (Rt.wd false n) rfl rfl rfl rfl (post_none rfl) rfl
theorem wSigned_m (n : Nat) (hn : n < B64 ^ 4) : Meets Tryd.prog 35 [.r (.v (.bool false)), w4 n] [] (wd false n) [] := by
  refine fn_of Tryd.func35 rfl (Nat.le_of_ble_eq_true rfl) rfl rfl ?_
  (repeat' (first | refine r_4eabd4 ?_ | (refine is_f 33 ?_; refine r_bb2b31 (wClean_m n hn) ?_) | (refine r_48b933 (fun hb => ?_) (fun hb => ?_) <;> (try (exfalso; omega))) | (refine awp_cond rfl (fun hb => ?_) (fun hb => ?_) <;> (try simp only [Bool.not_eq_true', Bool.not_eq_false', decide_eq_true_eq, decide_eq_false_iff_not] at hb) <;> (try (exfalso; omega)))))
  all_goals exact ret1c [] (Rt.wd false n) rfl rfl rfl rfl (post_none rfl) rfl
theorem wOfU_m (n : Nat) (hn : n < B64) : Meets Tryd.prog 20 [.r (.v (.int .u64 (n : Int)))] [] (wd false n) [] := by
  have h1 : n / B64 = 0 := by unfold B64 at *; omega
  have h0 : n % B64 = n := Nat.mod_eq_of_lt hn
  have h2 : wd false n = .ag [.r (.v (.bool false)), .r (.v (.int .u64 (n : Int))), .r (.v (.int .u64 0)), .r (.v (.int .u64 0)), .r (.v (.int .u64 0))] := by
    unfold wd; rw [h1, h0]; rfl
  rw [h2]
  refine fn_of Tryd.func20 rfl (Nat.le_of_ble_eq_true rfl) rfl rfl ?_
  (repeat' (first | refine r_4eabd4 ?_ | (refine r_48b933 (fun hb => ?_) (fun hb => ?_) <;> (try (exfalso; omega))) | (refine awp_cond rfl (fun hb => ?_) (fun hb => ?_) <;> (try simp only [Bool.not_eq_true', Bool.not_eq_false', decide_eq_true_eq, decide_eq_false_iff_not] at hb) <;> (try (exfalso; omega)))))
  all_goals exact ret1c [] (.ag _ _ _ (Rt.agR [.v (.bool false), .v (.int .u64 (n : Int)), .v (.int .u64 0), .v (.int .u64 0), .v (.int .u64 0)])) rfl rfl rfl rfl (post_none rfl) rfl
theorem wAdd_m (m n : Nat) (hm : m < B64 ^ 4) (hn : n < B64 ^ 4) (hmn : m + n < B64 ^ 4) : Meets Tryd.prog 36 [wd false m, wd false n] [] (.tu [wd false (m + n), .r (.v (.bool true))]) [] := by
  refine fn_of Tryd.func36 rfl (Nat.le_of_ble_eq_true rfl) rfl rfl ?_
  have cA := add_m m n hm hn hmn
  have cS := wSigned_m (m + n) hmn
  generalize m + n = p at *
  (repeat' (first | refine r_4eabd4 ?_ | (refine is_f 33 ?_; refine r_bb2b31 (wClean_m m hm) ?_) | (refine is_f 33 ?_; refine r_bb2b31 (wClean_m n hn) ?_) | (refine is_f 48 ?_; refine r_bb2b31 (cA) ?_) | (refine is_f 35 ?_; refine r_bb2b31 (cS) ?_) | (refine r_48b933 (fun hb => ?_) (fun hb => ?_) <;> (try (exfalso; omega))) | (refine awp_cond rfl (fun hb => ?_) (fun hb => ?_) <;> (try simp only [Bool.not_eq_true', Bool.not_eq_false', decide_eq_true_eq, decide_eq_false_iff_not] at hb) <;> (try (exfalso; omega)))))
  all_goals (first | exact absurd rfl hb | exact ret2c [] (Rt.wd false p) (.bool rfl) rfl rfl rfl rfl rfl (post_none rfl) rfl)
theorem wMul_m (m n : Nat) (hm : m < B64 ^ 4) (hn : n < B64 ^ 4) (hmn : m * n < B64 ^ 4) : Meets Tryd.prog 21 [wd false m, wd false n] [] (.tu [wd false (m * n), .r (.v (.bool true))]) [] := by
  refine fn_of Tryd.func21 rfl (Nat.le_of_ble_eq_true rfl) rfl rfl ?_
  have cA := mulW_m m n hm hn hmn
  have cS := wSigned_m (m * n) hmn
  generalize m * n = p at *
  (repeat' (first | refine r_4eabd4 ?_ | (refine is_f 33 ?_; refine r_bb2b31 (wClean_m m hm) ?_) | (refine is_f 33 ?_; refine r_bb2b31 (wClean_m n hn) ?_) | (refine is_f 34 ?_; refine r_bb2b31 (cA) ?_) | (refine is_f 35 ?_; refine r_bb2b31 (cS) ?_) | (refine r_48b933 (fun hb => ?_) (fun hb => ?_) <;> (try (exfalso; omega))) | (refine awp_cond rfl (fun hb => ?_) (fun hb => ?_) <;> (try simp only [Bool.not_eq_true', Bool.not_eq_false', decide_eq_true_eq, decide_eq_false_iff_not] at hb) <;> (try (exfalso; omega)))))
  all_goals (first | exact absurd rfl hb | exact ret2c [] (Rt.wd false p) (.bool rfl) rfl rfl rfl rfl rfl (post_none rfl) rfl)
theorem plus_m (m n : Nat) (hm : m < B64 ^ 4) (hn : n < B64 ^ 4) (hmn : m + n < B64 ^ 4) : Meets Tryd.prog 22 [wd false m, wd false n] [] (wd false (m + n)) [] := by
  refine fn_of Tryd.func22 rfl (Nat.le_of_ble_eq_true rfl) rfl rfl ?_
  have cA := wAdd_m m n hm hn hmn
  generalize m + n = p at *
  (repeat' (first | refine r_4eabd4 ?_ | (refine is_f 36 ?_; refine r_bb2b31 (cA) ?_) | (refine r_48b933 (fun hb => ?_) (fun hb => ?_) <;> (try (exfalso; omega))) | (refine awp_cond rfl (fun hb => ?_) (fun hb => ?_) <;> (try simp only [Bool.not_eq_true', Bool.not_eq_false', decide_eq_true_eq, decide_eq_false_iff_not] at hb) <;> (try (exfalso; omega)))))
  all_goals exact ret1c [] (Rt.wd false p) rfl rfl rfl rfl (post_none rfl) rfl
end Go.Proofs.YtbndknhljkpijaaDoor
