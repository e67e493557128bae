/- Chapter 33: Text of small numbers; the sanity check. Conditions: none. --ext6 -/
import Derived.Test.YtbndknhljkpijaaDoorSt4
namespace Go.Proofs.YtbndknhljkpijaaDoor
open Go.RowKit Go.Ab Go.Wd
set_option maxRecDepth 100000
set_option linter.unusedVariables false
set_option linter.unusedSimpArgs false

def txS (x : Nat) : St := ⟨[(1, .pt 0 0), (3, .r (.v (.slice none 0 0))), (4, .pt 1 0)], [(0, some (.var 31 [.r (.v (.bool false)), .r (.v (.int .u64 (x : Int))), .r (.v (.int .u64 0)), .r (.v (.int .u64 0)), .r (.v (.int .u64 0))])), (1, some (.var 29 [.r (.v (.int .u64 (x : Int))), .r (.v (.int .u64 0)), .r (.v (.int .u64 0)), .r (.v (.int .u64 0))]))], 2⟩
theorem join_one (s : ByteArray) : (⟨(Lib.join ([s].map (·.data.toList)) (⟨#[]⟩ : ByteArray).data.toList).toArray⟩ : ByteArray) = s := by
  obtain ⟨d⟩ := s
  simp [Lib.join]
theorem text_m (x : Nat) (h0 : x ≠ 0) (hx : x < 100) (hl : Lib.bitLen x < Lib.bitLen 1000000000000000000) : Meets Tryd.prog 39 [wd false x] [] (.r (.v (.string (dgs x)))) [] := by
  have hB4 := B64_big
  have h1 : x / B64 = 0 := by unfold B64; omega
  have hxm : x % B64 = x := Nat.mod_eq_of_lt (by unfold B64; omega)
  have h2 : wd false x = .ag [.r (.v (.bool false)), .r (.v (.int .u64 (x : Int))), .r (.v (.int .u64 0)), .r (.v (.int .u64 0)), .r (.v (.int .u64 0))] := by
    unfold wd; rw [h1, hxm]; rfl
  have h3 : w4 x = .ag [.r (.v (.int .u64 (x : Int))), .r (.v (.int .u64 0)), .r (.v (.int .u64 0)), .r (.v (.int .u64 0))] := by
    unfold w4; rw [h1, hxm]; rfl
  have cC := wClean_m x (by omega)
  have cD := div_m x 1000000000000000000 h0 (by unfold B64; omega) (by omega) (by unfold B64; omega) hl (by decide)
  have h4 : w4 0 = .ag [.r (.v (.int .u64 0)), .r (.v (.int .u64 0)), .r (.v (.int .u64 0)), .r (.v (.int .u64 0))] := rfl
  have h5 : w4 1000000000000000000 = .ag [.r (.v (.int .u64 1000000000000000000)), .r (.v (.int .u64 0)), .r (.v (.int .u64 0)), .r (.v (.int .u64 0))] := rfl
  rw [h3, h4, h5] at cD
  rw [h2] at cC ⊢
  have cF := formatUint_m x hx
  have cR := reverse1_m (dgs x)
  have cJ := join33_m [dgs x] ⟨#[]⟩ (by simp) (by simp) (by
    have := congrArg (fun b : ByteArray => b.data.toList.length) (join_one (dgs x))
    simp only at this
    rw [show (Lib.join ([dgs x].map (·.data.toList)) (⟨#[]⟩ : ByteArray).data.toList).length = (dgs x).data.toList.length from by simpa using this]
    unfold dgs
    have key : ∀ x, x < 100 → (Lib.decDigits x).length ≤ 10 := by decide +kernel
    have := key x hx
    simp only [List.toList_toArray]
    omega)
  rw [join_one] at cJ
  generalize dgs x = s at *
  refine fn_of Tryd.func39 rfl (Nat.le_of_ble_eq_true rfl) rfl rfl ?_
  (repeat' (first | refine r_4eabd4 ?_ | (refine is_f 33 ?_; refine r_bb2b31 (cC) ?_) | (refine r_48b933 (fun hb => ?_) (fun hb => ?_) <;> (try (exfalso; omega))) | (refine awp_cond rfl (fun hb => ?_) (fun hb => ?_) <;> (try simp only [Bool.not_eq_true', Bool.not_eq_false', decide_eq_true_eq, decide_eq_false_iff_not] at hb) <;> (try (exfalso; omega)))))
  refine awp_loop' (fun _ : Unit => txS x) (fun _ => True) (fun _ => 0) () trivial (by (refine Le.mk [] [] q_5ec36 q_43730 q_16bb5 q_509a2)) fun _ _ => ?_
  change awp _ _ _ _ _ (txS x)
  have hl1 : ([[RV.v (Value.string s)]] : List (List RV)).length = 1 := rfl
  (repeat' (first | refine r_4eabd4 ?_ | (refine is_f 55 ?_; refine r_bb2b31 (cD) ?_) | (refine is_f 56 ?_; refine r_bb2b31 (cF) ?_) | (refine is_f 58 ?_; refine r_e61394 (cR) ?_) | (refine is_f 37 ?_; refine r_e61394 (cJ) ?_) | (refine r_48b933 (fun hb => ?_) (fun hb => ?_) <;> (try (exfalso; omega))) | (refine awp_cond rfl (fun hb => ?_) (fun hb => ?_) <;> (try simp only [Bool.not_eq_true', Bool.not_eq_false', decide_eq_true_eq, decide_eq_false_iff_not] at hb) <;> (try (exfalso; omega)))))
  all_goals (first | exact absurd rfl hb | (exfalso; omega) | exact ret1 [] (.r _) rfl rfl rfl)
theorem stText_m : Meets Tryd.prog 23 [smA 2 3 3 9] [] (.r (.v (.string ⟨#[50, 32, 51, 32, 51, 32, 57]⟩))) [] := by
  have c2 := itoa_m 2 (by omega)
  have c3 := text_m 3 (by omega) (by omega) (by decide)
  have c9 := text_m 9 (by omega) (by omega) (by decide)
  have cJ := join33_m [dgs 2, dgs 3, dgs 3, dgs 9] ⟨#[32]⟩ (by simp) (by simp) (by decide +kernel)
  have hE : (⟨(Lib.join ([dgs 2, dgs 3, dgs 3, dgs 9].map (·.data.toList)) (⟨#[32]⟩ : ByteArray).data.toList).toArray⟩ : ByteArray) = ⟨#[50, 32, 51, 32, 51, 32, 57]⟩ := by decide +kernel
  rw [hE] at cJ
  refine fn_of Tryd.func23 rfl (Nat.le_of_ble_eq_true rfl) rfl rfl ?_
  (repeat' (first | refine r_4eabd4 ?_ | (refine is_f 38 ?_; refine r_bb2b31 (c2) ?_) | (refine is_f 39 ?_; refine r_bb2b31 (c3) ?_) | (refine is_f 39 ?_; refine r_bb2b31 (c9) ?_) | (refine is_f 37 ?_; refine r_0aa870 (cJ) ?_) | (refine r_48b933 (fun hb => ?_) (fun hb => ?_) <;> (try (exfalso; omega))) | (refine awp_cond rfl (fun hb => ?_) (fun hb => ?_) <;> (try simp only [Bool.not_eq_true', Bool.not_eq_false', decide_eq_true_eq, decide_eq_false_iff_not] at hb) <;> (try (exfalso; omega)))))
  all_goals exact ret1 [] (.r _) rfl rfl rfl
theorem two_smp (a b : Int × Int) (h1 : I64 a.1) (h2 : I64 a.2) (h3 : I64 b.1) (h4 : I64 b.2) : Smp [a, b] := by
  intro i hi
  rcases i with _ | _ | i
  · exact ⟨h1, h2⟩
  · exact ⟨h3, h4⟩
  · exact absurd hi (by simp)
theorem known33_m : Meets Tryd.prog 8 [] [] (.r (.v (.bool true))) [] := by
  have cC := compare33_m [(1, 1), (2, 2)] [(1, 1), (2, 5)] (two_smp _ _ (by unfold I64; decide) (by unfold I64; decide) (by unfold I64; decide) (by unfold I64; decide)) (two_smp _ _ (by unfold I64; decide) (by unfold I64; decide) (by unfold I64; decide) (by unfold I64; decide)) (by simp) (by simp) (by decide)
  have e : smA ([(1, 1), (2, 2)] : List (Int × Int)).length (mD (fD [(1, 1), (2, 2)] [(1, 1), (2, 5)]) ([(1, 1), (2, 2)] : List (Int × Int)).length) (sD (fD [(1, 1), (2, 2)] [(1, 1), (2, 5)]) ([(1, 1), (2, 2)] : List (Int × Int)).length) (sD (fun i => fD [(1, 1), (2, 2)] [(1, 1), (2, 5)] i * fD [(1, 1), (2, 2)] [(1, 1), (2, 5)] i) ([(1, 1), (2, 2)] : List (Int × Int)).length) = smA 2 3 3 9 := by
    have e1 : mD (fD [(1, 1), (2, 2)] [(1, 1), (2, 5)]) 2 = 3 := by decide
    have e2 : sD (fD [(1, 1), (2, 2)] [(1, 1), (2, 5)]) 2 = 3 := by decide
    have e3 : sD (fun i => fD [(1, 1), (2, 2)] [(1, 1), (2, 5)] i * fD [(1, 1), (2, 2)] [(1, 1), (2, 5)] i) 2 = 9 := by decide
    simp only [List.length_cons, List.length_nil, Nat.zero_add, Nat.reduceAdd, e1, e2, e3]
  rw [e] at cC
  have hE1 : ([[.v (.int .i64 1), .v (.int .i64 1)], [.v (.int .i64 2), .v (.int .i64 2)]] : List (List RV)) = smps [(1, 1), (2, 2)] := rfl
  have hE2 : ([[.v (.int .i64 1), .v (.int .i64 1)], [.v (.int .i64 2), .v (.int .i64 5)]] : List (List RV)) = smps [(1, 1), (2, 5)] := rfl
  refine fn_of Tryd.func8 rfl (Nat.le_of_ble_eq_true rfl) rfl rfl ?_
  (repeat' (first | refine r_4eabd4 ?_ | (refine is_f 7 ?_; refine r_1d7f9e (cC) ?_) | (refine is_f 23 ?_; refine r_bb2b31 (stText_m) ?_) | (refine r_48b933 (fun hb => ?_) (fun hb => ?_) <;> (try (exfalso; omega))) | (refine awp_cond rfl (fun hb => ?_) (fun hb => ?_) <;> (try simp only [Bool.not_eq_true', Bool.not_eq_false', decide_eq_true_eq, decide_eq_false_iff_not] at hb) <;> (try (exfalso; omega)))))
  all_goals (first | exact absurd rfl hb | exact ret1 [] (.bool rfl) rfl rfl rfl)
end Go.Proofs.YtbndknhljkpijaaDoor
