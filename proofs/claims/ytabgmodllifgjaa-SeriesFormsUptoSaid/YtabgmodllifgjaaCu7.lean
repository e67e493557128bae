/- Chapter 12: the sanity check. Conditions: none. --ext4 -/
import Derived.Test.YtabgmodllifgjaaCu6
import Derived.Test.YtabgmodllifgjaaSe4
import Derived.Test.YtabgmodllifgjaaCm
namespace Go.Proofs.Ytabgmodllifgjaa
open Go.RowKit Go.Ab
set_option maxRecDepth 100000
set_option linter.unusedVariables false
set_option linter.unusedSimpArgs false

instance : EqT Try.prog 54 2 := ⟨by kernel_rfl⟩
theorem known_cut : cutL [(1, 5), (2, 6), (3, 7)] 2 [] = [[(1, 5), (2, 6)], [(3, 7)]] := by decide +kernel
theorem known_chk : chkS [(1, 5), (2, 6), (3, 7)] = 0 ∧ chkS [(1, 0), (1, 0)] = 7 := by decide +kernel
theorem known_rng : rng [(1, 5), (2, 6), (3, 7)] 2 3 = [(2, 6), (3, 7)] := by decide +kernel
theorem knownC : Meets Try.prog 42 [.r (.sl 2 (smps [(1, 5), (2, 6), (3, 7)])), .r (.v (.int .i64 2)), .r (.sl 1 [])] [] (.r (.sl 1 [[.sl 2 (smps [(1, 5), (2, 6)])], [.sl 2 (smps [(3, 7)])]])) [] := by
  have h := (cut_m [(1, 5), (2, 6), (3, 7)] 2 [] (by omega) (by omega) (by simp) (by simp) (by simp)).freeze
  rw [known_cut] at h
  exact h
theorem knownK : Meets Try.prog 90 [.r (.sl 2 (smps [(1, 5), (2, 6), (3, 7)]))] [] (.r (.v (.int .i64 0))) [] := by
  have h := check12_m [(1, 5), (2, 6), (3, 7)] (by simp)
  rw [known_chk.1] at h
  exact h
theorem knownL : Meets Try.prog 90 [.r (.sl 2 (smps [(1, 0), (1, 0)]))] [] (.r (.v (.int .i64 7))) [] := by
  have h := check12_m [(1, 0), (1, 0)] (by simp)
  rw [known_chk.2] at h
  exact h
theorem knownR : Meets Try.prog 46 [.r (.sl 2 (smps [(1, 5), (2, 6), (3, 7)])), .r (.v (.int .i64 2)), .r (.v (.int .i64 3))] [] (.fr 54 2 (smps [(2, 6), (3, 7)])) [] := by
  have h := range_m [(1, 5), (2, 6), (3, 7)] 2 3 (by simp)
  rw [known_rng] at h
  exact h
set_option maxHeartbeats 2000000 in
theorem known12_m : Meets Try.prog 40 [] [] (.r (.v (.bool true))) [] := by
  refine fn_of Try.func40 rfl (Nat.le_of_ble_eq_true rfl) rfl rfl ?_
  have hE3 : ([[.v (.int .i64 1), .v (.int .i64 5)], [.v (.int .i64 2), .v (.int .i64 6)], [.v (.int .i64 3), .v (.int .i64 7)]] : List (List RV)) = smps [(1, 5), (2, 6), (3, 7)] := rfl
  have hE2 : ([[.v (.int .i64 1), .v (.int .i64 0)], [.v (.int .i64 1), .v (.int .i64 0)]] : List (List RV)) = smps [(1, 0), (1, 0)] := rfl
  have hl1 : (smps [(3, 7)]).length = 1 := rfl
  have hl2 : ([[RV.sl 2 (smps [(1, 5), (2, 6)])], [RV.sl 2 (smps [(3, 7)])]] : List (List RV)).length = 2 := rfl
  have hl3 : (smps [(2, 6), (3, 7)]).length = 2 := rfl
  (repeat' (first | (first | refine awp_halt 2 ?_ | refine awp_haltR 2 ?_) | (first | (refine is_move ?_; first | refine w_skip rfl (wanted_list rfl rfl rfl rfl) ?_ | refine w_read rfl q_85eb5 q_2ce30 ?_) | (refine is_assign ?_; first | refine w_read rfl (.inl ⟨rfl, rfl⟩) q_732c1 ?_) | (refine is_load ?_; first | refine w_skip rfl (wanted_list rfl rfl rfl rfl) ?_ | refine w_read rfl q_85eb5 q_98330 ?_) | (refine is_pick ?_; first | refine w_read rfl (.inl ⟨rfl, rfl⟩) q_651c9 ?_) | (refine is_bin ?_; first | (refine is_b_eql ?_; first | refine w_skip rfl (wanted_list rfl rfl rfl rfl) ?_ | (refine w_dec rfl q_85eb5 (p_eql rfl rfl) (fun hb => ?_) (fun hb => ?_) <;> (try (exfalso; omega))) | refine w_read rfl q_85eb5 (p_eqlb (by kernel_rfl) rfl rfl) ?_ | (refine w_dec rfl q_85eb5 (p_seql rfl rfl) (fun hb => ?_) (fun hb => ?_)) | (refine w_dec rfl q_85eb5 (p_eqag rfl rfl rfl rfl) (fun hb => ?_) (fun hb => ?_)))) | (refine is_call ?_; first | refine w_skip rfl (wanted_list rfl rfl rfl rfl) ?_ | (refine is_c_len ?_; first | refine w_skip rfl (wanted_list rfl rfl rfl rfl) ?_ | refine w_read rfl q_85eb5 q_e710b ?_)) | (refine is_iaddr ?_; first | refine w_skip rfl (wanted_list rfl rfl rfl rfl) ?_ | refine w_read rfl q_85eb5 q_0ab11 ?_) | (refine is_bslice ?_; first | refine w_skip rfl (wanted_list rfl rfl rfl rfl) ?_ | refine w_make rfl q_85eb5 (m_bslice2 rfl rfl rfl rfl) rfl ?_ | (refine w_make rfl q_85eb5 (m_bslice [_, _] (es := [_, _]) rfl rfl rfl rfl rfl) rfl ?_; try dsimp only [List.reverse, List.reverseAux]) | (refine w_make rfl q_85eb5 (m_bslice [_, _, _] (es := [_, _, _]) rfl rfl rfl rfl rfl) rfl ?_; try dsimp only [List.reverse, List.reverseAux])) | (refine is_build ?_; first | refine w_skip rfl (wanted_list rfl rfl rfl rfl) ?_ | refine w_read rfl q_85eb5 (p_build [] rfl rfl (fun i b h => by cases h)) ?_)) | (first | refine awp_seq ?_ | refine thenA_ret ?_ | refine blockA_ret ?_ | refine awp_block ?_ | refine awp_text ?_ | refine awp_any (by kernel_rfl) ?_ | refine w_nilT ?_ | refine w_nil (by kernel_rfl) ?_ | refine awp_condT rfl ?_ | refine awp_condF rfl ?_ | refine awp_skip ?_ | refine awp_exit ?_ | refine awp_ret ?_) | (refine awp_cond rfl (fun hb => ?_) (fun hb => ?_) <;> (try simp only [Bool.not_eq_true', Bool.not_eq_false', decide_eq_true_eq, decide_eq_false_iff_not] at hb) <;> (try (exfalso; omega)))))
  refine halt ?_
  refine awp_le (T := ⟨[(0, .r (.v (.bool false))), (1, .r (.sl 2 (smps [(1, 5), (2, 6), (3, 7)])))], [], 0⟩) (by (refine Le.mk [] [0] rfl q_30dea q_5650d q_509a2)) ?_
  (repeat' (first | (refine is_f 42 ?_; refine w_call [] [] (knownC) q_2f365 (by kernel_rfl) (fun g h => by cases h) (fun i b h => by cases h) (.inl rfl) rfl rfl rfl q_85eb5 ?_; try dsimp only [AV.unfr, AV.unfrs, frsL, pairs, rdOf, @List.length_cons Blk, @List.length_nil Blk, @List.nil_append (Nat × Option Blk), @List.cons_append (Nat × Option Blk), @List.nil_append Blk, @List.cons_append Blk, Nat.add_zero, Nat.zero_add, Nat.reduceAdd]) | (refine is_f 90 ?_; refine w_call [] [] (knownK) q_2f365 (by kernel_rfl) (fun g h => by cases h) (fun i b h => by cases h) (.inl rfl) rfl rfl rfl q_85eb5 ?_; try dsimp only [AV.unfr, AV.unfrs, frsL, pairs, rdOf, @List.length_cons Blk, @List.length_nil Blk, @List.nil_append (Nat × Option Blk), @List.cons_append (Nat × Option Blk), @List.nil_append Blk, @List.cons_append Blk, Nat.add_zero, Nat.zero_add, Nat.reduceAdd]) | (refine is_f 90 ?_; refine w_call [0] [(0, _)] (knownL) q_e07a3 (by kernel_rfl) q_f3e16 q_16cf6 (.inr q_f278b) rfl rfl rfl q_85eb5 ?_; try dsimp only [AV.unfr, AV.unfrs, frsL, pairs, rdOf, @List.length_cons Blk, @List.length_nil Blk, @List.nil_append (Nat × Option Blk), @List.cons_append (Nat × Option Blk), @List.nil_append Blk, @List.cons_append Blk, Nat.add_zero, Nat.zero_add, Nat.reduceAdd]) | (refine is_f 46 ?_; refine w_call [] [] (knownR) q_2f365 (by kernel_rfl) (fun g h => by cases h) (fun i b h => by cases h) (.inl rfl) rfl rfl rfl q_85eb5 ?_; try dsimp only [AV.unfr, AV.unfrs, frsL, pairs, rdOf, @List.length_cons Blk, @List.length_nil Blk, @List.nil_append (Nat × Option Blk), @List.cons_append (Nat × Option Blk), @List.nil_append Blk, @List.cons_append Blk, Nat.add_zero, Nat.zero_add, Nat.reduceAdd]) | (first | (refine is_move ?_; first | refine w_skip rfl (wanted_list rfl rfl rfl rfl) ?_ | refine w_read rfl q_85eb5 q_2ce30 ?_) | (refine is_assign ?_; first | refine w_read rfl (.inl ⟨rfl, rfl⟩) q_732c1 ?_) | (refine is_load ?_; first | refine w_skip rfl (wanted_list rfl rfl rfl rfl) ?_ | refine w_read rfl q_85eb5 q_98330 ?_) | (refine is_pick ?_; first | refine w_read rfl (.inl ⟨rfl, rfl⟩) q_651c9 ?_) | (refine is_bin ?_; first | (refine is_b_eql ?_; first | refine w_skip rfl (wanted_list rfl rfl rfl rfl) ?_ | (refine w_dec rfl q_85eb5 (p_eql rfl rfl) (fun hb => ?_) (fun hb => ?_) <;> (try (exfalso; omega))) | refine w_read rfl q_85eb5 (p_eqlb (by kernel_rfl) rfl rfl) ?_ | (refine w_dec rfl q_85eb5 (p_seql rfl rfl) (fun hb => ?_) (fun hb => ?_)) | (refine w_dec rfl q_85eb5 (p_eqag rfl rfl rfl rfl) (fun hb => ?_) (fun hb => ?_)))) | (refine is_call ?_; first | refine w_skip rfl (wanted_list rfl rfl rfl rfl) ?_ | (refine is_c_len ?_; first | refine w_skip rfl (wanted_list rfl rfl rfl rfl) ?_ | refine w_read rfl q_85eb5 q_e710b ?_)) | (refine is_iaddr ?_; first | refine w_skip rfl (wanted_list rfl rfl rfl rfl) ?_ | refine w_read rfl q_85eb5 q_0ab11 ?_) | (refine is_bslice ?_; first | refine w_skip rfl (wanted_list rfl rfl rfl rfl) ?_ | refine w_make rfl q_85eb5 (m_bslice2 rfl rfl rfl rfl) rfl ?_ | (refine w_make rfl q_85eb5 (m_bslice [_, _] (es := [_, _]) rfl rfl rfl rfl rfl) rfl ?_; try dsimp only [List.reverse, List.reverseAux]) | (refine w_make rfl q_85eb5 (m_bslice [_, _, _] (es := [_, _, _]) rfl rfl rfl rfl rfl) rfl ?_; try dsimp only [List.reverse, List.reverseAux])) | (refine is_build ?_; first | refine w_skip rfl (wanted_list rfl rfl rfl rfl) ?_ | refine w_read rfl q_85eb5 (p_build [] rfl rfl (fun i b h => by cases h)) ?_)) | (first | refine awp_seq ?_ | refine thenA_ret ?_ | refine blockA_ret ?_ | refine awp_block ?_ | refine awp_text ?_ | refine awp_any (by kernel_rfl) ?_ | refine w_nilT ?_ | refine w_nil (by kernel_rfl) ?_ | refine awp_condT rfl ?_ | refine awp_condF rfl ?_ | refine awp_skip ?_ | refine awp_exit ?_ | refine awp_ret ?_) | (refine awp_cond rfl (fun hb => ?_) (fun hb => ?_) <;> (try simp only [Bool.not_eq_true', Bool.not_eq_false', decide_eq_true_eq, decide_eq_false_iff_not] at hb) <;> (try (exfalso; omega)))))
  · exact ret1 [] (.bool rfl) rfl rfl rfl
  · rename_i hb
    exact absurd (by rfl) hb
end Go.Proofs.Ytabgmodllifgjaa
