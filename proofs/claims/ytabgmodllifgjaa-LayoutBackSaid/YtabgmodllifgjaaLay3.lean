/- The sanity check of chapter 28. Conditions: none. -/
import Derived.Test.YtabgmodllifgjaaLay2b
import Derived.Test.YtabgmodllifgjaaTp2
namespace Go.Proofs.Ytabgmodllifgjaa
open Go.RowKit Go.Ab
set_option maxRecDepth 100000
set_option linter.unusedVariables false
set_option linter.unusedSimpArgs false

theorem known_dec : decE (header 0 0 1) = 0 ∧ decC (header 0 0 1) = 0 ∧ decX (header 0 0 1) = 0 ∧ decK (header 0 0 1) = 1 ∧ decT (trailer 21) = (21, 0) := by decide +kernel
theorem knownH : Meets Try.prog 65 [.r (.sl 1 (bys (header 0 0 1)))] [] (.tu [cfgA 0 0 1, .r (.v (.int .i64 0))]) [] := by
  obtain ⟨e1, e2, e3, e4, _⟩ := known_dec
  have h := decodeHeader_m (header 0 0 1)
  rw [e1, e2, e3, e4] at h
  exact h
theorem knownT : Meets Try.prog 66 [.r (.sl 1 (bys (trailer 21)))] [] (.tu [.r (.v (.int .i64 21)), .r (.v (.int .i64 0))]) [] := by
  obtain ⟨_, _, _, _, e5⟩ := known_dec
  have h := decodeTrailer_m (trailer 21)
  rw [e5] at h
  exact h
theorem known28 : Meets Try.prog 60 [] [] (.r (.v (.bool true))) [] := by
  refine fn_of Try.func60 rfl (Nat.le_of_ble_eq_true rfl) rfl rfl ?_
  have l1 : (header 0 0 1).length = 21 := by decide +kernel
  have l2 : (trailer 21).length = 16 := by decide +kernel
  have l3 : (bys (header 0 0 1)).length = 21 := by rw [bys_len, l1]
  have l4 : (bys (trailer 21)).length = 16 := by rw [bys_len, l2]
  have h4 : ByteArray.toList ⟨(List.take 4 (header 0 0 1)).toArray⟩ = ByteArray.toList ⟨#[84, 83, 67, 49]⟩ := by rw [str_toList]; exact (show List.take 4 (header 0 0 1) = tscMark by decide +kernel).trans (str_toList tscMark).symm
  (repeat' (first | ((first | (refine is_f 55 ?_; refine w_call [] [] ((encodeHeader_ok 0 0 1 rfl).freeze2) q_a2eee (by kernel_rfl) (fun g h => by cases h) (fun i b h => by cases h) (.inl rfl) rfl rfl rfl q_85eb5 ?_) | (refine is_f 65 ?_; refine w_call [] [] (knownH) q_a2eee (by kernel_rfl) (fun g h => by cases h) (fun i b h => by cases h) (.inl rfl) rfl rfl rfl q_85eb5 ?_) | (refine is_f 62 ?_; refine w_call [] [] ((encodeTrailer_ok 21 (by omega) (by omega)).freeze2) q_a2eee (by kernel_rfl) (fun g h => by cases h) (fun i b h => by cases h) (.inl rfl) rfl rfl rfl q_85eb5 ?_) | (refine is_f 66 ?_; refine w_call [] [] (knownT) q_a2eee (by kernel_rfl) (fun g h => by cases h) (fun i b h => by cases h) (.inl rfl) rfl rfl rfl q_85eb5 ?_))) | (first | (refine is_move ?_; first | refine w_skip rfl q_d6b09 ?_ | refine w_read rfl q_85eb5 q_5c5b0 ?_) | (refine is_assign ?_; first | refine w_read rfl (.inl ⟨rfl, rfl⟩) q_cf428 ?_) | (refine is_load ?_; first | refine w_skip rfl q_d6b09 ?_ | refine w_read rfl q_85eb5 q_d1723 ?_) | (refine is_pick ?_; first | refine w_read rfl (.inl ⟨rfl, rfl⟩) q_651c9 ?_) | (refine is_bin ?_; first | (refine is_b_eql ?_; first | refine w_skip rfl q_d6b09 ?_ | (refine w_dec rfl q_85eb5 (p_eql rfl rfl) (fun hb => ?_) (fun hb => ?_) <;> (try (exfalso; omega))) | refine w_read rfl q_85eb5 (p_eqlb (by kernel_rfl) rfl rfl) ?_ | (refine w_dec rfl q_85eb5 (p_seql rfl rfl) (fun hb => ?_) (fun hb => ?_)))) | (refine is_call ?_; first | refine w_skip rfl q_d6b09 ?_ | (refine is_c_len ?_; first | refine w_skip rfl q_d6b09 ?_ | refine w_read rfl q_85eb5 q_42831 ?_)) | (refine is_conv ?_; first | refine w_skip rfl q_d6b09 ?_ | refine w_read rfl q_85eb5 q_6462e ?_ | refine w_strb rfl rfl (by kernel_rfl) (by kernel_rfl) rfl q_85eb5 ?_) | (refine is_extract ?_; first | refine w_read rfl (.inl ⟨rfl, rfl⟩) q_be838 ?_) | (refine is_faddr ?_; first | refine w_skip rfl q_d6b09 ?_ | refine w_read rfl q_85eb5 q_26930 ?_) | (refine is_alloc ?_; first | refine w_make rfl (.inl ⟨rfl, rfl⟩) m_alloc rfl ?_) | (refine is_store ?_; first | refine w_store rfl (a := .r _) rfl rfl rfl q_341a8 rfl rfl q_85eb5 ?_ | refine w_store rfl (a := .ag _) rfl rfl rfl q_341a8 rfl rfl q_85eb5 ?_ | refine w_store rfl (a := .rp _) rfl rfl rfl q_341a8 rfl rfl q_85eb5 ?_ | refine w_store rfl (a := .pt _ _) rfl rfl rfl q_341a8 rfl rfl q_85eb5 ?_) | (refine is_slice ?_; first | refine w_skip rfl q_d6b09 ?_ | refine w_read rfl q_85eb5 q_2cc34 ?_) | (refine is_slice ?_; first | refine w_skip rfl q_d6b09 ?_ | refine w_read rfl q_85eb5 q_f4223 ?_) | (refine is_build ?_; first | refine w_read rfl (.inl ⟨rfl, rfl⟩) (p_build [] rfl rfl (fun i b h => by cases h)) ?_)) | (first | refine awp_seq ?_ | refine thenA_ret ?_ | refine blockA_ret ?_ | refine awp_block ?_ | refine awp_text ?_ | refine awp_any (by kernel_rfl) ?_ | refine w_nilT ?_ | refine w_nil (by kernel_rfl) ?_ | refine awp_condT rfl ?_ | refine awp_condF rfl ?_ | refine awp_skip ?_ | refine awp_exit ?_ | refine awp_ret ?_) | (refine awp_cond rfl (fun hb => ?_) (fun hb => ?_) <;> (try simp only [Bool.not_eq_true', Bool.not_eq_false', decide_eq_true_eq, decide_eq_false_iff_not] at hb) <;> (try (exfalso; omega)))))
  all_goals (first | exact absurd h4 (by assumption) | exact ret1 [] (.bool rfl) rfl rfl rfl)
end Go.Proofs.Ytabgmodllifgjaa
