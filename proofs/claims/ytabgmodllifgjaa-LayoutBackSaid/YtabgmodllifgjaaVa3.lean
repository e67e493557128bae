/- Numbers in groups of seven bits, on: the reference's Append; Zigzag, Unzigzag, AppendSigned of both. Conditions: lengths, ranges. --ext4 -/
import Derived.Test.YtabgmodllifgjaaVa2
namespace Go.Proofs.Ytabgmodllifgjaa
open Go.RowKit Go.Ab
set_option maxRecDepth 100000
set_option linter.unusedVariables false
set_option linter.unusedSimpArgs false

theorem refVarAppend_m (l : List UInt8) (v : Nat) (hv : v < 18446744073709551616) (hl : l.length ≤ 140737488355100) : Meets Try.prog 79 [.r (.sl 1 (bys l)), .r (.v (.int .u64 v))] [] (.fr 5 1 (bys (l ++ vb v))) [] := by
  refine fn_of Try.func79 rfl (Nat.le_of_ble_eq_true rfl) rfl rfl ?_
  have hll := bys_len l
  have hE0 : [] ++ bys l = bys l := rfl
  (repeat' (first | (first | (refine is_move ?_; first | refine w_read rfl (.inl ⟨rfl, rfl⟩) q_2ce30 ?_) | (refine is_assign ?_; first | refine w_read rfl (.inl ⟨rfl, rfl⟩) q_732c1 ?_) | (refine is_bin ?_; first | (refine is_b_add ?_; first | refine w_read rfl (.inl ⟨rfl, rfl⟩) (p_add rfl rfl q_cc899) ?_) | (refine is_b_quo ?_; first | refine w_read rfl (.inl ⟨rfl, rfl⟩) (p_quo rfl rfl q_6f6ae q_81842) ?_) | (refine is_b_rem ?_; first | refine w_read rfl (.inl ⟨rfl, rfl⟩) (p_rem rfl rfl q_6f6ae q_81842) ?_) | (refine is_b_geq ?_; first | (refine w_dec rfl (.inl ⟨rfl, rfl⟩) (p_geq rfl rfl) (fun hb => ?_) (fun hb => ?_) <;> (try (exfalso; omega))))) | (refine is_call ?_; first | (refine is_c_append ?_; first | refine w_appendI rfl rfl (.src _ _ (.sl _ rfl)) rfl rfl q_857c1 rfl (.inl ⟨rfl, rfl⟩) ?_ | refine w_appendI rfl rfl (.src _ _ (.ow _ _ rfl rfl)) rfl rfl q_857c1 rfl (.inl ⟨rfl, rfl⟩) ?_ | refine w_appendI rfl rfl (.full _ _ rfl rfl) rfl rfl q_857c1 rfl (.inl ⟨rfl, rfl⟩) ?_ | refine w_appendI rfl rfl (.src _ _ (.nl rfl)) rfl rfl q_857c1 rfl (.inl ⟨rfl, rfl⟩) ?_ | refine w_appendG rfl rfl (.src _ _ (.sl _ rfl)) q_857c1 q_7da8a rfl (.inl ⟨rfl, rfl⟩) ?_ | refine w_appendG rfl rfl (.src _ _ (.ow _ _ rfl rfl)) q_857c1 q_7da8a rfl (.inl ⟨rfl, rfl⟩) ?_ | refine w_appendG rfl rfl (.full _ _ rfl rfl) q_857c1 q_7da8a rfl (.inl ⟨rfl, rfl⟩) ?_ | refine w_appendG rfl rfl (.src _ _ (.nl rfl)) q_857c1 q_7da8a rfl (.inl ⟨rfl, rfl⟩) ?_ | refine w_appendK rfl rfl (.ok _ _ _ _ rfl rfl) rfl q_7da8a rfl rfl (.inl ⟨rfl, rfl⟩) ?_ | refine w_read rfl (.inl ⟨rfl, rfl⟩) (p_append_e rfl rfl rfl) ?_ | refine w_appendF rfl rfl (.sl _ rfl) q_3ef64 q_7da8a rfl (.inl ⟨rfl, rfl⟩) ?_ | refine w_appendF rfl rfl (.ow _ _ rfl rfl) q_3ef64 q_7da8a rfl (.inl ⟨rfl, rfl⟩) ?_ | refine w_appendF rfl rfl (.nl rfl) q_3ef64 q_7da8a rfl (.inl ⟨rfl, rfl⟩) ?_ | refine w_append rfl rfl (.sl _ rfl) rfl q_7da8a rfl rfl (.inl ⟨rfl, rfl⟩) ?_ | refine w_append rfl rfl (.ow _ _ rfl rfl) rfl q_7da8a rfl rfl (.inl ⟨rfl, rfl⟩) ?_ | refine w_append rfl rfl (.nl rfl) rfl q_7da8a rfl rfl (.inl ⟨rfl, rfl⟩) ?_ | refine w_append0 rfl (.sl _ rfl) q_7da8a rfl (.inl ⟨rfl, rfl⟩) ?_ | refine w_append0 rfl (.ow _ _ rfl rfl) q_7da8a rfl (.inl ⟨rfl, rfl⟩) ?_ | refine w_append0 rfl (.nl rfl) q_7da8a rfl (.inl ⟨rfl, rfl⟩) ?_)) | (refine is_conv ?_; first | refine w_read rfl (.inl ⟨rfl, rfl⟩) q_33588 ?_ | refine w_strb rfl rfl (by kernel_rfl) (by kernel_rfl) rfl (.inl ⟨rfl, rfl⟩) ?_) | (refine is_bsconv ?_; first | refine w_make rfl q_85eb5 (m_bfull [] (es := []) rfl rfl rfl rfl rfl) rfl ?_ | refine w_make rfl q_85eb5 (m_bfull [_] (es := [_]) rfl rfl rfl rfl rfl) rfl ?_) | (refine is_bslice ?_; first | (refine w_make rfl (.inl ⟨rfl, rfl⟩) (m_bslice [] (es := []) rfl rfl rfl rfl rfl) rfl ?_; try dsimp only [List.reverse, List.reverseAux]) | (refine w_make rfl (.inl ⟨rfl, rfl⟩) (m_bslice [_] (es := [_]) rfl rfl rfl rfl rfl) rfl ?_; try dsimp only [List.reverse, List.reverseAux]))) | (first | refine awp_seq ?_ | refine thenA_ret ?_ | refine blockA_ret ?_ | refine awp_block ?_ | refine awp_text ?_ | refine awp_any (by kernel_rfl) ?_ | refine w_nilT ?_ | refine w_nil (by kernel_rfl) ?_ | refine awp_condT rfl ?_ | refine awp_condF rfl ?_ | refine awp_skip ?_ | refine awp_exit ?_ | refine awp_ret ?_) | (refine awp_cond rfl (fun hb => ?_) (fun hb => ?_) <;> (try simp only [Bool.not_eq_true', Bool.not_eq_false', decide_eq_true_eq, decide_eq_false_iff_not] at hb) <;> (try (exfalso; omega)))))
  refine awp_loop' (fun x : Nat × Nat × List UInt8 => vaS x.2.1 x.2.2) (fun x => x.2.1 < 2 * 128 ^ x.1 ∧ x.2.2 ++ vbn x.1 x.2.1 = l ++ vb v ∧ x.2.2.length + x.1 ≤ l.length + 9 ∧ x.1 ≤ 9) (fun x => x.1) (9, v, l) ⟨by show v < 2 * 128 ^ 9; rw [show (2 : Nat) * 128 ^ 9 = 18446744073709551616 from rfl]; exact hv, rfl, Nat.le_refl _, Nat.le_refl _⟩ (by (refine Le.mk [(0,1)] [] rfl q_30dea q_5650d q_509a2)) fun x hx => ?_
  obtain ⟨k, u, acc⟩ := x
  obtain ⟨h1, h2, h3, h9⟩ := hx
  dsimp only at h1 h2 h3 h9
  change awp _ _ _ _ _ (vaS u acc)
  have hal := bys_len acc
  generalize l ++ vb v = R at *
  have hu : u < 18446744073709551616 := by
    refine Nat.lt_of_lt_of_le h1 ?_
    refine Nat.le_trans (Nat.mul_le_mul_left 2 (Nat.pow_le_pow_right (by omega) (show k ≤ 9 by omega))) ?_
    rw [show (2 : Nat) * 128 ^ 9 = 18446744073709551616 from rfl]
    exact Nat.le_refl _
  have hc : IntKind.u8.wrap (u : Int) = ((u % 256 : Nat) : Int) := by rw [IntKind.wrap_u8]; omega
  rcases Nat.lt_or_ge u 128 with h | h
  · rw [vbn_small k u h] at h2
    have hE : bys acc ++ [[.v (.int .u8 ((u % 256 : Nat) : Int))]] = bys R := by rw [u8_of_nat _ (by omega), ← bys_append, ← h2, Nat.mod_eq_of_lt (show u < 256 by omega)]
    (repeat' (first | (first | (refine is_move ?_; first | refine w_read rfl (.inl ⟨rfl, rfl⟩) q_2ce30 ?_) | (refine is_assign ?_; first | refine w_read rfl (.inl ⟨rfl, rfl⟩) q_732c1 ?_) | (refine is_bin ?_; first | (refine is_b_add ?_; first | refine w_read rfl (.inl ⟨rfl, rfl⟩) (p_add rfl rfl q_cc899) ?_) | (refine is_b_quo ?_; first | refine w_read rfl (.inl ⟨rfl, rfl⟩) (p_quo rfl rfl q_6f6ae q_81842) ?_) | (refine is_b_rem ?_; first | refine w_read rfl (.inl ⟨rfl, rfl⟩) (p_rem rfl rfl q_6f6ae q_81842) ?_) | (refine is_b_geq ?_; first | (refine w_dec rfl (.inl ⟨rfl, rfl⟩) (p_geq rfl rfl) (fun hb => ?_) (fun hb => ?_) <;> (try (exfalso; omega))))) | (refine is_call ?_; first | (refine is_c_append ?_; first | refine w_appendI rfl rfl (.src _ _ (.sl _ rfl)) rfl rfl q_857c1 rfl (.inl ⟨rfl, rfl⟩) ?_ | refine w_appendI rfl rfl (.src _ _ (.ow _ _ rfl rfl)) rfl rfl q_857c1 rfl (.inl ⟨rfl, rfl⟩) ?_ | refine w_appendI rfl rfl (.full _ _ rfl rfl) rfl rfl q_857c1 rfl (.inl ⟨rfl, rfl⟩) ?_ | refine w_appendI rfl rfl (.src _ _ (.nl rfl)) rfl rfl q_857c1 rfl (.inl ⟨rfl, rfl⟩) ?_ | refine w_appendG rfl rfl (.src _ _ (.sl _ rfl)) q_857c1 q_7da8a rfl (.inl ⟨rfl, rfl⟩) ?_ | refine w_appendG rfl rfl (.src _ _ (.ow _ _ rfl rfl)) q_857c1 q_7da8a rfl (.inl ⟨rfl, rfl⟩) ?_ | refine w_appendG rfl rfl (.full _ _ rfl rfl) q_857c1 q_7da8a rfl (.inl ⟨rfl, rfl⟩) ?_ | refine w_appendG rfl rfl (.src _ _ (.nl rfl)) q_857c1 q_7da8a rfl (.inl ⟨rfl, rfl⟩) ?_ | refine w_appendK rfl rfl (.ok _ _ _ _ rfl rfl) rfl q_7da8a rfl rfl (.inl ⟨rfl, rfl⟩) ?_ | refine w_read rfl (.inl ⟨rfl, rfl⟩) (p_append_e rfl rfl rfl) ?_ | refine w_appendF rfl rfl (.sl _ rfl) q_3ef64 q_7da8a rfl (.inl ⟨rfl, rfl⟩) ?_ | refine w_appendF rfl rfl (.ow _ _ rfl rfl) q_3ef64 q_7da8a rfl (.inl ⟨rfl, rfl⟩) ?_ | refine w_appendF rfl rfl (.nl rfl) q_3ef64 q_7da8a rfl (.inl ⟨rfl, rfl⟩) ?_ | refine w_append rfl rfl (.sl _ rfl) rfl q_7da8a rfl rfl (.inl ⟨rfl, rfl⟩) ?_ | refine w_append rfl rfl (.ow _ _ rfl rfl) rfl q_7da8a rfl rfl (.inl ⟨rfl, rfl⟩) ?_ | refine w_append rfl rfl (.nl rfl) rfl q_7da8a rfl rfl (.inl ⟨rfl, rfl⟩) ?_ | refine w_append0 rfl (.sl _ rfl) q_7da8a rfl (.inl ⟨rfl, rfl⟩) ?_ | refine w_append0 rfl (.ow _ _ rfl rfl) q_7da8a rfl (.inl ⟨rfl, rfl⟩) ?_ | refine w_append0 rfl (.nl rfl) q_7da8a rfl (.inl ⟨rfl, rfl⟩) ?_)) | (refine is_conv ?_; first | refine w_read rfl (.inl ⟨rfl, rfl⟩) q_33588 ?_ | refine w_strb rfl rfl (by kernel_rfl) (by kernel_rfl) rfl (.inl ⟨rfl, rfl⟩) ?_) | (refine is_bsconv ?_; first | refine w_make rfl q_85eb5 (m_bfull [] (es := []) rfl rfl rfl rfl rfl) rfl ?_ | refine w_make rfl q_85eb5 (m_bfull [_] (es := [_]) rfl rfl rfl rfl rfl) rfl ?_) | (refine is_bslice ?_; first | (refine w_make rfl (.inl ⟨rfl, rfl⟩) (m_bslice [] (es := []) rfl rfl rfl rfl rfl) rfl ?_; try dsimp only [List.reverse, List.reverseAux]) | (refine w_make rfl (.inl ⟨rfl, rfl⟩) (m_bslice [_] (es := [_]) rfl rfl rfl rfl rfl) rfl ?_; try dsimp only [List.reverse, List.reverseAux]))) | (first | refine awp_seq ?_ | refine thenA_ret ?_ | refine blockA_ret ?_ | refine awp_block ?_ | refine awp_text ?_ | refine awp_any (by kernel_rfl) ?_ | refine w_nilT ?_ | refine w_nil (by kernel_rfl) ?_ | refine awp_condT rfl ?_ | refine awp_condF rfl ?_ | refine awp_skip ?_ | refine awp_exit ?_ | refine awp_ret ?_) | (refine awp_cond rfl (fun hb => ?_) (fun hb => ?_) <;> (try simp only [Bool.not_eq_true', Bool.not_eq_false', decide_eq_true_eq, decide_eq_false_iff_not] at hb) <;> (try (exfalso; omega)))))
    all_goals (rw [hE]; exact ret1 [] (.fr 2 _ _ _ rfl) rfl rfl rfl)
  · cases k with
    | zero => omega
    | succ k =>
      rw [vbn, if_neg (by omega)] at h2
      have hr : (u : Int).tmod 128 = ((u % 128 : Nat) : Int) := by rw [Int.tmod_eq_emod_of_nonneg (by omega)]; omega
      have hc2 : IntKind.u8.wrap ((u % 128 : Nat) : Int) = ((u % 128 : Nat) : Int) := by rw [IntKind.wrap_u8]; omega
      have ha : IntKind.u8.wrap (((u % 128 : Nat) : Int) + 128) = ((u % 128 + 128 : Nat) : Int) := by rw [IntKind.wrap_u8]; omega
      have hq : IntKind.u64.wrap ((u : Int).tdiv 128) = ((u / 128 : Nat) : Int) := by rw [Int.tdiv_eq_ediv_of_nonneg (by omega), IntKind.wrap_u64]; omega
      have hE : bys acc ++ [[.v (.int .u8 ((u % 128 + 128 : Nat) : Int))]] = bys (acc ++ [UInt8.ofNat (u % 128 + 128)]) := by rw [u8_of_nat _ (by omega), ← bys_append]
      (repeat' (first | (first | (refine is_move ?_; first | refine w_read rfl (.inl ⟨rfl, rfl⟩) q_2ce30 ?_) | (refine is_assign ?_; first | refine w_read rfl (.inl ⟨rfl, rfl⟩) q_732c1 ?_) | (refine is_bin ?_; first | (refine is_b_add ?_; first | refine w_read rfl (.inl ⟨rfl, rfl⟩) (p_add rfl rfl q_cc899) ?_) | (refine is_b_quo ?_; first | refine w_read rfl (.inl ⟨rfl, rfl⟩) (p_quo rfl rfl q_6f6ae q_81842) ?_) | (refine is_b_rem ?_; first | refine w_read rfl (.inl ⟨rfl, rfl⟩) (p_rem rfl rfl q_6f6ae q_81842) ?_) | (refine is_b_geq ?_; first | (refine w_dec rfl (.inl ⟨rfl, rfl⟩) (p_geq rfl rfl) (fun hb => ?_) (fun hb => ?_) <;> (try (exfalso; omega))))) | (refine is_call ?_; first | (refine is_c_append ?_; first | refine w_appendI rfl rfl (.src _ _ (.sl _ rfl)) rfl rfl q_857c1 rfl (.inl ⟨rfl, rfl⟩) ?_ | refine w_appendI rfl rfl (.src _ _ (.ow _ _ rfl rfl)) rfl rfl q_857c1 rfl (.inl ⟨rfl, rfl⟩) ?_ | refine w_appendI rfl rfl (.full _ _ rfl rfl) rfl rfl q_857c1 rfl (.inl ⟨rfl, rfl⟩) ?_ | refine w_appendI rfl rfl (.src _ _ (.nl rfl)) rfl rfl q_857c1 rfl (.inl ⟨rfl, rfl⟩) ?_ | refine w_appendG rfl rfl (.src _ _ (.sl _ rfl)) q_857c1 q_7da8a rfl (.inl ⟨rfl, rfl⟩) ?_ | refine w_appendG rfl rfl (.src _ _ (.ow _ _ rfl rfl)) q_857c1 q_7da8a rfl (.inl ⟨rfl, rfl⟩) ?_ | refine w_appendG rfl rfl (.full _ _ rfl rfl) q_857c1 q_7da8a rfl (.inl ⟨rfl, rfl⟩) ?_ | refine w_appendG rfl rfl (.src _ _ (.nl rfl)) q_857c1 q_7da8a rfl (.inl ⟨rfl, rfl⟩) ?_ | refine w_appendK rfl rfl (.ok _ _ _ _ rfl rfl) rfl q_7da8a rfl rfl (.inl ⟨rfl, rfl⟩) ?_ | refine w_read rfl (.inl ⟨rfl, rfl⟩) (p_append_e rfl rfl rfl) ?_ | refine w_appendF rfl rfl (.sl _ rfl) q_3ef64 q_7da8a rfl (.inl ⟨rfl, rfl⟩) ?_ | refine w_appendF rfl rfl (.ow _ _ rfl rfl) q_3ef64 q_7da8a rfl (.inl ⟨rfl, rfl⟩) ?_ | refine w_appendF rfl rfl (.nl rfl) q_3ef64 q_7da8a rfl (.inl ⟨rfl, rfl⟩) ?_ | refine w_append rfl rfl (.sl _ rfl) rfl q_7da8a rfl rfl (.inl ⟨rfl, rfl⟩) ?_ | refine w_append rfl rfl (.ow _ _ rfl rfl) rfl q_7da8a rfl rfl (.inl ⟨rfl, rfl⟩) ?_ | refine w_append rfl rfl (.nl rfl) rfl q_7da8a rfl rfl (.inl ⟨rfl, rfl⟩) ?_ | refine w_append0 rfl (.sl _ rfl) q_7da8a rfl (.inl ⟨rfl, rfl⟩) ?_ | refine w_append0 rfl (.ow _ _ rfl rfl) q_7da8a rfl (.inl ⟨rfl, rfl⟩) ?_ | refine w_append0 rfl (.nl rfl) q_7da8a rfl (.inl ⟨rfl, rfl⟩) ?_)) | (refine is_conv ?_; first | refine w_read rfl (.inl ⟨rfl, rfl⟩) q_33588 ?_ | refine w_strb rfl rfl (by kernel_rfl) (by kernel_rfl) rfl (.inl ⟨rfl, rfl⟩) ?_) | (refine is_bsconv ?_; first | refine w_make rfl q_85eb5 (m_bfull [] (es := []) rfl rfl rfl rfl rfl) rfl ?_ | refine w_make rfl q_85eb5 (m_bfull [_] (es := [_]) rfl rfl rfl rfl rfl) rfl ?_) | (refine is_bslice ?_; first | (refine w_make rfl (.inl ⟨rfl, rfl⟩) (m_bslice [] (es := []) rfl rfl rfl rfl rfl) rfl ?_; try dsimp only [List.reverse, List.reverseAux]) | (refine w_make rfl (.inl ⟨rfl, rfl⟩) (m_bslice [_] (es := [_]) rfl rfl rfl rfl rfl) rfl ?_; try dsimp only [List.reverse, List.reverseAux]))) | (first | refine awp_seq ?_ | refine thenA_ret ?_ | refine blockA_ret ?_ | refine awp_block ?_ | refine awp_text ?_ | refine awp_any (by kernel_rfl) ?_ | refine w_nilT ?_ | refine w_nil (by kernel_rfl) ?_ | refine awp_condT rfl ?_ | refine awp_condF rfl ?_ | refine awp_skip ?_ | refine awp_exit ?_ | refine awp_ret ?_) | (refine awp_cond rfl (fun hb => ?_) (fun hb => ?_) <;> (try simp only [Bool.not_eq_true', Bool.not_eq_false', decide_eq_true_eq, decide_eq_false_iff_not] at hb) <;> (try (exfalso; omega)))))
      all_goals exact ⟨(k, u / 128, acc ++ [UInt8.ofNat (u % 128 + 128)]), ⟨by show u / 128 < 2 * 128 ^ k; rw [Nat.pow_succ] at h1; omega, by show (acc ++ [UInt8.ofNat (u % 128 + 128)]) ++ vbn k (u / 128) = R; rw [List.append_assoc]; exact h2, by show (acc ++ [UInt8.ofNat (u % 128 + 128)]).length + k ≤ l.length + 9; rw [List.length_append]; simp; omega, by show k ≤ 9; omega⟩, by show Le _ _ (vaS (u / 128) (acc ++ [UInt8.ofNat (u % 128 + 128)])); (refine Le.mk [(0,2)] [] rfl q_30dea q_5650d q_509a2), by show k < k + 1; omega⟩

/-! Zigzag -/
def zz (v : Int) : Nat := if 0 ≤ v then (2 * v).toNat else (-2 * v - 1).toNat
def uz (v : Nat) : Int := if v % 2 = 0 then ((v / 2 : Nat) : Int) else -((v / 2 : Nat) : Int) - 1
theorem uz_zz (v : Int) : uz (zz v) = v := by
  unfold uz zz
  split <;> split <;> omega
theorem zz_uz (v : Nat) : zz (uz v) = v := by
  unfold uz zz
  split <;> split <;> omega
theorem zz_lt {v : Int} (h : I64 v) : zz v < 18446744073709551616 := by
  unfold I64 at h
  unfold zz
  split <;> omega
theorem uz_I64 {v : Nat} (h : v < 18446744073709551616) : I64 (uz v) := by
  unfold I64 uz
  split <;> omega
theorem xor_ones (x : Nat) (h : x < 18446744073709551616) : x ^^^ 18446744073709551615 = 18446744073709551615 - x := by
  apply Nat.eq_of_testBit_eq
  intro i
  have e1 : (18446744073709551615 : Nat) = 2 ^ 64 - 1 := rfl
  have e2 : 18446744073709551615 - x = 2 ^ 64 - (x + 1) := by rw [show (2 : Nat) ^ 64 = 18446744073709551616 from rfl]; omega
  rw [Nat.testBit_xor, e2, Nat.testBit_two_pow_sub_succ (by rw [show (2 : Nat) ^ 64 = 18446744073709551616 from rfl]; exact h), e1, Nat.testBit_two_pow_sub_one]
  by_cases hi : i < 64
  · simp [hi]
  · have : x.testBit i = false := Nat.testBit_lt_two_pow (Nat.lt_of_lt_of_le h (by rw [show (18446744073709551616 : Nat) = 2 ^ 64 from rfl]; exact Nat.pow_le_pow_right (by omega) (by omega)))
    simp [hi, this]
theorem zigzag_m (v : Int) (hv : I64 v) : Meets Try.prog 129 [.r (.v (.int .i64 v))] [] (.r (.v (.int .u64 (zz v)))) [] := by
  refine fn_of Try.func129 rfl (Nat.le_of_ble_eq_true rfl) rfl rfl ?_
  have hv2 : -9223372036854775808 ≤ v ∧ v < 9223372036854775808 := hv
  rcases Int.lt_or_le v 0 with h | h
  · obtain ⟨n, hn⟩ : ∃ n : Nat, v = -((n : Int) + 1) := ⟨(-v - 1).toNat, by omega⟩
    subst hn
    have c1 : IntKind.u64.wrap (-((n : Int) + 1)) = ((18446744073709551615 - n : Nat) : Int) := by rw [IntKind.wrap_u64]; omega
    have c2 : IntKind.u64.wrap (((18446744073709551615 - n : Nat) : Int) * 2 ^ (min (1 : Int).toNat (IntKind.bits .u64))) = ((18446744073709551614 - 2 * n : Nat) : Int) := by
      rw [show (2 : Int) ^ (min (1 : Int).toNat (IntKind.bits .u64)) = 2 from rfl, IntKind.wrap_u64]; omega
    have c3 : (-((n : Int) + 1)).fdiv (2 ^ (min (63 : Int).toNat (IntKind.bits .i64))) = -1 := by
      rw [show (2 : Int) ^ (min (63 : Int).toNat (IntKind.bits .i64)) = 9223372036854775808 from rfl, Int.fdiv_eq_ediv_of_nonneg _ (by omega)]; omega
    have c4 : IntKind.u64.wrap (-1) = ((18446744073709551615 : Nat) : Int) := by rw [IntKind.wrap_u64]; rfl
    have c5 : bits .xor .u64 ((18446744073709551614 - 2 * n : Nat) : Int) ((18446744073709551615 : Nat) : Int) = ((zz (-((n : Int) + 1)) : Nat) : Int) := by
      rw [u64_xor_nat _ _ (by omega) (by omega), xor_ones _ (by omega)]
      unfold zz
      rw [if_neg (by omega)]
      omega
    generalize zz (-((n : Int) + 1)) = z at *
    (repeat' (first | (first | (refine is_move ?_; first | refine w_read rfl (.inl ⟨rfl, rfl⟩) q_2ce30 ?_) | (refine is_assign ?_; first | refine w_read rfl (.inl ⟨rfl, rfl⟩) q_732c1 ?_) | (refine is_bin ?_; first | (refine is_b_xor ?_; first | refine w_read rfl (.inl ⟨rfl, rfl⟩) (p_xor rfl rfl q_81842) ?_) | (refine is_b_shl ?_; first | refine w_read rfl (.inl ⟨rfl, rfl⟩) (p_shl rfl rfl q_6f6ae q_81842) ?_) | (refine is_b_shr ?_; first | refine w_read rfl (.inl ⟨rfl, rfl⟩) (p_shr rfl rfl q_6f6ae q_81842) ?_)) | (refine is_conv ?_; first | refine w_read rfl (.inl ⟨rfl, rfl⟩) q_33588 ?_ | refine w_strb rfl rfl (by kernel_rfl) (by kernel_rfl) rfl (.inl ⟨rfl, rfl⟩) ?_)) | (first | refine awp_seq ?_ | refine thenA_ret ?_ | refine blockA_ret ?_ | refine awp_block ?_ | refine awp_text ?_ | refine awp_any (by kernel_rfl) ?_ | refine w_nilT ?_ | refine w_nil (by kernel_rfl) ?_ | refine awp_condT rfl ?_ | refine awp_condF rfl ?_ | refine awp_skip ?_ | refine awp_exit ?_ | refine awp_ret ?_) | (refine awp_cond rfl (fun hb => ?_) (fun hb => ?_) <;> (try simp only [Bool.not_eq_true', Bool.not_eq_false', decide_eq_true_eq, decide_eq_false_iff_not] at hb) <;> (try (exfalso; omega)))))
    all_goals exact ret1 [] (.r _) rfl rfl rfl
  · obtain ⟨n, rfl⟩ := Int.eq_ofNat_of_zero_le h
    have c1 : IntKind.u64.wrap (n : Int) = (n : Int) := by rw [IntKind.wrap_u64]; omega
    have c2 : IntKind.u64.wrap ((n : Int) * 2 ^ (min (1 : Int).toNat (IntKind.bits .u64))) = ((2 * n : Nat) : Int) := by
      rw [show (2 : Int) ^ (min (1 : Int).toNat (IntKind.bits .u64)) = 2 from rfl, IntKind.wrap_u64]; omega
    have c3 : (n : Int).fdiv (2 ^ (min (63 : Int).toNat (IntKind.bits .i64))) = 0 := by
      rw [show (2 : Int) ^ (min (63 : Int).toNat (IntKind.bits .i64)) = 9223372036854775808 from rfl, Int.fdiv_eq_ediv_of_nonneg _ (by omega)]; omega
    have c4 : IntKind.u64.wrap 0 = ((0 : Nat) : Int) := by rw [IntKind.wrap_u64]; rfl
    have c5 : bits .xor .u64 ((2 * n : Nat) : Int) ((0 : Nat) : Int) = ((zz (n : Int) : Nat) : Int) := by
      rw [u64_xor_nat _ _ (by omega) (by omega), Nat.xor_zero]
      unfold zz
      rw [if_pos (by omega)]
      omega
    generalize zz (n : Int) = z at *
    (repeat' (first | (first | (refine is_move ?_; first | refine w_read rfl (.inl ⟨rfl, rfl⟩) q_2ce30 ?_) | (refine is_assign ?_; first | refine w_read rfl (.inl ⟨rfl, rfl⟩) q_732c1 ?_) | (refine is_bin ?_; first | (refine is_b_xor ?_; first | refine w_read rfl (.inl ⟨rfl, rfl⟩) (p_xor rfl rfl q_81842) ?_) | (refine is_b_shl ?_; first | refine w_read rfl (.inl ⟨rfl, rfl⟩) (p_shl rfl rfl q_6f6ae q_81842) ?_) | (refine is_b_shr ?_; first | refine w_read rfl (.inl ⟨rfl, rfl⟩) (p_shr rfl rfl q_6f6ae q_81842) ?_)) | (refine is_conv ?_; first | refine w_read rfl (.inl ⟨rfl, rfl⟩) q_33588 ?_ | refine w_strb rfl rfl (by kernel_rfl) (by kernel_rfl) rfl (.inl ⟨rfl, rfl⟩) ?_)) | (first | refine awp_seq ?_ | refine thenA_ret ?_ | refine blockA_ret ?_ | refine awp_block ?_ | refine awp_text ?_ | refine awp_any (by kernel_rfl) ?_ | refine w_nilT ?_ | refine w_nil (by kernel_rfl) ?_ | refine awp_condT rfl ?_ | refine awp_condF rfl ?_ | refine awp_skip ?_ | refine awp_exit ?_ | refine awp_ret ?_) | (refine awp_cond rfl (fun hb => ?_) (fun hb => ?_) <;> (try simp only [Bool.not_eq_true', Bool.not_eq_false', decide_eq_true_eq, decide_eq_false_iff_not] at hb) <;> (try (exfalso; omega)))))
    all_goals exact ret1 [] (.r _) rfl rfl rfl
theorem refZigzag_m (v : Int) (hv : I64 v) : Meets Try.prog 113 [.r (.v (.int .i64 v))] [] (.r (.v (.int .u64 (zz v)))) [] := by
  refine fn_of Try.func113 rfl (Nat.le_of_ble_eq_true rfl) rfl rfl ?_
  have hv2 : -9223372036854775808 ≤ v ∧ v < 9223372036854775808 := hv
  rcases Int.lt_or_le v 0 with h | h
  · obtain ⟨n, hn⟩ : ∃ n : Nat, v = -((n : Int) + 1) := ⟨(-v - 1).toNat, by omega⟩
    subst hn
    have c1 : IntKind.i64.wrap (-((n : Int) + 1) + 1) = -(n : Int) := by rw [IntKind.wrap_i64]; omega
    have c2 : IntKind.i64.wrap (0 - -(n : Int)) = (n : Int) := by rw [IntKind.wrap_i64]; omega
    have c3 : IntKind.u64.wrap (n : Int) = (n : Int) := by rw [IntKind.wrap_u64]; omega
    have c4 : IntKind.u64.wrap (2 * (n : Int)) = ((2 * n : Nat) : Int) := by rw [IntKind.wrap_u64]; omega
    have c5 : IntKind.u64.wrap (((2 * n : Nat) : Int) + 1) = ((zz (-((n : Int) + 1)) : Nat) : Int) := by
      unfold zz
      rw [if_neg (by omega), IntKind.wrap_u64]
      omega
    generalize zz (-((n : Int) + 1)) = z at *
    (repeat' (first | (first | (refine is_move ?_; first | refine w_read rfl (.inl ⟨rfl, rfl⟩) q_2ce30 ?_) | (refine is_assign ?_; first | refine w_read rfl (.inl ⟨rfl, rfl⟩) q_732c1 ?_) | (refine is_bin ?_; first | (refine is_b_add ?_; first | refine w_read rfl (.inl ⟨rfl, rfl⟩) (p_add rfl rfl q_cc899) ?_) | (refine is_b_mul ?_; first | refine w_read rfl (.inl ⟨rfl, rfl⟩) (p_mul rfl rfl q_cc899) ?_) | (refine is_b_geq ?_; first | (refine w_dec rfl (.inl ⟨rfl, rfl⟩) (p_geq rfl rfl) (fun hb => ?_) (fun hb => ?_) <;> (try (exfalso; omega))))) | (refine is_conv ?_; first | refine w_read rfl (.inl ⟨rfl, rfl⟩) q_33588 ?_ | refine w_strb rfl rfl (by kernel_rfl) (by kernel_rfl) rfl (.inl ⟨rfl, rfl⟩) ?_) | (refine is_un ?_; first | (refine is_u_neg ?_; first | refine w_read rfl (.inl ⟨rfl, rfl⟩) (p_neg rfl q_cc899) ?_))) | (first | refine awp_seq ?_ | refine thenA_ret ?_ | refine blockA_ret ?_ | refine awp_block ?_ | refine awp_text ?_ | refine awp_any (by kernel_rfl) ?_ | refine w_nilT ?_ | refine w_nil (by kernel_rfl) ?_ | refine awp_condT rfl ?_ | refine awp_condF rfl ?_ | refine awp_skip ?_ | refine awp_exit ?_ | refine awp_ret ?_) | (refine awp_cond rfl (fun hb => ?_) (fun hb => ?_) <;> (try simp only [Bool.not_eq_true', Bool.not_eq_false', decide_eq_true_eq, decide_eq_false_iff_not] at hb) <;> (try (exfalso; omega)))))
    all_goals exact ret1 [] (.r _) rfl rfl rfl
  · obtain ⟨n, rfl⟩ := Int.eq_ofNat_of_zero_le h
    have c1 : IntKind.u64.wrap (n : Int) = (n : Int) := by rw [IntKind.wrap_u64]; omega
    have c2 : IntKind.u64.wrap (2 * (n : Int)) = ((zz (n : Int) : Nat) : Int) := by
      unfold zz
      rw [if_pos (by omega), IntKind.wrap_u64]; omega
    generalize zz (n : Int) = z at *
    (repeat' (first | (first | (refine is_move ?_; first | refine w_read rfl (.inl ⟨rfl, rfl⟩) q_2ce30 ?_) | (refine is_assign ?_; first | refine w_read rfl (.inl ⟨rfl, rfl⟩) q_732c1 ?_) | (refine is_bin ?_; first | (refine is_b_add ?_; first | refine w_read rfl (.inl ⟨rfl, rfl⟩) (p_add rfl rfl q_cc899) ?_) | (refine is_b_mul ?_; first | refine w_read rfl (.inl ⟨rfl, rfl⟩) (p_mul rfl rfl q_cc899) ?_) | (refine is_b_geq ?_; first | (refine w_dec rfl (.inl ⟨rfl, rfl⟩) (p_geq rfl rfl) (fun hb => ?_) (fun hb => ?_) <;> (try (exfalso; omega))))) | (refine is_conv ?_; first | refine w_read rfl (.inl ⟨rfl, rfl⟩) q_33588 ?_ | refine w_strb rfl rfl (by kernel_rfl) (by kernel_rfl) rfl (.inl ⟨rfl, rfl⟩) ?_) | (refine is_un ?_; first | (refine is_u_neg ?_; first | refine w_read rfl (.inl ⟨rfl, rfl⟩) (p_neg rfl q_cc899) ?_))) | (first | refine awp_seq ?_ | refine thenA_ret ?_ | refine blockA_ret ?_ | refine awp_block ?_ | refine awp_text ?_ | refine awp_any (by kernel_rfl) ?_ | refine w_nilT ?_ | refine w_nil (by kernel_rfl) ?_ | refine awp_condT rfl ?_ | refine awp_condF rfl ?_ | refine awp_skip ?_ | refine awp_exit ?_ | refine awp_ret ?_) | (refine awp_cond rfl (fun hb => ?_) (fun hb => ?_) <;> (try simp only [Bool.not_eq_true', Bool.not_eq_false', decide_eq_true_eq, decide_eq_false_iff_not] at hb) <;> (try (exfalso; omega)))))
    all_goals exact ret1 [] (.r _) rfl rfl rfl
theorem varAppendS_m (l : List UInt8) (v : Int) (hv : I64 v) (hl : l.length ≤ 140737488355100) : Meets Try.prog 110 [.r (.sl 1 (bys l)), .r (.v (.int .i64 v))] [] (.fr 5 1 (bys (l ++ vb (zz v)))) [] := by
  refine fn_of Try.func110 rfl (Nat.le_of_ble_eq_true rfl) rfl rfl ?_
  (repeat' (first | ((first | (refine is_f 129 ?_; refine w_call [] [] (zigzag_m v hv) q_2f365 (by kernel_rfl) (fun g h => by cases h) (fun i b h => by cases h) (.inl rfl) rfl rfl rfl q_85eb5 ?_) | (refine is_f 109 ?_; refine w_call [] [] (varAppend_m l (zz v) (zz_lt hv) hl) q_2f365 (by kernel_rfl) (fun g h => by cases h) (fun i b h => by cases h) (.inl rfl) rfl rfl rfl q_85eb5 ?_)); try dsimp only [AV.unfr, AV.unfrs, frsL, pairs, rdOf, @List.length_cons Blk, @List.length_nil Blk, @List.nil_append (Nat × Option Blk), @List.cons_append (Nat × Option Blk), @List.nil_append Blk, @List.cons_append Blk, Nat.add_zero, Nat.zero_add, Nat.reduceAdd]) | (first | (refine is_move ?_; first | refine w_read rfl (.inl ⟨rfl, rfl⟩) q_2ce30 ?_) | (refine is_assign ?_; first | refine w_read rfl (.inl ⟨rfl, rfl⟩) q_732c1 ?_)) | (first | refine awp_seq ?_ | refine thenA_ret ?_ | refine blockA_ret ?_ | refine awp_block ?_ | refine awp_text ?_ | refine awp_any (by kernel_rfl) ?_ | refine w_nilT ?_ | refine w_nil (by kernel_rfl) ?_ | refine awp_condT rfl ?_ | refine awp_condF rfl ?_ | refine awp_skip ?_ | refine awp_exit ?_ | refine awp_ret ?_) | (refine awp_cond rfl (fun hb => ?_) (fun hb => ?_) <;> (try simp only [Bool.not_eq_true', Bool.not_eq_false', decide_eq_true_eq, decide_eq_false_iff_not] at hb) <;> (try (exfalso; omega)))))
  all_goals exact ret1 [] (.fr 0 _ _ _ rfl) rfl rfl rfl
theorem refVarAppendS_m (l : List UInt8) (v : Int) (hv : I64 v) (hl : l.length ≤ 140737488355100) : Meets Try.prog 80 [.r (.sl 1 (bys l)), .r (.v (.int .i64 v))] [] (.fr 5 1 (bys (l ++ vb (zz v)))) [] := by
  refine fn_of Try.func80 rfl (Nat.le_of_ble_eq_true rfl) rfl rfl ?_
  (repeat' (first | ((first | (refine is_f 113 ?_; refine w_call [] [] (refZigzag_m v hv) q_2f365 (by kernel_rfl) (fun g h => by cases h) (fun i b h => by cases h) (.inl rfl) rfl rfl rfl q_85eb5 ?_) | (refine is_f 79 ?_; refine w_call [] [] (refVarAppend_m l (zz v) (zz_lt hv) hl) q_2f365 (by kernel_rfl) (fun g h => by cases h) (fun i b h => by cases h) (.inl rfl) rfl rfl rfl q_85eb5 ?_)); try dsimp only [AV.unfr, AV.unfrs, frsL, pairs, rdOf, @List.length_cons Blk, @List.length_nil Blk, @List.nil_append (Nat × Option Blk), @List.cons_append (Nat × Option Blk), @List.nil_append Blk, @List.cons_append Blk, Nat.add_zero, Nat.zero_add, Nat.reduceAdd]) | (first | (refine is_move ?_; first | refine w_read rfl (.inl ⟨rfl, rfl⟩) q_2ce30 ?_) | (refine is_assign ?_; first | refine w_read rfl (.inl ⟨rfl, rfl⟩) q_732c1 ?_)) | (first | refine awp_seq ?_ | refine thenA_ret ?_ | refine blockA_ret ?_ | refine awp_block ?_ | refine awp_text ?_ | refine awp_any (by kernel_rfl) ?_ | refine w_nilT ?_ | refine w_nil (by kernel_rfl) ?_ | refine awp_condT rfl ?_ | refine awp_condF rfl ?_ | refine awp_skip ?_ | refine awp_exit ?_ | refine awp_ret ?_) | (refine awp_cond rfl (fun hb => ?_) (fun hb => ?_) <;> (try simp only [Bool.not_eq_true', Bool.not_eq_false', decide_eq_true_eq, decide_eq_false_iff_not] at hb) <;> (try (exfalso; omega)))))
  all_goals exact ret1 [] (.fr 0 _ _ _ rfl) rfl rfl rfl
end Go.Proofs.Ytabgmodllifgjaa
