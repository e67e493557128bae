/- Reading numbers in groups of seven bits. Plain words; the groups of both. Conditions: lengths. --ext4 -/
import Derived.Test.YtabgmodllifgjaaVa3
namespace Go.Proofs.Ytabgmodllifgjaa
open Go.RowKit Go.Ab
set_option maxRecDepth 100000
set_option linter.unusedVariables false
set_option linter.unusedSimpArgs false

/-- How many bytes from the first on have another one behind them, of the first f. -/
def cnt : Nat → List UInt8 → Nat
  | 0, _ => 0
  | _ + 1, [] => 0
  | f + 1, b :: r => if b.toNat < 128 then 0 else cnt f r + 1
theorem cnt_spec : ∀ (f : Nat) (R : List UInt8), cnt f R ≤ f ∧ cnt f R ≤ R.length ∧ (∀ i, i < cnt f R → 128 ≤ (R.getD i 0).toNat) ∧ (cnt f R < f → cnt f R < R.length → (R.getD (cnt f R) 0).toNat < 128)
  | 0, R => ⟨Nat.le_refl _, Nat.zero_le _, fun i h => by simp [cnt] at h, fun h => by simp [cnt] at h⟩
  | f + 1, [] => ⟨Nat.zero_le _, Nat.le_refl _, fun i h => by simp [cnt] at h, fun _ h => by simp [cnt] at h⟩
  | f + 1, b :: r => by
    rw [cnt]
    split
    · rename_i hb
      exact ⟨Nat.zero_le _, Nat.zero_le _, fun i h => by omega, fun _ _ => by simpa using hb⟩
    · rename_i hb
      obtain ⟨h1, h2, h3, h4⟩ := cnt_spec f r
      refine ⟨by omega, by simp; omega, fun i hi => ?_, fun h5 h6 => ?_⟩
      · cases i with
        | zero => simp; omega
        | succ i => simpa using h3 i (by omega)
      · simpa using h4 (by omega) (by simpa using h6)
/-- The number that groups make. -/
def gv : List UInt8 → Nat
  | [] => 0
  | b :: r => b.toNat % 128 + 128 * gv r
theorem gv_snoc : ∀ (g : List UInt8) (x : UInt8), gv (g ++ [x]) = gv g + 128 ^ g.length * (x.toNat % 128)
  | [], x => by simp [gv]
  | b :: r, x => by
    rw [List.cons_append, gv, gv, gv_snoc r x, List.length_cons, Nat.pow_succ, Nat.mul_add, ← Nat.mul_assoc, Nat.mul_comm 128 (128 ^ r.length)]
    omega
theorem gv_lt : ∀ (g : List UInt8), gv g < 128 ^ g.length
  | [] => by simp [gv]
  | b :: r => by
    have := gv_lt r
    rw [gv, List.length_cons, Nat.pow_succ]
    omega
theorem gv_drop : ∀ (g : List UInt8) (i : Nat), i < g.length → gv (g.drop i) = (g.getD i 0).toNat % 128 + 128 * gv (g.drop (i + 1))
  | b :: r, 0, _ => by simp [gv]
  | b :: r, i + 1, h => by
    have := gv_drop r i (by simpa using h)
    simpa using this
theorem gv_drop_le : ∀ (g : List UInt8) (i : Nat), gv (g.drop i) ≤ gv g
  | g, 0 => Nat.le_refl _
  | [], i + 1 => by simp
  | b :: r, i + 1 => by
    have := gv_drop_le r i
    rw [List.drop_succ_cons, gv]
    omega
/-- What reading at a place gives: the number, the next place, the error. -/
def rdN (b : List UInt8) (a : Int) : Nat × Int × Nat :=
  if a < 0 ∨ (b.length : Int) < a then (0, 0, 2)
  else
    let R := b.drop a.toNat
    let e := cnt 10 R
    if e = 10 then (0, 0, 5)
    else if e = R.length then (0, 0, 4)
    else if (0 < e ∧ (R.getD e 0).toNat = 0) ∨ (e = 9 ∧ 1 < (R.getD e 0).toNat) then (0, 0, 5)
    else (gv (R.take (e + 1)), a + ((e + 1 : Nat) : Int), 0)
theorem rdN_out (b : List UInt8) (a : Int) (h : a < 0 ∨ (b.length : Int) < a) : rdN b a = (0, 0, 2) := if_pos h
theorem rdN_ten (b : List UInt8) (n : Nat) (h : n ≤ b.length) (h1 : cnt 10 (b.drop n) = 10) : rdN b (n : Int) = (0, 0, 5) := by
  unfold rdN
  rw [if_neg (by omega)]
  simp only [Int.toNat_natCast]
  rw [if_pos h1]
theorem rdN_end (b : List UInt8) (n : Nat) (h : n ≤ b.length) (h1 : cnt 10 (b.drop n) ≠ 10) (h2 : cnt 10 (b.drop n) = (b.drop n).length) : rdN b (n : Int) = (0, 0, 4) := by
  unfold rdN
  rw [if_neg (by omega)]
  simp only [Int.toNat_natCast]
  rw [if_neg h1, if_pos h2]
theorem rdN_bad (b : List UInt8) (n : Nat) (h : n ≤ b.length) (h1 : cnt 10 (b.drop n) ≠ 10) (h2 : cnt 10 (b.drop n) ≠ (b.drop n).length)
    (h3 : (0 < cnt 10 (b.drop n) ∧ ((b.drop n).getD (cnt 10 (b.drop n)) 0).toNat = 0) ∨ (cnt 10 (b.drop n) = 9 ∧ 1 < ((b.drop n).getD (cnt 10 (b.drop n)) 0).toNat)) : rdN b (n : Int) = (0, 0, 5) := by
  unfold rdN
  rw [if_neg (by omega)]
  simp only [Int.toNat_natCast]
  rw [if_neg h1, if_neg h2, if_pos h3]
theorem rdN_ok (b : List UInt8) (n : Nat) (h : n ≤ b.length) (h1 : cnt 10 (b.drop n) ≠ 10) (h2 : cnt 10 (b.drop n) ≠ (b.drop n).length)
    (h3 : ¬ ((0 < cnt 10 (b.drop n) ∧ ((b.drop n).getD (cnt 10 (b.drop n)) 0).toNat = 0) ∨ (cnt 10 (b.drop n) = 9 ∧ 1 < ((b.drop n).getD (cnt 10 (b.drop n)) 0).toNat))) :
    rdN b (n : Int) = (gv ((b.drop n).take (cnt 10 (b.drop n) + 1)), (n : Int) + ((cnt 10 (b.drop n) + 1 : Nat) : Int), 0) := by
  unfold rdN
  rw [if_neg (by omega)]
  simp only [Int.toNat_natCast]
  rw [if_neg h1, if_neg h2, if_neg h3]
/-- Groups that are read make a number of 64 bits. -/
theorem gv_64 (g : List UInt8) (h : g.length ≤ 10) (h10 : g.length = 10 → (g.getD 9 0).toNat ≤ 1) : gv g < 18446744073709551616 := by
  rcases Nat.lt_or_ge g.length 10 with h1 | h1
  · refine Nat.lt_of_lt_of_le (gv_lt g) (Nat.le_trans (Nat.pow_le_pow_right (by omega) (show g.length ≤ 9 by omega)) ?_)
    rw [show (128 : Nat) ^ 9 = 9223372036854775808 from rfl]
    omega
  · have hl : g.length = 10 := by omega
    have e : g = g.take 9 ++ [g.getD 9 0] := by
      have := take_succ_getD g 9 0 (by omega)
      rw [List.take_of_length_le (by omega)] at this
      exact this
    have h9 := h10 hl
    generalize g.getD 9 0 = x at *
    have hl9 : (g.take 9).length = 9 := by rw [List.length_take]; omega
    have hb := gv_lt (g.take 9)
    rw [e, gv_snoc]
    rw [hl9] at hb ⊢
    rw [show (128 : Nat) ^ 9 = 9223372036854775808 from rfl] at hb ⊢
    omega

/-! The program's groups -/
theorem less_m (c : UInt8) : Meets Try.prog 139 [.r (.v (.int .u8 c.toNat))] [] (.r (.v (.bool (decide (c.toNat < 128))))) [] := by
  refine fn_of Try.func139 rfl (Nat.le_of_ble_eq_true rfl) rfl rfl ?_
  (repeat' (first | (first | (refine is_move ?_; first | refine w_read rfl (.inl ⟨rfl, rfl⟩) q_2ce30 ?_) | (refine is_assign ?_; first | refine w_read rfl (.inl ⟨rfl, rfl⟩) q_732c1 ?_) | (refine is_bin ?_; first | (refine is_b_lss ?_; first | (refine w_dec rfl (.inl ⟨rfl, rfl⟩) (p_lss rfl rfl) (fun hb => ?_) (fun hb => ?_) <;> (try (exfalso; omega)))))) | (first | refine awp_seq ?_ | refine thenA_ret ?_ | refine blockA_ret ?_ | refine awp_block ?_ | refine awp_text ?_ | refine awp_any (by kernel_rfl) ?_ | refine w_nilT ?_ | refine w_nil (by kernel_rfl) ?_ | refine awp_condT rfl ?_ | refine awp_condF rfl ?_ | refine awp_skip ?_ | refine awp_exit ?_ | refine awp_ret ?_) | (refine awp_cond rfl (fun hb => ?_) (fun hb => ?_) <;> (try simp only [Bool.not_eq_true', Bool.not_eq_false', decide_eq_true_eq, decide_eq_false_iff_not] at hb) <;> (try (exfalso; omega)))))
  · exact ret1 [] (.bool (decide_eq_true (by omega)).symm) rfl rfl rfl
  · exact ret1 [] (.bool (decide_eq_false (by omega)).symm) rfl rfl rfl
theorem indexFunc_m (L : List UInt8) (e : Nat) (h1 : e ≤ L.length) (h2 : ∀ i, i < e → 128 ≤ (L.getD i 0).toNat) (h3 : e < L.length → (L.getD e 0).toNat < 128) (hL : L.length ≤ 1000000) :
    Meets Try.prog 138 [.r (.sl 1 (bys L)), .r (.v (.func (.func 139) #[] #[]))] [] (.r (.v (.int .i64 (if e < L.length then (e : Int) else -1)))) [] := by
  refine fn_of Try.func138 rfl (Nat.le_of_ble_eq_true rfl) rfl rfl ?_
  have hll := bys_len L
  (repeat' (first | (first | (refine is_move ?_; first | refine w_read rfl (.inl ⟨rfl, rfl⟩) q_2ce30 ?_) | (refine is_assign ?_; first | refine w_read rfl (.inl ⟨rfl, rfl⟩) q_732c1 ?_) | (refine is_load ?_; first | refine w_read rfl (.inl ⟨rfl, rfl⟩) q_98330 ?_) | (refine is_bin ?_; first | (refine is_b_add ?_; first | refine w_read rfl (.inl ⟨rfl, rfl⟩) (p_add rfl rfl q_cc899) ?_) | (refine is_b_lss ?_; first | (refine w_dec rfl (.inl ⟨rfl, rfl⟩) (p_lss rfl rfl) (fun hb => ?_) (fun hb => ?_) <;> (try (exfalso; omega))))) | (refine is_call ?_; first | (refine is_c_len ?_; first | refine w_read rfl (.inl ⟨rfl, rfl⟩) q_e710b ?_)) | (refine is_iaddr ?_; first | refine w_read rfl (.inl ⟨rfl, rfl⟩) q_0ab11 ?_)) | (first | refine awp_seq ?_ | refine thenA_ret ?_ | refine blockA_ret ?_ | refine awp_block ?_ | refine awp_text ?_ | refine awp_any (by kernel_rfl) ?_ | refine w_nilT ?_ | refine w_nil (by kernel_rfl) ?_ | refine awp_condT rfl ?_ | refine awp_condF rfl ?_ | refine awp_skip ?_ | refine awp_exit ?_ | refine awp_ret ?_) | (refine awp_cond rfl (fun hb => ?_) (fun hb => ?_) <;> (try simp only [Bool.not_eq_true', Bool.not_eq_false', decide_eq_true_eq, decide_eq_false_iff_not] at hb) <;> (try (exfalso; omega)))))
  refine awp_loop' (fun k => ⟨[(0, .r (.sl 1 (bys L))), (1, .r (.v (.func (.func 139) #[] #[]))), (7, .r (.v (.int .i64 L.length))), (8, .r (.v (.int .i64 (k : Nat))))], [], 0⟩) (fun k => k ≤ e) (fun k => e - k) 0 (Nat.zero_le _) (by (refine Le.mk [] [] rfl q_30dea q_5650d q_509a2)) fun k hk => ?_
  rcases Nat.lt_or_ge k e with h | h
  · have hc := less_m (L.getD k 0)
    have hm := h2 k h
    rw [decide_eq_false (by omega)] at hc
    (repeat' (first | ((first | (refine is_fv ?_; refine w_callC q_8bb23 [] _ _ (hc) q_2f365 q_7dd93 q_d0812 rfl rfl rfl q_85eb5 ?_)); try dsimp only [AV.unfr, AV.unfrs, frsL, pairs, rdOf, @List.length_cons Blk, @List.length_nil Blk, @List.nil_append (Nat × Option Blk), @List.cons_append (Nat × Option Blk), @List.nil_append Blk, @List.cons_append Blk, Nat.add_zero, Nat.zero_add, Nat.reduceAdd]) | (first | (refine is_move ?_; first | refine w_read rfl (.inl ⟨rfl, rfl⟩) q_2ce30 ?_) | (refine is_assign ?_; first | refine w_read rfl (.inl ⟨rfl, rfl⟩) q_732c1 ?_) | (refine is_load ?_; first | refine w_read rfl (.inl ⟨rfl, rfl⟩) q_98330 ?_) | (refine is_bin ?_; first | (refine is_b_add ?_; first | refine w_read rfl (.inl ⟨rfl, rfl⟩) (p_add rfl rfl q_cc899) ?_) | (refine is_b_lss ?_; first | (refine w_dec rfl (.inl ⟨rfl, rfl⟩) (p_lss rfl rfl) (fun hb => ?_) (fun hb => ?_) <;> (try (exfalso; omega))))) | (refine is_call ?_; first | (refine is_c_len ?_; first | refine w_read rfl (.inl ⟨rfl, rfl⟩) q_e710b ?_)) | (refine is_iaddr ?_; first | refine w_read rfl (.inl ⟨rfl, rfl⟩) q_0ab11 ?_)) | (first | refine awp_seq ?_ | refine thenA_ret ?_ | refine blockA_ret ?_ | refine awp_block ?_ | refine awp_text ?_ | refine awp_any (by kernel_rfl) ?_ | refine w_nilT ?_ | refine w_nil (by kernel_rfl) ?_ | refine awp_condT rfl ?_ | refine awp_condF rfl ?_ | refine awp_skip ?_ | refine awp_exit ?_ | refine awp_ret ?_) | (refine awp_cond rfl (fun hb => ?_) (fun hb => ?_) <;> (try simp only [Bool.not_eq_true', Bool.not_eq_false', decide_eq_true_eq, decide_eq_false_iff_not] at hb) <;> (try (exfalso; omega)))))
    all_goals exact ⟨k + 1, h, by (refine Le.mk [] [] rfl q_30dea q_5650d q_509a2), by omega⟩
  · obtain rfl : k = e := by omega
    rcases Nat.lt_or_ge k L.length with h5 | h5
    · have hc := less_m (L.getD k 0)
      rw [decide_eq_true (h3 h5)] at hc
      rw [if_pos h5]
      (repeat' (first | ((first | (refine is_fv ?_; refine w_callC q_8bb23 [] _ _ (hc) q_2f365 q_7dd93 q_d0812 rfl rfl rfl q_85eb5 ?_)); try dsimp only [AV.unfr, AV.unfrs, frsL, pairs, rdOf, @List.length_cons Blk, @List.length_nil Blk, @List.nil_append (Nat × Option Blk), @List.cons_append (Nat × Option Blk), @List.nil_append Blk, @List.cons_append Blk, Nat.add_zero, Nat.zero_add, Nat.reduceAdd]) | (first | (refine is_move ?_; first | refine w_read rfl (.inl ⟨rfl, rfl⟩) q_2ce30 ?_) | (refine is_assign ?_; first | refine w_read rfl (.inl ⟨rfl, rfl⟩) q_732c1 ?_) | (refine is_load ?_; first | refine w_read rfl (.inl ⟨rfl, rfl⟩) q_98330 ?_) | (refine is_bin ?_; first | (refine is_b_add ?_; first | refine w_read rfl (.inl ⟨rfl, rfl⟩) (p_add rfl rfl q_cc899) ?_) | (refine is_b_lss ?_; first | (refine w_dec rfl (.inl ⟨rfl, rfl⟩) (p_lss rfl rfl) (fun hb => ?_) (fun hb => ?_) <;> (try (exfalso; omega))))) | (refine is_call ?_; first | (refine is_c_len ?_; first | refine w_read rfl (.inl ⟨rfl, rfl⟩) q_e710b ?_)) | (refine is_iaddr ?_; first | refine w_read rfl (.inl ⟨rfl, rfl⟩) q_0ab11 ?_)) | (first | refine awp_seq ?_ | refine thenA_ret ?_ | refine blockA_ret ?_ | refine awp_block ?_ | refine awp_text ?_ | refine awp_any (by kernel_rfl) ?_ | refine w_nilT ?_ | refine w_nil (by kernel_rfl) ?_ | refine awp_condT rfl ?_ | refine awp_condF rfl ?_ | refine awp_skip ?_ | refine awp_exit ?_ | refine awp_ret ?_) | (refine awp_cond rfl (fun hb => ?_) (fun hb => ?_) <;> (try simp only [Bool.not_eq_true', Bool.not_eq_false', decide_eq_true_eq, decide_eq_false_iff_not] at hb) <;> (try (exfalso; omega)))))
      all_goals exact ret1 [] (.r _) rfl rfl rfl
    · rw [if_neg (by omega)]
      (repeat' (first | (first | (refine is_move ?_; first | refine w_read rfl (.inl ⟨rfl, rfl⟩) q_2ce30 ?_) | (refine is_assign ?_; first | refine w_read rfl (.inl ⟨rfl, rfl⟩) q_732c1 ?_) | (refine is_load ?_; first | refine w_read rfl (.inl ⟨rfl, rfl⟩) q_98330 ?_) | (refine is_bin ?_; first | (refine is_b_add ?_; first | refine w_read rfl (.inl ⟨rfl, rfl⟩) (p_add rfl rfl q_cc899) ?_) | (refine is_b_lss ?_; first | (refine w_dec rfl (.inl ⟨rfl, rfl⟩) (p_lss rfl rfl) (fun hb => ?_) (fun hb => ?_) <;> (try (exfalso; omega))))) | (refine is_call ?_; first | (refine is_c_len ?_; first | refine w_read rfl (.inl ⟨rfl, rfl⟩) q_e710b ?_)) | (refine is_iaddr ?_; first | refine w_read rfl (.inl ⟨rfl, rfl⟩) q_0ab11 ?_)) | (first | refine awp_seq ?_ | refine thenA_ret ?_ | refine blockA_ret ?_ | refine awp_block ?_ | refine awp_text ?_ | refine awp_any (by kernel_rfl) ?_ | refine w_nilT ?_ | refine w_nil (by kernel_rfl) ?_ | refine awp_condT rfl ?_ | refine awp_condF rfl ?_ | refine awp_skip ?_ | refine awp_exit ?_ | refine awp_ret ?_) | (refine awp_cond rfl (fun hb => ?_) (fun hb => ?_) <;> (try simp only [Bool.not_eq_true', Bool.not_eq_false', decide_eq_true_eq, decide_eq_false_iff_not] at hb) <;> (try (exfalso; omega)))))
      all_goals exact ret1 [] (.r _) rfl rfl rfl
theorem groups_out (b : List UInt8) (a : Int) (h : a < 0 ∨ (b.length : Int) < a) : Meets Try.prog 132 [.r (.sl 1 (bys b)), .r (.v (.int .i64 a)), .r (.v (.int .i64 10))] [] (.tu [.r (.v (.slice none 0 0)), .r (.v (.int .i64 2))]) [] := by
  refine fn_of Try.func132 rfl (Nat.le_of_ble_eq_true rfl) rfl rfl ?_
  have hll := bys_len b
  rcases h with h | h
  · (repeat' (first | (first | (refine is_move ?_; first | refine w_skip rfl q_d6b09 ?_ | refine w_read rfl q_85eb5 q_2ce30 ?_) | (refine is_assign ?_; first | refine w_read rfl (.inl ⟨rfl, rfl⟩) q_732c1 ?_) | (refine is_load ?_; first | refine w_skip rfl q_d6b09 ?_ | refine w_read rfl q_85eb5 q_98330 ?_) | (refine is_pick ?_; first | refine w_skip rfl q_d6b09 ?_ | refine w_read rfl q_85eb5 q_651c9 ?_) | (refine is_bin ?_; first | (refine is_b_add ?_; first | refine w_read rfl (.inl ⟨rfl, rfl⟩) (p_add rfl rfl q_cc899) ?_) | (refine is_b_lss ?_; first | refine w_skip rfl q_d6b09 ?_ | (refine w_dec rfl q_85eb5 (p_lss rfl rfl) (fun hb => ?_) (fun hb => ?_) <;> (try (exfalso; omega)))) | (refine is_b_gtr ?_; first | refine w_skip rfl q_d6b09 ?_ | (refine w_dec rfl q_85eb5 (p_gtr rfl rfl) (fun hb => ?_) (fun hb => ?_) <;> (try (exfalso; omega)))) | (refine is_b_eql ?_; first | refine w_skip rfl q_d6b09 ?_ | (refine w_dec rfl q_85eb5 (p_eql rfl rfl) (fun hb => ?_) (fun hb => ?_) <;> (try (exfalso; omega))) | refine w_read rfl q_85eb5 (p_eqlb (by kernel_rfl) rfl rfl) ?_ | (refine w_dec rfl q_85eb5 (p_seql rfl rfl) (fun hb => ?_) (fun hb => ?_)) | (refine w_dec rfl q_85eb5 (p_eqag rfl rfl rfl rfl) (fun hb => ?_) (fun hb => ?_)))) | (refine is_call ?_; first | refine w_skip rfl q_d6b09 ?_ | (refine is_c_len ?_; first | refine w_skip rfl q_d6b09 ?_ | refine w_read rfl q_85eb5 q_e710b ?_) | (refine is_c_min ?_; first | refine w_read rfl (.inl ⟨rfl, rfl⟩) (p_min2 rfl rfl q_d00c3) ?_)) | (refine is_iaddr ?_; first | refine w_skip rfl q_d6b09 ?_ | refine w_read rfl q_85eb5 q_0ab11 ?_) | (refine is_slice ?_; first | refine w_read rfl (.inl ⟨rfl, rfl⟩) q_2cc34 ?_) | (refine is_slice ?_; first | refine w_read rfl (.inl ⟨rfl, rfl⟩) q_f4223 ?_) | (refine is_slice ?_; first | refine w_read rfl (.inl ⟨rfl, rfl⟩) (p_cuth_row rfl rfl rfl q_6ac1f q_c1572 q_c1572) ?_)) | (first | refine awp_seq ?_ | refine thenA_ret ?_ | refine blockA_ret ?_ | refine awp_block ?_ | refine awp_text ?_ | refine awp_any (by kernel_rfl) ?_ | refine w_nilT ?_ | refine w_nil (by kernel_rfl) ?_ | refine awp_condT rfl ?_ | refine awp_condF rfl ?_ | refine awp_skip ?_ | refine awp_exit ?_ | refine awp_ret ?_) | (refine awp_cond rfl (fun hb => ?_) (fun hb => ?_) <;> (try simp only [Bool.not_eq_true', Bool.not_eq_false', decide_eq_true_eq, decide_eq_false_iff_not] at hb) <;> (try (exfalso; omega)))))
    all_goals exact ret2 [] (.r _) (.r _) rfl rfl rfl rfl
  · (repeat' (first | (first | (refine is_move ?_; first | refine w_skip rfl q_d6b09 ?_ | refine w_read rfl q_85eb5 q_2ce30 ?_) | (refine is_assign ?_; first | refine w_read rfl (.inl ⟨rfl, rfl⟩) q_732c1 ?_) | (refine is_load ?_; first | refine w_skip rfl q_d6b09 ?_ | refine w_read rfl q_85eb5 q_98330 ?_) | (refine is_pick ?_; first | refine w_skip rfl q_d6b09 ?_ | refine w_read rfl q_85eb5 q_651c9 ?_) | (refine is_bin ?_; first | (refine is_b_add ?_; first | refine w_read rfl (.inl ⟨rfl, rfl⟩) (p_add rfl rfl q_cc899) ?_) | (refine is_b_lss ?_; first | refine w_skip rfl q_d6b09 ?_ | (refine w_dec rfl q_85eb5 (p_lss rfl rfl) (fun hb => ?_) (fun hb => ?_) <;> (try (exfalso; omega)))) | (refine is_b_gtr ?_; first | refine w_skip rfl q_d6b09 ?_ | (refine w_dec rfl q_85eb5 (p_gtr rfl rfl) (fun hb => ?_) (fun hb => ?_) <;> (try (exfalso; omega)))) | (refine is_b_eql ?_; first | refine w_skip rfl q_d6b09 ?_ | (refine w_dec rfl q_85eb5 (p_eql rfl rfl) (fun hb => ?_) (fun hb => ?_) <;> (try (exfalso; omega))) | refine w_read rfl q_85eb5 (p_eqlb (by kernel_rfl) rfl rfl) ?_ | (refine w_dec rfl q_85eb5 (p_seql rfl rfl) (fun hb => ?_) (fun hb => ?_)) | (refine w_dec rfl q_85eb5 (p_eqag rfl rfl rfl rfl) (fun hb => ?_) (fun hb => ?_)))) | (refine is_call ?_; first | refine w_skip rfl q_d6b09 ?_ | (refine is_c_len ?_; first | refine w_skip rfl q_d6b09 ?_ | refine w_read rfl q_85eb5 q_e710b ?_) | (refine is_c_min ?_; first | refine w_read rfl (.inl ⟨rfl, rfl⟩) (p_min2 rfl rfl q_d00c3) ?_)) | (refine is_iaddr ?_; first | refine w_skip rfl q_d6b09 ?_ | refine w_read rfl q_85eb5 q_0ab11 ?_) | (refine is_slice ?_; first | refine w_read rfl (.inl ⟨rfl, rfl⟩) q_2cc34 ?_) | (refine is_slice ?_; first | refine w_read rfl (.inl ⟨rfl, rfl⟩) q_f4223 ?_) | (refine is_slice ?_; first | refine w_read rfl (.inl ⟨rfl, rfl⟩) (p_cuth_row rfl rfl rfl q_6ac1f q_c1572 q_c1572) ?_)) | (first | refine awp_seq ?_ | refine thenA_ret ?_ | refine blockA_ret ?_ | refine awp_block ?_ | refine awp_text ?_ | refine awp_any (by kernel_rfl) ?_ | refine w_nilT ?_ | refine w_nil (by kernel_rfl) ?_ | refine awp_condT rfl ?_ | refine awp_condF rfl ?_ | refine awp_skip ?_ | refine awp_exit ?_ | refine awp_ret ?_) | (refine awp_cond rfl (fun hb => ?_) (fun hb => ?_) <;> (try simp only [Bool.not_eq_true', Bool.not_eq_false', decide_eq_true_eq, decide_eq_false_iff_not] at hb) <;> (try (exfalso; omega)))))
    all_goals exact ret2 [] (.r _) (.r _) rfl rfl rfl rfl
/-- What the walk has of a place that is in range. -/
theorem grp_facts (R : List UInt8) : cnt 10 R ≤ (R.take 10).length ∧ (∀ i, i < cnt 10 R → 128 ≤ ((R.take 10).getD i 0).toNat) ∧ (cnt 10 R < (R.take 10).length → ((R.take 10).getD (cnt 10 R) 0).toNat < 128) := by
  obtain ⟨h1, h2, h3, h4⟩ := cnt_spec 10 R
  have hl : (R.take 10).length = min 10 R.length := List.length_take
  have hg : ∀ i, i < 10 → (R.take 10).getD i 0 = R.getD i 0 := fun i hi => by simp [List.getElem?_take, hi]
  refine ⟨by omega, fun i hi => ?_, fun h => ?_⟩
  · rw [hg i (by omega)]; exact h3 i hi
  · rw [hg _ (by omega)]; exact h4 (by omega) (by omega)
theorem groups_in (b : List UInt8) (n : Nat) (h : n ≤ b.length) (hb : b.length ≤ 211106232532992) (r : AV) (er : Int)
    (hr : (cnt 10 (b.drop n) = 10 ∧ r = .r (.v (.slice none 0 0)) ∧ er = 5) ∨ (cnt 10 (b.drop n) ≠ 10 ∧ cnt 10 (b.drop n) = (b.drop n).length ∧ r = .r (.v (.slice none 0 0)) ∧ er = 4) ∨
      (cnt 10 (b.drop n) ≠ 10 ∧ cnt 10 (b.drop n) ≠ (b.drop n).length ∧ (0 < cnt 10 (b.drop n) ∧ ((b.drop n).getD (cnt 10 (b.drop n)) 0).toNat = 0) ∧ r = .r (.v (.slice none 0 0)) ∧ er = 5) ∨
      (cnt 10 (b.drop n) ≠ 10 ∧ cnt 10 (b.drop n) ≠ (b.drop n).length ∧ ¬ (0 < cnt 10 (b.drop n) ∧ ((b.drop n).getD (cnt 10 (b.drop n)) 0).toNat = 0) ∧ r = .r (.sl 1 (bys ((b.drop n).take (cnt 10 (b.drop n) + 1)))) ∧ er = 0)) :
    Meets Try.prog 132 [.r (.sl 1 (bys b)), .r (.v (.int .i64 n)), .r (.v (.int .i64 10))] [] (.tu [r, .r (.v (.int .i64 er))]) [] := by
  refine fn_of Try.func132 rfl (Nat.le_of_ble_eq_true rfl) rfl rfl ?_
  have hll := bys_len b
  have hdl : (b.drop n).length = b.length - n := List.length_drop
  have hE1 : (bys b).drop n = bys (b.drop n) := by simp [bys]
  obtain ⟨g1, g2, g3⟩ := grp_facts (b.drop n)
  obtain ⟨f1, f2, _, _⟩ := cnt_spec 10 (b.drop n)
  have hrl := bys_len (b.drop n)
  have htl : ((b.drop n).take 10).length = min 10 (b.drop n).length := List.length_take
  have hc := indexFunc_m ((b.drop n).take 10) (cnt 10 (b.drop n)) g1 g2 g3 (by omega)
  obtain ⟨m, hm⟩ : ∃ m : Nat, m = min 10 (b.drop n).length := ⟨_, rfl⟩
  have htm : (b.drop n).take 10 = (b.drop n).take m := by
    rcases Nat.le_total 10 (b.drop n).length with h | h
    · rw [show m = 10 by omega]
    · rw [show m = (b.drop n).length by omega, List.take_of_length_le h, List.take_length]
  rw [htm] at hc g1 g2 g3 htl
  rw [← hm] at htl
  have hmn : (if (10 : Int) < ((bys (b.drop n)).length : Int) then 10 else ((bys (b.drop n)).length : Int)) = (m : Int) := by split <;> omega
  clear htm hE1 g2
  generalize hR : b.drop n = R at *
  generalize cnt 10 R = e at *
  rw [htl] at hc g1 g3
  (repeat' (first | (first | refine awp_halt 4 ?_ | refine awp_haltR 4 ?_) | (first | (refine is_move ?_; first | refine w_skip rfl q_d6b09 ?_ | refine w_read rfl q_85eb5 q_2ce30 ?_) | (refine is_assign ?_; first | refine w_read rfl (.inl ⟨rfl, rfl⟩) q_732c1 ?_) | (refine is_load ?_; first | refine w_skip rfl q_d6b09 ?_ | refine w_read rfl q_85eb5 q_98330 ?_) | (refine is_pick ?_; first | refine w_skip rfl q_d6b09 ?_ | refine w_read rfl q_85eb5 q_651c9 ?_) | (refine is_bin ?_; first | (refine is_b_add ?_; first | refine w_read rfl (.inl ⟨rfl, rfl⟩) (p_add rfl rfl q_cc899) ?_) | (refine is_b_lss ?_; first | refine w_skip rfl q_d6b09 ?_ | (refine w_dec rfl q_85eb5 (p_lss rfl rfl) (fun hb => ?_) (fun hb => ?_) <;> (try (exfalso; omega)))) | (refine is_b_gtr ?_; first | refine w_skip rfl q_d6b09 ?_ | (refine w_dec rfl q_85eb5 (p_gtr rfl rfl) (fun hb => ?_) (fun hb => ?_) <;> (try (exfalso; omega)))) | (refine is_b_eql ?_; first | refine w_skip rfl q_d6b09 ?_ | (refine w_dec rfl q_85eb5 (p_eql rfl rfl) (fun hb => ?_) (fun hb => ?_) <;> (try (exfalso; omega))) | refine w_read rfl q_85eb5 (p_eqlb (by kernel_rfl) rfl rfl) ?_ | (refine w_dec rfl q_85eb5 (p_seql rfl rfl) (fun hb => ?_) (fun hb => ?_)) | (refine w_dec rfl q_85eb5 (p_eqag rfl rfl rfl rfl) (fun hb => ?_) (fun hb => ?_)))) | (refine is_call ?_; first | refine w_skip rfl q_d6b09 ?_ | (refine is_c_len ?_; first | refine w_skip rfl q_d6b09 ?_ | refine w_read rfl q_85eb5 q_e710b ?_) | (refine is_c_min ?_; first | refine w_read rfl (.inl ⟨rfl, rfl⟩) (p_min2 rfl rfl q_d00c3) ?_)) | (refine is_iaddr ?_; first | refine w_skip rfl q_d6b09 ?_ | refine w_read rfl q_85eb5 q_0ab11 ?_) | (refine is_slice ?_; first | refine w_read rfl (.inl ⟨rfl, rfl⟩) q_2cc34 ?_) | (refine is_slice ?_; first | refine w_read rfl (.inl ⟨rfl, rfl⟩) q_f4223 ?_) | (refine is_slice ?_; first | refine w_read rfl (.inl ⟨rfl, rfl⟩) (p_cuth_row rfl rfl rfl q_6ac1f q_c1572 q_c1572) ?_)) | (first | refine awp_seq ?_ | refine thenA_ret ?_ | refine blockA_ret ?_ | refine awp_block ?_ | refine awp_text ?_ | refine awp_any (by kernel_rfl) ?_ | refine w_nilT ?_ | refine w_nil (by kernel_rfl) ?_ | refine awp_condT rfl ?_ | refine awp_condF rfl ?_ | refine awp_skip ?_ | refine awp_exit ?_ | refine awp_ret ?_) | (refine awp_cond rfl (fun hb => ?_) (fun hb => ?_) <;> (try simp only [Bool.not_eq_true', Bool.not_eq_false', decide_eq_true_eq, decide_eq_false_iff_not] at hb) <;> (try (exfalso; omega)))))
  refine halt ?_
  rw [hR]
  rcases hr with ⟨h1, rfl, rfl⟩ | ⟨h1, h2, rfl, rfl⟩ | ⟨h1, h2, ⟨h3, h4⟩, rfl, rfl⟩ | ⟨h1, h2, h3, rfl, rfl⟩
  · rw [if_neg (by omega)] at hc
    (repeat' (first | ((first | (refine is_f 138 ?_; refine w_call [] [] (hc) q_2f365 (by kernel_rfl) (fun g h => by cases h) (fun i b h => by cases h) (.inl rfl) rfl rfl rfl q_85eb5 ?_)); try dsimp only [AV.unfr, AV.unfrs, frsL, pairs, rdOf, @List.length_cons Blk, @List.length_nil Blk, @List.nil_append (Nat × Option Blk), @List.cons_append (Nat × Option Blk), @List.nil_append Blk, @List.cons_append Blk, Nat.add_zero, Nat.zero_add, Nat.reduceAdd]) | (first | (refine is_move ?_; first | refine w_skip rfl q_d6b09 ?_ | refine w_read rfl q_85eb5 q_2ce30 ?_) | (refine is_assign ?_; first | refine w_read rfl (.inl ⟨rfl, rfl⟩) q_732c1 ?_) | (refine is_load ?_; first | refine w_skip rfl q_d6b09 ?_ | refine w_read rfl q_85eb5 q_98330 ?_) | (refine is_pick ?_; first | refine w_skip rfl q_d6b09 ?_ | refine w_read rfl q_85eb5 q_651c9 ?_) | (refine is_bin ?_; first | (refine is_b_add ?_; first | refine w_read rfl (.inl ⟨rfl, rfl⟩) (p_add rfl rfl q_cc899) ?_) | (refine is_b_lss ?_; first | refine w_skip rfl q_d6b09 ?_ | (refine w_dec rfl q_85eb5 (p_lss rfl rfl) (fun hb => ?_) (fun hb => ?_) <;> (try (exfalso; omega)))) | (refine is_b_gtr ?_; first | refine w_skip rfl q_d6b09 ?_ | (refine w_dec rfl q_85eb5 (p_gtr rfl rfl) (fun hb => ?_) (fun hb => ?_) <;> (try (exfalso; omega)))) | (refine is_b_eql ?_; first | refine w_skip rfl q_d6b09 ?_ | (refine w_dec rfl q_85eb5 (p_eql rfl rfl) (fun hb => ?_) (fun hb => ?_) <;> (try (exfalso; omega))) | refine w_read rfl q_85eb5 (p_eqlb (by kernel_rfl) rfl rfl) ?_ | (refine w_dec rfl q_85eb5 (p_seql rfl rfl) (fun hb => ?_) (fun hb => ?_)) | (refine w_dec rfl q_85eb5 (p_eqag rfl rfl rfl rfl) (fun hb => ?_) (fun hb => ?_)))) | (refine is_call ?_; first | refine w_skip rfl q_d6b09 ?_ | (refine is_c_len ?_; first | refine w_skip rfl q_d6b09 ?_ | refine w_read rfl q_85eb5 q_e710b ?_) | (refine is_c_min ?_; first | refine w_read rfl (.inl ⟨rfl, rfl⟩) (p_min2 rfl rfl q_d00c3) ?_)) | (refine is_iaddr ?_; first | refine w_skip rfl q_d6b09 ?_ | refine w_read rfl q_85eb5 q_0ab11 ?_) | (refine is_slice ?_; first | refine w_read rfl (.inl ⟨rfl, rfl⟩) q_2cc34 ?_) | (refine is_slice ?_; first | refine w_read rfl (.inl ⟨rfl, rfl⟩) q_f4223 ?_) | (refine is_slice ?_; first | refine w_read rfl (.inl ⟨rfl, rfl⟩) (p_cuth_row rfl rfl rfl q_6ac1f q_c1572 q_c1572) ?_)) | (first | refine awp_seq ?_ | refine thenA_ret ?_ | refine blockA_ret ?_ | refine awp_block ?_ | refine awp_text ?_ | refine awp_any (by kernel_rfl) ?_ | refine w_nilT ?_ | refine w_nil (by kernel_rfl) ?_ | refine awp_condT rfl ?_ | refine awp_condF rfl ?_ | refine awp_skip ?_ | refine awp_exit ?_ | refine awp_ret ?_) | (refine awp_cond rfl (fun hb => ?_) (fun hb => ?_) <;> (try simp only [Bool.not_eq_true', Bool.not_eq_false', decide_eq_true_eq, decide_eq_false_iff_not] at hb) <;> (try (exfalso; omega)))))
    all_goals exact ret2 [] (.r _) (.r _) rfl rfl rfl rfl
  · rw [if_neg (by omega)] at hc
    (repeat' (first | ((first | (refine is_f 138 ?_; refine w_call [] [] (hc) q_2f365 (by kernel_rfl) (fun g h => by cases h) (fun i b h => by cases h) (.inl rfl) rfl rfl rfl q_85eb5 ?_)); try dsimp only [AV.unfr, AV.unfrs, frsL, pairs, rdOf, @List.length_cons Blk, @List.length_nil Blk, @List.nil_append (Nat × Option Blk), @List.cons_append (Nat × Option Blk), @List.nil_append Blk, @List.cons_append Blk, Nat.add_zero, Nat.zero_add, Nat.reduceAdd]) | (first | (refine is_move ?_; first | refine w_skip rfl q_d6b09 ?_ | refine w_read rfl q_85eb5 q_2ce30 ?_) | (refine is_assign ?_; first | refine w_read rfl (.inl ⟨rfl, rfl⟩) q_732c1 ?_) | (refine is_load ?_; first | refine w_skip rfl q_d6b09 ?_ | refine w_read rfl q_85eb5 q_98330 ?_) | (refine is_pick ?_; first | refine w_skip rfl q_d6b09 ?_ | refine w_read rfl q_85eb5 q_651c9 ?_) | (refine is_bin ?_; first | (refine is_b_add ?_; first | refine w_read rfl (.inl ⟨rfl, rfl⟩) (p_add rfl rfl q_cc899) ?_) | (refine is_b_lss ?_; first | refine w_skip rfl q_d6b09 ?_ | (refine w_dec rfl q_85eb5 (p_lss rfl rfl) (fun hb => ?_) (fun hb => ?_) <;> (try (exfalso; omega)))) | (refine is_b_gtr ?_; first | refine w_skip rfl q_d6b09 ?_ | (refine w_dec rfl q_85eb5 (p_gtr rfl rfl) (fun hb => ?_) (fun hb => ?_) <;> (try (exfalso; omega)))) | (refine is_b_eql ?_; first | refine w_skip rfl q_d6b09 ?_ | (refine w_dec rfl q_85eb5 (p_eql rfl rfl) (fun hb => ?_) (fun hb => ?_) <;> (try (exfalso; omega))) | refine w_read rfl q_85eb5 (p_eqlb (by kernel_rfl) rfl rfl) ?_ | (refine w_dec rfl q_85eb5 (p_seql rfl rfl) (fun hb => ?_) (fun hb => ?_)) | (refine w_dec rfl q_85eb5 (p_eqag rfl rfl rfl rfl) (fun hb => ?_) (fun hb => ?_)))) | (refine is_call ?_; first | refine w_skip rfl q_d6b09 ?_ | (refine is_c_len ?_; first | refine w_skip rfl q_d6b09 ?_ | refine w_read rfl q_85eb5 q_e710b ?_) | (refine is_c_min ?_; first | refine w_read rfl (.inl ⟨rfl, rfl⟩) (p_min2 rfl rfl q_d00c3) ?_)) | (refine is_iaddr ?_; first | refine w_skip rfl q_d6b09 ?_ | refine w_read rfl q_85eb5 q_0ab11 ?_) | (refine is_slice ?_; first | refine w_read rfl (.inl ⟨rfl, rfl⟩) q_2cc34 ?_) | (refine is_slice ?_; first | refine w_read rfl (.inl ⟨rfl, rfl⟩) q_f4223 ?_) | (refine is_slice ?_; first | refine w_read rfl (.inl ⟨rfl, rfl⟩) (p_cuth_row rfl rfl rfl q_6ac1f q_c1572 q_c1572) ?_)) | (first | refine awp_seq ?_ | refine thenA_ret ?_ | refine blockA_ret ?_ | refine awp_block ?_ | refine awp_text ?_ | refine awp_any (by kernel_rfl) ?_ | refine w_nilT ?_ | refine w_nil (by kernel_rfl) ?_ | refine awp_condT rfl ?_ | refine awp_condF rfl ?_ | refine awp_skip ?_ | refine awp_exit ?_ | refine awp_ret ?_) | (refine awp_cond rfl (fun hb => ?_) (fun hb => ?_) <;> (try simp only [Bool.not_eq_true', Bool.not_eq_false', decide_eq_true_eq, decide_eq_false_iff_not] at hb) <;> (try (exfalso; omega)))))
    all_goals exact ret2 [] (.r _) (.r _) rfl rfl rfl rfl
  · rw [if_pos (by omega)] at hc
    (repeat' (first | ((first | (refine is_f 138 ?_; refine w_call [] [] (hc) q_2f365 (by kernel_rfl) (fun g h => by cases h) (fun i b h => by cases h) (.inl rfl) rfl rfl rfl q_85eb5 ?_)); try dsimp only [AV.unfr, AV.unfrs, frsL, pairs, rdOf, @List.length_cons Blk, @List.length_nil Blk, @List.nil_append (Nat × Option Blk), @List.cons_append (Nat × Option Blk), @List.nil_append Blk, @List.cons_append Blk, Nat.add_zero, Nat.zero_add, Nat.reduceAdd]) | (first | (refine is_move ?_; first | refine w_skip rfl q_d6b09 ?_ | refine w_read rfl q_85eb5 q_2ce30 ?_) | (refine is_assign ?_; first | refine w_read rfl (.inl ⟨rfl, rfl⟩) q_732c1 ?_) | (refine is_load ?_; first | refine w_skip rfl q_d6b09 ?_ | refine w_read rfl q_85eb5 q_98330 ?_) | (refine is_pick ?_; first | refine w_skip rfl q_d6b09 ?_ | refine w_read rfl q_85eb5 q_651c9 ?_) | (refine is_bin ?_; first | (refine is_b_add ?_; first | refine w_read rfl (.inl ⟨rfl, rfl⟩) (p_add rfl rfl q_cc899) ?_) | (refine is_b_lss ?_; first | refine w_skip rfl q_d6b09 ?_ | (refine w_dec rfl q_85eb5 (p_lss rfl rfl) (fun hb => ?_) (fun hb => ?_) <;> (try (exfalso; omega)))) | (refine is_b_gtr ?_; first | refine w_skip rfl q_d6b09 ?_ | (refine w_dec rfl q_85eb5 (p_gtr rfl rfl) (fun hb => ?_) (fun hb => ?_) <;> (try (exfalso; omega)))) | (refine is_b_eql ?_; first | refine w_skip rfl q_d6b09 ?_ | (refine w_dec rfl q_85eb5 (p_eql rfl rfl) (fun hb => ?_) (fun hb => ?_) <;> (try (exfalso; omega))) | refine w_read rfl q_85eb5 (p_eqlb (by kernel_rfl) rfl rfl) ?_ | (refine w_dec rfl q_85eb5 (p_seql rfl rfl) (fun hb => ?_) (fun hb => ?_)) | (refine w_dec rfl q_85eb5 (p_eqag rfl rfl rfl rfl) (fun hb => ?_) (fun hb => ?_)))) | (refine is_call ?_; first | refine w_skip rfl q_d6b09 ?_ | (refine is_c_len ?_; first | refine w_skip rfl q_d6b09 ?_ | refine w_read rfl q_85eb5 q_e710b ?_) | (refine is_c_min ?_; first | refine w_read rfl (.inl ⟨rfl, rfl⟩) (p_min2 rfl rfl q_d00c3) ?_)) | (refine is_iaddr ?_; first | refine w_skip rfl q_d6b09 ?_ | refine w_read rfl q_85eb5 q_0ab11 ?_) | (refine is_slice ?_; first | refine w_read rfl (.inl ⟨rfl, rfl⟩) q_2cc34 ?_) | (refine is_slice ?_; first | refine w_read rfl (.inl ⟨rfl, rfl⟩) q_f4223 ?_) | (refine is_slice ?_; first | refine w_read rfl (.inl ⟨rfl, rfl⟩) (p_cuth_row rfl rfl rfl q_6ac1f q_c1572 q_c1572) ?_)) | (first | refine awp_seq ?_ | refine thenA_ret ?_ | refine blockA_ret ?_ | refine awp_block ?_ | refine awp_text ?_ | refine awp_any (by kernel_rfl) ?_ | refine w_nilT ?_ | refine w_nil (by kernel_rfl) ?_ | refine awp_condT rfl ?_ | refine awp_condF rfl ?_ | refine awp_skip ?_ | refine awp_exit ?_ | refine awp_ret ?_) | (refine awp_cond rfl (fun hb => ?_) (fun hb => ?_) <;> (try simp only [Bool.not_eq_true', Bool.not_eq_false', decide_eq_true_eq, decide_eq_false_iff_not] at hb) <;> (try (exfalso; omega)))))
    all_goals exact ret2 [] (.r _) (.r _) rfl rfl rfl rfl
  · rw [if_pos (by omega)] at hc
    have h3' : e = 0 ∨ ((R.getD e 0).toNat : Int) ≠ 0 := by omega
    (repeat' (first | ((first | (refine is_f 138 ?_; refine w_call [] [] (hc) q_2f365 (by kernel_rfl) (fun g h => by cases h) (fun i b h => by cases h) (.inl rfl) rfl rfl rfl q_85eb5 ?_)); try dsimp only [AV.unfr, AV.unfrs, frsL, pairs, rdOf, @List.length_cons Blk, @List.length_nil Blk, @List.nil_append (Nat × Option Blk), @List.cons_append (Nat × Option Blk), @List.nil_append Blk, @List.cons_append Blk, Nat.add_zero, Nat.zero_add, Nat.reduceAdd]) | (first | (refine is_move ?_; first | refine w_skip rfl q_d6b09 ?_ | refine w_read rfl q_85eb5 q_2ce30 ?_) | (refine is_assign ?_; first | refine w_read rfl (.inl ⟨rfl, rfl⟩) q_732c1 ?_) | (refine is_load ?_; first | refine w_skip rfl q_d6b09 ?_ | refine w_read rfl q_85eb5 q_98330 ?_) | (refine is_pick ?_; first | refine w_skip rfl q_d6b09 ?_ | refine w_read rfl q_85eb5 q_651c9 ?_) | (refine is_bin ?_; first | (refine is_b_add ?_; first | refine w_read rfl (.inl ⟨rfl, rfl⟩) (p_add rfl rfl q_cc899) ?_) | (refine is_b_lss ?_; first | refine w_skip rfl q_d6b09 ?_ | (refine w_dec rfl q_85eb5 (p_lss rfl rfl) (fun hb => ?_) (fun hb => ?_) <;> (try (exfalso; omega)))) | (refine is_b_gtr ?_; first | refine w_skip rfl q_d6b09 ?_ | (refine w_dec rfl q_85eb5 (p_gtr rfl rfl) (fun hb => ?_) (fun hb => ?_) <;> (try (exfalso; omega)))) | (refine is_b_eql ?_; first | refine w_skip rfl q_d6b09 ?_ | (refine w_dec rfl q_85eb5 (p_eql rfl rfl) (fun hb => ?_) (fun hb => ?_) <;> (try (exfalso; omega))) | refine w_read rfl q_85eb5 (p_eqlb (by kernel_rfl) rfl rfl) ?_ | (refine w_dec rfl q_85eb5 (p_seql rfl rfl) (fun hb => ?_) (fun hb => ?_)) | (refine w_dec rfl q_85eb5 (p_eqag rfl rfl rfl rfl) (fun hb => ?_) (fun hb => ?_)))) | (refine is_call ?_; first | refine w_skip rfl q_d6b09 ?_ | (refine is_c_len ?_; first | refine w_skip rfl q_d6b09 ?_ | refine w_read rfl q_85eb5 q_e710b ?_) | (refine is_c_min ?_; first | refine w_read rfl (.inl ⟨rfl, rfl⟩) (p_min2 rfl rfl q_d00c3) ?_)) | (refine is_iaddr ?_; first | refine w_skip rfl q_d6b09 ?_ | refine w_read rfl q_85eb5 q_0ab11 ?_) | (refine is_slice ?_; first | refine w_read rfl (.inl ⟨rfl, rfl⟩) q_2cc34 ?_) | (refine is_slice ?_; first | refine w_read rfl (.inl ⟨rfl, rfl⟩) q_f4223 ?_) | (refine is_slice ?_; first | refine w_read rfl (.inl ⟨rfl, rfl⟩) (p_cuth_row rfl rfl rfl q_6ac1f q_c1572 q_c1572) ?_)) | (first | refine awp_seq ?_ | refine thenA_ret ?_ | refine blockA_ret ?_ | refine awp_block ?_ | refine awp_text ?_ | refine awp_any (by kernel_rfl) ?_ | refine w_nilT ?_ | refine w_nil (by kernel_rfl) ?_ | refine awp_condT rfl ?_ | refine awp_condF rfl ?_ | refine awp_skip ?_ | refine awp_exit ?_ | refine awp_ret ?_) | (refine awp_cond rfl (fun hb => ?_) (fun hb => ?_) <;> (try simp only [Bool.not_eq_true', Bool.not_eq_false', decide_eq_true_eq, decide_eq_false_iff_not] at hb) <;> (try (exfalso; omega)))))
    all_goals (exact ret2 [] (.r _) (.r _) rfl rfl rfl rfl)
end Go.Proofs.Ytabgmodllifgjaa
