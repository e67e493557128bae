/- What the tape hands out as a configuration is valid; headers compared; lists of configurations. Conditions: lengths. -/
import Derived.Test.YtabgmodllifgjaaLay3
import Derived.Test.YtabgmodllifgjaaTp4
namespace Go.Proofs.Ytabgmodllifgjaa
open Go.RowKit Go.Ab
set_option maxRecDepth 100000
set_option linter.unusedVariables false
set_option linter.unusedSimpArgs false

instance : EqT Try.prog 66 3 := ⟨by kernel_rfl⟩
theorem headers_m (l : List UInt8) (hl : l.length ≤ 140737488355328) : Meets Try.prog 61 [.r (.sl 1 (bys l))] [] (.r (.v (.bool true))) [] := by
  refine fn_of Try.func61 rfl (Nat.le_of_ble_eq_true rfl) rfl rfl ?_
  (repeat' (first | ((first | (refine is_f 65 ?_; refine w_call [] [] (decodeHeader_m l) q_a2eee (by kernel_rfl) (fun g h => by cases h) (fun i b h => by cases h) (.inl rfl) rfl rfl rfl q_85eb5 ?_) | (refine is_f 102 ?_; refine w_call [] [] (refDecodeHeader_m l hl) q_a2eee (by kernel_rfl) (fun g h => by cases h) (fun i b h => by cases h) (.inl rfl) rfl rfl rfl q_85eb5 ?_)); try dsimp only [AV.unfr, AV.unfrs, frsL, pairs, rdOf, List.length_cons, List.length_nil, List.nil_append, List.cons_append, Nat.add_zero, Nat.zero_add, Nat.reduceAdd]) | (first | (refine is_move ?_; first | refine w_skip rfl q_d6b09 ?_ | refine w_read rfl q_85eb5 q_5c5b0 ?_) | (refine is_assign ?_; first | refine w_read rfl (.inl ⟨rfl, rfl⟩) q_cf428 ?_) | (refine is_load ?_; first | refine w_read rfl (.inl ⟨rfl, rfl⟩) q_64b07 ?_) | (refine is_pick ?_; first | refine w_read rfl (.inl ⟨rfl, rfl⟩) q_651c9 ?_) | (refine is_bin ?_; first | (refine is_b_eql ?_; first | refine w_skip rfl q_d6b09 ?_ | (refine w_dec rfl q_85eb5 (p_eql rfl rfl) (fun hb => ?_) (fun hb => ?_) <;> (try (exfalso; omega))) | refine w_read rfl q_85eb5 (p_eqlb (by kernel_rfl) rfl rfl) ?_ | (refine w_dec rfl q_85eb5 (p_seql rfl rfl) (fun hb => ?_) (fun hb => ?_)) | (refine w_dec rfl q_85eb5 (p_eqag rfl rfl rfl rfl) (fun hb => ?_) (fun hb => ?_)))) | (refine is_extract ?_; first | refine w_read rfl (.inl ⟨rfl, rfl⟩) q_be838 ?_) | (refine is_alloc ?_; first | refine w_make rfl (.inl ⟨rfl, rfl⟩) m_alloc rfl ?_) | (refine is_store ?_; first | refine w_store rfl (a := .r _) rfl rfl rfl q_341a8 rfl rfl q_85eb5 ?_ | refine w_store rfl (a := .ag _) rfl rfl rfl q_341a8 rfl rfl q_85eb5 ?_ | refine w_store rfl (a := .rp _) rfl rfl rfl q_341a8 rfl rfl q_85eb5 ?_ | refine w_store rfl (a := .pt _ _) rfl rfl rfl q_341a8 rfl rfl q_85eb5 ?_)) | (first | refine awp_seq ?_ | refine thenA_ret ?_ | refine blockA_ret ?_ | refine awp_block ?_ | refine awp_text ?_ | refine awp_any (by kernel_rfl) ?_ | refine w_nilT ?_ | refine w_nil (by kernel_rfl) ?_ | refine awp_condT rfl ?_ | refine awp_condF rfl ?_ | refine awp_skip ?_ | refine awp_exit ?_ | refine awp_ret ?_) | (refine awp_cond rfl (fun hb => ?_) (fun hb => ?_) <;> (try simp only [Bool.not_eq_true', Bool.not_eq_false', decide_eq_true_eq, decide_eq_false_iff_not] at hb) <;> (try (exfalso; omega)))))
  all_goals (first | (exfalso; revert hb; simp [eqA, cellsA, setA, AV.unfrs, AV.unfr]; done) | exact ret1 [] (.bool rfl) rfl rfl rfl)
theorem wds_range (l : List Int) (k : Nat) : ∀ j, 0 ≤ (wds l k j).1 ∧ (wds l k j).1 < 18446744073709551616
  | 0 => by unfold wds; exact ⟨Int.le_refl _, by show (0 : Int) < _; decide⟩
  | j + 1 => by
    unfold wds
    simp only [IntKind.wrap_u64]
    omega
theorem tolv_range (l : List Int) (k : Nat) : 0 ≤ (tolv l k).1 ∧ (tolv l k).1 ≤ 4611686018427387904 := by
  have h2 := nx_range l (adv l k) (show (1 : Int) ≤ 2 by omega)
  have h30 := nx_range l (adv l k) (show (1 : Int) ≤ 30 by omega)
  have h60 := nx_range l (wds l (adv l k) 4).2 (show (1 : Int) ≤ 60 by omega)
  have hw := wds_range l (adv l k) 4
  unfold tolv
  (repeat' split)
  · simp only; omega
  · simp only; omega
  · simp only
    generalize (wds l (adv l k) 4).1 = x at *
    generalize nx l (wds l (adv l k) 4).2 60 = s at *
    obtain ⟨y, rfl⟩ := Int.eq_ofNat_of_zero_le hw.1
    obtain ⟨e, he⟩ : ∃ e : Nat, min (2 + s).toNat (IntKind.bits .u64) = 2 + e := ⟨s.toNat, by simp [IntKind.bits]; omega⟩
    rw [he]
    have h1 : (y : Int).fdiv (2 ^ (2 + e)) = ((y / 2 ^ (2 + e) : Nat) : Int) := by
      rw [Int.fdiv_eq_ediv_of_nonneg _ (Int.pow_nonneg (by omega))]
      push_cast
      rfl
    have h3 : y / 2 ^ (2 + e) ≤ y / 4 := by
      rw [Nat.pow_add, ← Nat.div_div_eq_div_mul]
      exact Nat.div_le_self _ _
    rw [h1]
    generalize y / 2 ^ (2 + e) = d at *
    rw [IntWalk.i64_in _ (by omega)]
    omega
  · simp only; omega
theorem cfgv_ok (l : List Int) (k : Nat) : vcfg (cfgv l k).1.1 (cfgv l k).1.2.1 (cfgv l k).1.2.2 = 0 := by
  have ht := tolv_range l (adv l k)
  have h6 := nx_range l k (show (1 : Int) ≤ 6 by omega)
  have h12 := nx_range l (tolv l (adv l k)).2 (show (1 : Int) ≤ 12 by omega)
  have h2 := nx_range l (adv l (adv l (tolv l (adv l k)).2)) (show (1 : Int) ≤ 2 by omega)
  unfold cfgv
  split <;> (unfold vcfg; simp only; (repeat' split) <;> omega)
/-- A list of configurations, as it lies in memory. -/
def cfgs (L : List (Int × Int × Int)) : List (List RV) := L.map fun c => [.v (.int .i64 c.1), .v (.int .i64 c.2.1), .v (.int .i64 c.2.2)]
theorem cfgs_get {L : List (Int × Int × Int)} {j : Nat} (h : j < L.length) : (cfgs L)[j]? = some [.v (.int .i64 (L.getD j (0, 0, 0)).1), .v (.int .i64 (L.getD j (0, 0, 0)).2.1), .v (.int .i64 (L.getD j (0, 0, 0)).2.2)] := by
  simp [cfgs, List.getElem?_eq_getElem h]
theorem bys_snoc_i (l : List UInt8) (x : Int) (h : 0 ≤ x ∧ x < 256) : bys (l ++ [UInt8.ofNat x.toNat]) = bys l ++ [[.v (.int .u8 x)]] := by
  rw [bys_append]
  have : (((UInt8.ofNat x.toNat).toNat : Nat) : Int) = x := by
    have : (UInt8.ofNat x.toNat).toNat = x.toNat := by simp; omega
    rw [this]; omega
  simp only [bys, List.map_cons, List.map_nil, this]
end Go.Proofs.Ytabgmodllifgjaa
