/- Chapter 28: the law LayoutBack in the second layer. Conditions: lengths. --ext5 -/
import Derived.Test.YtabgmodllifgjaaGV
import Derived.Test.YtabgmodllifgjaaLe9
import Derived.Test.YtabgmodllifgjaaLay4
import Derived.Test.YtabgmodllifgjaaLay6
namespace Go.Proofs.Ytabgmodllifgjaa
open Go.RowKit Go.Ab
set_option maxRecDepth 100000
set_option linter.unusedVariables false
set_option linter.unusedSimpArgs false

set_option maxHeartbeats 4000000 in
theorem layoutBack_m (t : List Int) (o : Int) (ht : Ints t) (htn : t.length ≤ 140737488351232) (ho : I64 o) :
    Meets Try.prog 21 [.r (.sl 1 (nums .i64 t)), .r (.v (.int .i64 o))] [] (.r (.v (.bool true))) [] := by
  refine fn_of Try.func21 rfl (Nat.le_of_ble_eq_true rfl) rfl rfl ?_
  have cC := config_m t 0 ht htn
  have hv := cfgv_ok t 0
  have hvo := vcfg_ok hv
  obtain ⟨xc, hxc⟩ : ∃ n : Nat, (cfgv t 0).1.1 = n := ⟨((cfgv t 0).1.1).toNat, by omega⟩
  obtain ⟨xt, hxt⟩ : ∃ n : Nat, (cfgv t 0).1.2.1 = n := ⟨((cfgv t 0).1.2.1).toNat, by omega⟩
  obtain ⟨xk, hxk⟩ : ∃ n : Nat, (cfgv t 0).1.2.2 = n := ⟨((cfgv t 0).1.2.2).toNat, by omega⟩
  rw [hxc, hxt, hxk] at cC hv
  generalize (cfgv t 0).2 = q1 at *
  have cE := entries_m t q1 ht htn
  obtain ⟨l2, hen, hl5⟩ := entL_ok t q1
  generalize (entL t q1).1 = l at *
  generalize (entL t q1).2 = q2 at *
  have hI : EntsI l := fun s hs => by
    have := hen.few s hs
    unfold EntI I64
    omega
  have hlv : vE l = true := (vE_yes (by omega) hen.ok).symm
  have cM := mod_m o 1073741804 ho (by omega)
  have hm := modz_range o (show (1 : Int) ≤ 1073741804 by omega)
  obtain ⟨n, hn⟩ : ∃ n : Nat, 21 + modz o 1073741804 = n := ⟨(21 + modz o 1073741804).toNat, by omega⟩
  have hnw : IntKind.i64.wrap (21 + modz o 1073741804) = (n : Int) := by rw [hn]; exact IntWalk.i64_in _ (by omega)
  have e1 := encodeHeader_ok xc xt xk hv
  have e2 := encodeF_m l hI hlv
  have e3 := encodeTrailer_ok n (by omega) (by omega)
  have hlen : (header xc xt xk).length = 21 := header_len _ _ _
  obtain ⟨b0, b1, b2, b3⟩ := header_back xc xt xk hv
  have d1 := decodeHeader_m (header xc xt xk)
  rw [b0, b1, b2, b3] at d1
  have hfl : (encFt l).length ≤ 210 := by have := encK_len l l.length (Nat.le_refl _); unfold encFt; omega
  have hdf := decF_enc l hI hlv
  have d2 := decodeF_m (encFt l) (by omega) (.fr 98 5 (ents l)) (.inl ⟨by rw [hdf], by rw [hdf]⟩)
  rw [hdf] at d2
  have d3 := decodeTrailer_m (trailer n)
  rw [trailer_back n (by omega) (by omega)] at d3
  have sE := refSameE_m l (by omega)
  have sp := spoiled_o (encFt l) t q2 ht htn (by omega)
  have hsl := spoilL_len (encFt l) t q2
  generalize spoilL (encFt l) t q2 = s at *
  generalize spoilK (encFt l) t q2 = q3 at *
  generalize header xc xt xk = hd at *
  generalize trailer n = tr at *
  generalize encFt l = fo at *
  clear hen hvo hxc hxt hxk hdf
  unfold cfgA at e1 d1
  by_cases hz : (decF s).2 = 0
  · have d4 := decodeF_m s (by omega) _ (.inl ⟨hz, rfl⟩)
    have e4 := encodeF_m (decF s).1 (decF_ints s hz) (decF_vE s hz)
    rw [decF_back s hz] at e4
    rw [hz] at d4
    have sS := refSame_t s
    generalize (decF s).1 = m at *
    (repeat' (first | ((first | (refine is_f 28 ?_; refine w_new (new_m t) q_2f365 (by kernel_rfl) rfl rfl q_85eb5 ?_) | (refine is_f 54 ?_; refine w_callP [0] _ _ (cC) q_2f365 (by kernel_rfl) q_24abf rfl rfl rfl q_85eb5 ?_) | (refine is_f 74 ?_; refine w_callP [0] _ _ (cE) q_2f365 (by kernel_rfl) q_24abf rfl rfl rfl q_85eb5 ?_) | (refine is_f 26 ?_; refine w_call [] [] (cM) q_2f365 (by kernel_rfl) (fun g h => by cases h) (fun i b h => by cases h) (.inl rfl) rfl rfl rfl q_85eb5 ?_) | (refine is_f 55 ?_; refine w_call [] [] (e1) q_2f365 (by kernel_rfl) (fun g h => by cases h) (fun i b h => by cases h) (.inl rfl) rfl rfl rfl q_85eb5 ?_) | (refine is_f 75 ?_; refine w_call [1] [(1, _)] (e2) q_e07a3 (by kernel_rfl) q_f3e16 q_16cf6 (.inr q_95ecf) rfl rfl rfl q_85eb5 ?_) | (refine is_f 62 ?_; refine w_call [] [] (e3) q_2f365 (by kernel_rfl) (fun g h => by cases h) (fun i b h => by cases h) (.inl rfl) rfl rfl rfl q_85eb5 ?_) | (refine is_f 65 ?_; refine w_call [3] [(3, _)] (d1) q_e07a3 (by kernel_rfl) q_f3e16 q_16cf6 (.inr q_95ecf) rfl rfl rfl q_85eb5 ?_) | (refine is_f 82 ?_; refine w_call [4] [(4, _)] (d2) q_e07a3 (by kernel_rfl) q_f3e16 q_16cf6 (.inr q_95ecf) rfl rfl rfl q_85eb5 ?_) | (refine is_f 66 ?_; refine w_call [5] [(5, _)] (d3) q_e07a3 (by kernel_rfl) q_f3e16 q_16cf6 (.inr q_95ecf) rfl rfl rfl q_85eb5 ?_) | (refine is_f 83 ?_; refine w_call [7, 1] [(7, _), (1, _)] (sE) q_e07a3 (by kernel_rfl) q_556d7 q_f9960 (.inr q_95ecf) rfl rfl rfl q_85eb5 ?_) | (refine is_f 31 ?_; refine w_callP [0, 4] _ _ (sp) q_2f365 (by kernel_rfl) q_0cb62 rfl rfl rfl q_85eb5 ?_) | (refine is_f 82 ?_; refine w_call [8] [(8, _)] (d4) q_e07a3 (by kernel_rfl) q_f3e16 q_16cf6 (.inr q_95ecf) rfl rfl rfl q_85eb5 ?_) | (refine is_f 75 ?_; refine w_call [9] [(9, _)] (e4) q_e07a3 (by kernel_rfl) q_f3e16 q_16cf6 (.inr q_95ecf) rfl rfl rfl q_85eb5 ?_) | (refine is_f 34 ?_; refine w_call [10, 8] [(10, _), (8, _)] (sS) q_e07a3 (by kernel_rfl) q_556d7 q_f9960 (.inr q_95ecf) rfl rfl rfl q_85eb5 ?_) | (refine is_f 60 ?_; refine w_call [] [] (known28) q_2f365 (by kernel_rfl) (fun g h => by cases h) (fun i b h => by cases h) (.inl rfl) rfl rfl rfl q_85eb5 ?_)); try dsimp only [AV.unfr, AV.unfrs, frsL, pairs, rdOf, @List.length_cons Blk, @List.length_nil Blk, @List.nil_append (Nat × Option Blk), @List.cons_append (Nat × Option Blk), @List.nil_append Blk, @List.cons_append Blk, Nat.add_zero, Nat.zero_add, Nat.reduceAdd]) | (first | (refine is_move ?_; first | refine w_skip rfl q_d6b09 ?_ | refine w_read rfl q_85eb5 q_2ce30 ?_) | (refine is_assign ?_; first | refine w_read rfl (.inl ⟨rfl, rfl⟩) q_732c1 ?_) | (refine is_load ?_; first | refine w_skip rfl q_d6b09 ?_ | refine w_read rfl q_85eb5 q_98330 ?_) | (refine is_pick ?_; first | refine w_read rfl (.inl ⟨rfl, rfl⟩) q_651c9 ?_) | (refine is_bin ?_; first | (refine is_b_add ?_; first | refine w_read rfl (.inl ⟨rfl, rfl⟩) (p_add rfl rfl q_cc899) ?_) | (refine is_b_eql ?_; first | (refine w_dec rfl (.inl ⟨rfl, rfl⟩) (p_eql rfl rfl) (fun hb => ?_) (fun hb => ?_) <;> (try (exfalso; omega))) | refine w_read rfl (.inl ⟨rfl, rfl⟩) (p_eqlb (by kernel_rfl) rfl rfl) ?_ | (refine w_dec rfl (.inl ⟨rfl, rfl⟩) (p_seql rfl rfl) (fun hb => ?_) (fun hb => ?_)) | (refine w_dec rfl (.inl ⟨rfl, rfl⟩) (p_eqag rfl rfl rfl rfl) (fun hb => ?_) (fun hb => ?_))) | (refine is_b_neq ?_; first | refine w_skip rfl q_d6b09 ?_ | (refine w_dec rfl q_85eb5 (p_neq rfl rfl) (fun hb => ?_) (fun hb => ?_) <;> (try (exfalso; omega))) | refine w_read rfl q_85eb5 (p_neqb (by kernel_rfl) rfl rfl) ?_ | (refine w_dec rfl q_85eb5 (p_sneq rfl rfl) (fun hb => ?_) (fun hb => ?_)) | (refine w_dec rfl q_85eb5 (p_neqag rfl rfl rfl rfl) (fun hb => ?_) (fun hb => ?_)))) | (refine is_call ?_; first | refine w_skip rfl q_d6b09 ?_) | (refine is_un ?_; first | (refine is_u_not ?_; first | refine w_skip rfl q_d6b09 ?_ | refine w_read rfl q_85eb5 (p_not rfl) ?_)) | (refine is_extract ?_; first | refine w_read rfl (.inl ⟨rfl, rfl⟩) q_be838 ?_) | (refine is_alloc ?_; first | refine w_make rfl (.inl ⟨rfl, rfl⟩) m_alloc rfl ?_) | (refine is_store ?_; first | refine w_store rfl (a := .r _) rfl rfl rfl q_341a8 rfl rfl q_85eb5 ?_ | refine w_store rfl (a := .ag _) rfl rfl rfl q_341a8 rfl rfl q_85eb5 ?_ | refine w_store rfl (a := .rp _) rfl rfl rfl q_341a8 rfl rfl q_85eb5 ?_ | refine w_store rfl (a := .pt _ _) rfl rfl rfl q_341a8 rfl rfl q_85eb5 ?_ | refine w_store_p1 rfl rfl rfl rfl q_826a3 OnT.size rfl q_85eb5 ?_ | (refine w_store_pe rfl rfl rfl rfl q_826a3 q_341a8 rfl rfl q_85eb5 ?_; try dsimp only [List.reverse, List.reverseAux]))) | (first | refine awp_seq ?_ | refine thenA_ret ?_ | refine blockA_ret ?_ | refine awp_block ?_ | refine awp_text ?_ | refine awp_any (by kernel_rfl) ?_ | refine w_nilT ?_ | refine w_nil (by kernel_rfl) ?_ | refine awp_condT rfl ?_ | refine awp_condF rfl ?_ | refine awp_skip ?_ | refine awp_exit ?_ | refine awp_ret ?_) | (refine awp_cond rfl (fun hb => ?_) (fun hb => ?_) <;> (try simp only [Bool.not_eq_true', Bool.not_eq_false', decide_eq_true_eq, decide_eq_false_iff_not] at hb) <;> (try (exfalso; omega)))))
    · rename_i hb
      refine absurd ?_ hb
      show eqA [.r (.v (.int .i64 (xc : Int))), .r (.v (.int .i64 (xt : Int))), .r (.v (.int .i64 (xk : Int)))] [.r (.v (.int .i64 (xc : Int))), .r (.v (.int .i64 (xt : Int))), .r (.v (.int .i64 (xk : Int)))] = true
      simp [eqA]
    · exact ret1 [] (.bool rfl) rfl rfl rfl
  · have d4 := decodeF_m s (by omega) _ (.inr ⟨hz, rfl⟩)
    (repeat' (first | ((first | (refine is_f 28 ?_; refine w_new (new_m t) q_2f365 (by kernel_rfl) rfl rfl q_85eb5 ?_) | (refine is_f 54 ?_; refine w_callP [0] _ _ (cC) q_2f365 (by kernel_rfl) q_24abf rfl rfl rfl q_85eb5 ?_) | (refine is_f 74 ?_; refine w_callP [0] _ _ (cE) q_2f365 (by kernel_rfl) q_24abf rfl rfl rfl q_85eb5 ?_) | (refine is_f 26 ?_; refine w_call [] [] (cM) q_2f365 (by kernel_rfl) (fun g h => by cases h) (fun i b h => by cases h) (.inl rfl) rfl rfl rfl q_85eb5 ?_) | (refine is_f 55 ?_; refine w_call [] [] (e1) q_2f365 (by kernel_rfl) (fun g h => by cases h) (fun i b h => by cases h) (.inl rfl) rfl rfl rfl q_85eb5 ?_) | (refine is_f 75 ?_; refine w_call [1] [(1, _)] (e2) q_e07a3 (by kernel_rfl) q_f3e16 q_16cf6 (.inr q_95ecf) rfl rfl rfl q_85eb5 ?_) | (refine is_f 62 ?_; refine w_call [] [] (e3) q_2f365 (by kernel_rfl) (fun g h => by cases h) (fun i b h => by cases h) (.inl rfl) rfl rfl rfl q_85eb5 ?_) | (refine is_f 65 ?_; refine w_call [3] [(3, _)] (d1) q_e07a3 (by kernel_rfl) q_f3e16 q_16cf6 (.inr q_95ecf) rfl rfl rfl q_85eb5 ?_) | (refine is_f 82 ?_; refine w_call [4] [(4, _)] (d2) q_e07a3 (by kernel_rfl) q_f3e16 q_16cf6 (.inr q_95ecf) rfl rfl rfl q_85eb5 ?_) | (refine is_f 66 ?_; refine w_call [5] [(5, _)] (d3) q_e07a3 (by kernel_rfl) q_f3e16 q_16cf6 (.inr q_95ecf) rfl rfl rfl q_85eb5 ?_) | (refine is_f 83 ?_; refine w_call [7, 1] [(7, _), (1, _)] (sE) q_e07a3 (by kernel_rfl) q_556d7 q_f9960 (.inr q_95ecf) rfl rfl rfl q_85eb5 ?_) | (refine is_f 31 ?_; refine w_callP [0, 4] _ _ (sp) q_2f365 (by kernel_rfl) q_0cb62 rfl rfl rfl q_85eb5 ?_) | (refine is_f 82 ?_; refine w_call [8] [(8, _)] (d4) q_e07a3 (by kernel_rfl) q_f3e16 q_16cf6 (.inr q_95ecf) rfl rfl rfl q_85eb5 ?_) | (refine is_f 60 ?_; refine w_call [] [] (known28) q_2f365 (by kernel_rfl) (fun g h => by cases h) (fun i b h => by cases h) (.inl rfl) rfl rfl rfl q_85eb5 ?_)); try dsimp only [AV.unfr, AV.unfrs, frsL, pairs, rdOf, @List.length_cons Blk, @List.length_nil Blk, @List.nil_append (Nat × Option Blk), @List.cons_append (Nat × Option Blk), @List.nil_append Blk, @List.cons_append Blk, Nat.add_zero, Nat.zero_add, Nat.reduceAdd]) | (first | (refine is_move ?_; first | refine w_skip rfl q_d6b09 ?_ | refine w_read rfl q_85eb5 q_2ce30 ?_) | (refine is_assign ?_; first | refine w_read rfl (.inl ⟨rfl, rfl⟩) q_732c1 ?_) | (refine is_load ?_; first | refine w_skip rfl q_d6b09 ?_ | refine w_read rfl q_85eb5 q_98330 ?_) | (refine is_pick ?_; first | refine w_read rfl (.inl ⟨rfl, rfl⟩) q_651c9 ?_) | (refine is_bin ?_; first | (refine is_b_add ?_; first | refine w_read rfl (.inl ⟨rfl, rfl⟩) (p_add rfl rfl q_cc899) ?_) | (refine is_b_eql ?_; first | (refine w_dec rfl (.inl ⟨rfl, rfl⟩) (p_eql rfl rfl) (fun hb => ?_) (fun hb => ?_) <;> (try (exfalso; omega))) | refine w_read rfl (.inl ⟨rfl, rfl⟩) (p_eqlb (by kernel_rfl) rfl rfl) ?_ | (refine w_dec rfl (.inl ⟨rfl, rfl⟩) (p_seql rfl rfl) (fun hb => ?_) (fun hb => ?_)) | (refine w_dec rfl (.inl ⟨rfl, rfl⟩) (p_eqag rfl rfl rfl rfl) (fun hb => ?_) (fun hb => ?_))) | (refine is_b_neq ?_; first | refine w_skip rfl q_d6b09 ?_ | (refine w_dec rfl q_85eb5 (p_neq rfl rfl) (fun hb => ?_) (fun hb => ?_) <;> (try (exfalso; omega))) | refine w_read rfl q_85eb5 (p_neqb (by kernel_rfl) rfl rfl) ?_ | (refine w_dec rfl q_85eb5 (p_sneq rfl rfl) (fun hb => ?_) (fun hb => ?_)) | (refine w_dec rfl q_85eb5 (p_neqag rfl rfl rfl rfl) (fun hb => ?_) (fun hb => ?_)))) | (refine is_call ?_; first | refine w_skip rfl q_d6b09 ?_) | (refine is_un ?_; first | (refine is_u_not ?_; first | refine w_skip rfl q_d6b09 ?_ | refine w_read rfl q_85eb5 (p_not rfl) ?_)) | (refine is_extract ?_; first | refine w_read rfl (.inl ⟨rfl, rfl⟩) q_be838 ?_) | (refine is_alloc ?_; first | refine w_make rfl (.inl ⟨rfl, rfl⟩) m_alloc rfl ?_) | (refine is_store ?_; first | refine w_store rfl (a := .r _) rfl rfl rfl q_341a8 rfl rfl q_85eb5 ?_ | refine w_store rfl (a := .ag _) rfl rfl rfl q_341a8 rfl rfl q_85eb5 ?_ | refine w_store rfl (a := .rp _) rfl rfl rfl q_341a8 rfl rfl q_85eb5 ?_ | refine w_store rfl (a := .pt _ _) rfl rfl rfl q_341a8 rfl rfl q_85eb5 ?_ | refine w_store_p1 rfl rfl rfl rfl q_826a3 OnT.size rfl q_85eb5 ?_ | (refine w_store_pe rfl rfl rfl rfl q_826a3 q_341a8 rfl rfl q_85eb5 ?_; try dsimp only [List.reverse, List.reverseAux]))) | (first | refine awp_seq ?_ | refine thenA_ret ?_ | refine blockA_ret ?_ | refine awp_block ?_ | refine awp_text ?_ | refine awp_any (by kernel_rfl) ?_ | refine w_nilT ?_ | refine w_nil (by kernel_rfl) ?_ | refine awp_condT rfl ?_ | refine awp_condF rfl ?_ | refine awp_skip ?_ | refine awp_exit ?_ | refine awp_ret ?_) | (refine awp_cond rfl (fun hb => ?_) (fun hb => ?_) <;> (try simp only [Bool.not_eq_true', Bool.not_eq_false', decide_eq_true_eq, decide_eq_false_iff_not] at hb) <;> (try (exfalso; omega)))))
    · rename_i hb
      refine absurd ?_ hb
      show eqA [.r (.v (.int .i64 (xc : Int))), .r (.v (.int .i64 (xt : Int))), .r (.v (.int .i64 (xk : Int)))] [.r (.v (.int .i64 (xc : Int))), .r (.v (.int .i64 (xt : Int))), .r (.v (.int .i64 (xk : Int)))] = true
      simp [eqA]
    · exact ret1 [] (.bool rfl) rfl rfl rfl
end Go.Proofs.Ytabgmodllifgjaa
