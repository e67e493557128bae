/- Chapter 33: the walk of StatisticsZero. Conditions: a list of at most 2^47 numbers. --ext6 -/
import Derived.Test.YtbndknhljkpijaaDoorSt7
namespace Go.Proofs.YtbndknhljkpijaaDoor
open Go.RowKit Go.Ab Go.Wd
set_option maxRecDepth 100000
set_option linter.unusedVariables false
set_option linter.unusedSimpArgs false

def szS (t : List Int) (k : Nat) (l : List (Int × Int)) : St := ⟨[(3, .pt 0 0), (4, .r (.sl 2 (smps l)))], [(0, some (tb t k))], 1⟩
def smV (l : List (Int × Int)) (w s q : Nat) : Blk := .var 33 ((smR l.length w s q).map .r)
def szR (l m : List (Int × Int)) (w s q : Nat) : St := ⟨[(4, .r (.sl 2 (smps l))), (5, .r (.sl 2 (smps m))), (6, .pt 0 0), (7, .r (.v (.int .i64 0)))], [(0, some (smV l w s q))], 1⟩
def szQ (l m : List (Int × Int)) (w s q : Nat) : St := ⟨[(4, .r (.sl 2 (smps l))), (5, .r (.sl 2 (smps m))), (6, .pt 0 0), (8, .pt 1 0), (9, .r (.v (.int .i64 0)))], [(0, some (smV l w s q)), (1, some (smV l w s q))], 2⟩
def szP (l m : List (Int × Int)) (w s q x y : Nat) : St := ⟨[(4, .r (.sl 2 (smps l))), (5, .r (.sl 2 (smps m))), (6, .pt 0 0), (8, .pt 1 0), (9, .r (.v (.int .i64 0))), (10, .pt 2 0), (12, .pt 3 0)], [(0, some (smV l w s q)), (1, some (smV l w s q)), (2, some (.var 31 (cellsA (wd false x)))), (3, some (.var 31 (cellsA (wd false y))))], 4⟩
set_option maxHeartbeats 8000000 in
theorem statisticsZero_m (t : List Int) (ht : Ints t) (htn : t.length ≤ 140737488351232) : Meets Tryd.prog 3 [.r (.sl 1 (nums .i64 t))] [] (.r (.v (.bool true))) [] := by
  refine fn_of Tryd.func3 rfl (Nat.le_of_ble_eq_true rfl) rfl rfl ?_
  have hls := smpL_smp t 0 30
  have hll := smpL_len t 0 30
  have cS := samples_m t 0 30 ht htn (by omega)
  generalize (smpL t 0 30).1 = l at *
  generalize (smpL t 0 30).2 = k1 at *
  have cK := shaken33_m t k1 l ht htn (by omega)
  obtain ⟨hms, hml⟩ := shk33_keep t k1 hls
  generalize (shk33 t k1 l).1 = m at *
  generalize (shk33 t k1 l).2 = k2 at *
  (repeat' (first | (first | refine awp_halt 3 ?_ | refine awp_haltR 3 ?_) | refine r_ceea32 ?_ | refine r_d3423f ?_ | (refine is_f 4 ?_; refine r_500103 (new_m t) ?_) | (refine is_f 5 ?_; refine r_181b4d (cS) ?_) | (refine r_48b933 (fun hb => ?_) (fun hb => ?_) <;> (try (exfalso; omega))) | (refine awp_cond rfl (fun hb => ?_) (fun hb => ?_) <;> (try simp only [Bool.not_eq_true', Bool.not_eq_false', decide_eq_true_eq, decide_eq_false_iff_not] at hb) <;> (try (exfalso; omega)))))
  refine halt ?_
  refine awp_le (T := szS t k1 l) (by (refine Le.mk [(0,0)] [1] q_5ec36 q_43730 q_16bb5 q_509a2)) ?_
  clear cS
  by_cases he : chkE l m = 0
  · have cC := compare33_m l m hls hms (by omega) (by omega) he
    obtain ⟨hlen, _, _, _⟩ := chkE_zero he
    have cC2 := compare33_m m l hms hls (by omega) (by omega) (chkE_comm he)
    rw [fD_comm l m, ← hlen] at cC2
    have cE := refSame12_m l m hls hms (by omega) (by omega)
    rw [wth_zero hls hms he] at cE
    have f1 := mD_sD (fD l m) l.length
    have f2 := sD_mD (fD l m) l.length
    have f3 := qD_sD (fD l m) (mD (fD l m) l.length) l.length (fun i hi => mD_ge _ _ i hi)
    have f4 := sD_qD (fD l m) l.length
    have hw := mD_lt (fD l m) B64 (by decide) l.length (fun i hi => fD_lt hls hms i hi (by omega))
    generalize mD (fD l m) l.length = w at *
    generalize sD (fD l m) l.length = s at *
    generalize sD (fun i => fD l m i * fD l m i) l.length = q at *
    have b2 : l.length * w ≤ 30 * B64 := Nat.mul_le_mul hll (by omega)
    have b3 : s * w ≤ (30 * B64) * B64 := Nat.mul_le_mul (by omega) (by omega)
    have K1 : 30 * B64 < B64 ^ 4 := by decide
    have K2 : (30 * B64) * B64 < B64 ^ 4 := by decide
    have K3 : B64 < B64 ^ 4 := by decide
    have cO := refOf_m l.length (by omega)
    have cM := refMul_m l.length w (by omega) (by omega) (by omega)
    have cN := refMul_m s w (by omega) (by omega) (by omega)
    have cG := refSign_m w (by omega)
    have p1 := refCompare_m w s (by omega) (by omega)
    have p2 := refCompare_m s (l.length * w) (by omega) (by omega)
    have p3 := refCompare_m q (s * w) (by omega) (by omega)
    have p4 := refCompare_m s q (by omega) (by omega)
    have g1 := cmpN_le f1
    have g2 := cmpN_le f2
    have g3 := cmpN_le f3
    have g4 := cmpN_le f4
    clear f1 f2 f3 f4 b2 b3 K1 K2 K3 hw
    have hll2 := smps_len l
    generalize l.length * w = x at *
    generalize s * w = y at *
    generalize cmpN w s = e1 at *
    generalize cmpN s x = e2 at *
    generalize cmpN q y = e3 at *
    generalize cmpN s q = e4 at *
    (repeat' (first | (first | refine awp_halt 5 ?_ | refine awp_haltR 5 ?_) | refine r_ceea32 ?_ | refine r_d3423f ?_ | (refine is_f 6 ?_; refine r_181b4d (cK) ?_) | (refine is_f 7 ?_; refine r_bb2b31 (cC) ?_) | (refine r_48b933 (fun hb => ?_) (fun hb => ?_) <;> (try (exfalso; omega))) | (refine awp_cond rfl (fun hb => ?_) (fun hb => ?_) <;> (try simp only [Bool.not_eq_true', Bool.not_eq_false', decide_eq_true_eq, decide_eq_false_iff_not] at hb) <;> (try (exfalso; omega)))))
    refine halt ?_
    refine awp_le (T := szR l m w s q) (by (refine Le.mk [(0,1)] [] q_5ec36 q_43730 q_16bb5 q_509a2)) ?_
    (repeat' (first | (first | refine awp_halt 8 ?_ | refine awp_haltR 8 ?_) | refine r_ceea32 ?_ | refine r_d3423f ?_ | (refine is_f 7 ?_; refine r_bb2b31 (cC2) ?_) | (refine r_48b933 (fun hb => ?_) (fun hb => ?_) <;> (try (exfalso; omega))) | (refine awp_cond rfl (fun hb => ?_) (fun hb => ?_) <;> (try simp only [Bool.not_eq_true', Bool.not_eq_false', decide_eq_true_eq, decide_eq_false_iff_not] at hb) <;> (try (exfalso; omega)))))
    all_goals (first | (exfalso; omega) | skip)
    refine halt ?_
    refine awp_le (T := szQ l m w s q) (by (refine Le.mk [(0,0),(1,1)] [] q_5ec36 q_43730 q_16bb5 q_509a2)) ?_
    clear cK cC cC2
    (repeat' (first | (first | refine awp_halt 10 ?_ | refine awp_haltR 10 ?_) | refine r_ceea32 ?_ | refine r_d3423f ?_ | (refine is_f 10 ?_; refine r_bb2b31 (cO) ?_) | (refine is_f 9 ?_; refine r_bb2b31 (cM) ?_) | (refine is_f 9 ?_; refine r_bb2b31 (cN) ?_) | (refine r_48b933 (fun hb => ?_) (fun hb => ?_) <;> (try (exfalso; omega))) | (refine awp_cond rfl (fun hb => ?_) (fun hb => ?_) <;> (try simp only [Bool.not_eq_true', Bool.not_eq_false', decide_eq_true_eq, decide_eq_false_iff_not] at hb) <;> (try (exfalso; omega)))))
    refine halt ?_
    refine awp_le (T := szP l m w s q x y) (by (refine Le.mk [(0,0),(1,1),(2,2),(3,3)] [] q_5ec36 q_43730 q_16bb5 q_509a2)) ?_
    clear cO cM cN
    by_cases hz : w = 0
    · rw [decide_eq_true hz] at cE
      have hg : sgN w = 0 := by unfold sgN; rw [if_pos hz]
      rw [hg] at cG
      (repeat' (first | (refine is_bin ?_; refine is_b_eql ?_; refine w_read rfl q_85eb5 (p_eqsum rfl rfl) ?_) | refine r_4eabd4 ?_ | (refine is_f 8 ?_; refine r_bb2b31 (known33_m) ?_) | (refine is_f 11 ?_; refine r_bb2b31 (cG) ?_) | (refine is_f 12 ?_; refine r_bb2b31 (cE) ?_) | (refine is_f 13 ?_; refine r_bb2b31 (p1) ?_) | (refine is_f 13 ?_; refine r_bb2b31 (p2) ?_) | (refine is_f 13 ?_; refine r_bb2b31 (p3) ?_) | (refine is_f 13 ?_; refine r_bb2b31 (p4) ?_) | (refine r_48b933 (fun hb => ?_) (fun hb => ?_) <;> (try (exfalso; omega))) | (refine awp_cond rfl (fun hb => ?_) (fun hb => ?_) <;> (try simp only [Bool.not_eq_true', Bool.not_eq_false', decide_eq_true_eq, decide_eq_false_iff_not] at hb) <;> (try (exfalso; omega)))))
      all_goals (first | (exfalso; omega) | exact ret1 [] (.bool rfl) rfl rfl rfl)
    · rw [decide_eq_false hz] at cE
      have hg : sgN w = 1 := by unfold sgN; rw [if_neg hz]
      rw [hg] at cG
      (repeat' (first | (refine is_bin ?_; refine is_b_eql ?_; refine w_read rfl q_85eb5 (p_eqsum rfl rfl) ?_) | refine r_4eabd4 ?_ | (refine is_f 8 ?_; refine r_bb2b31 (known33_m) ?_) | (refine is_f 11 ?_; refine r_bb2b31 (cG) ?_) | (refine is_f 12 ?_; refine r_bb2b31 (cE) ?_) | (refine is_f 13 ?_; refine r_bb2b31 (p1) ?_) | (refine is_f 13 ?_; refine r_bb2b31 (p2) ?_) | (refine is_f 13 ?_; refine r_bb2b31 (p3) ?_) | (refine is_f 13 ?_; refine r_bb2b31 (p4) ?_) | (refine r_48b933 (fun hb => ?_) (fun hb => ?_) <;> (try (exfalso; omega))) | (refine awp_cond rfl (fun hb => ?_) (fun hb => ?_) <;> (try simp only [Bool.not_eq_true', Bool.not_eq_false', decide_eq_true_eq, decide_eq_false_iff_not] at hb) <;> (try (exfalso; omega)))))
      all_goals (first | (exfalso; omega) | exact ret1 [] (.bool rfl) rfl rfl rfl)
  · have cC := compare33_no l m (by omega) (by omega) he
    generalize chkE l m = e at *
    (repeat' (first | (first | refine awp_halt 7 ?_ | refine awp_haltR 7 ?_) | refine r_ceea32 ?_ | refine r_d3423f ?_ | (refine is_f 6 ?_; refine r_181b4d (cK) ?_) | (refine is_f 7 ?_; refine r_bb2b31 (cC) ?_) | (refine is_f 8 ?_; refine r_bb2b31 (known33_m) ?_) | (refine r_48b933 (fun hb => ?_) (fun hb => ?_) <;> (try (exfalso; omega))) | (refine awp_cond rfl (fun hb => ?_) (fun hb => ?_) <;> (try simp only [Bool.not_eq_true', Bool.not_eq_false', decide_eq_true_eq, decide_eq_false_iff_not] at hb) <;> (try (exfalso; omega)))))
    all_goals (first | (exfalso; omega) | exact ret1 [] (.bool rfl) rfl rfl rfl)
end Go.Proofs.YtbndknhljkpijaaDoor
