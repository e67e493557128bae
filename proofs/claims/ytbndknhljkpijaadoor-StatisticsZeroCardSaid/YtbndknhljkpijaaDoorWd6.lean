/- The reference's whole numbers: wide, Valid, clean, Of, Sign, Compare, Mul. Conditions: ranges. --ext6 -/
import Derived.Test.YtbndknhljkpijaaDoorWd5
namespace Go.Proofs.YtbndknhljkpijaaDoor
open Go.RowKit Go.Ab Go.Wd
set_option maxRecDepth 100000
set_option linter.unusedVariables false
set_option linter.unusedSimpArgs false

theorem Rt.agR {H : Nat → Option Blk} {L : Nat} {G : List Nat} : ∀ (cs : List RV), RtL H L G (cs.map .r) (cs.map .r) []
  | [] => .nil
  | c :: cs => .cons _ _ _ _ [] [] (.r c) (Rt.agR cs)
theorem Rt.wd {H : Nat → Option Blk} {L : Nat} {G : List Nat} (b : Bool) (n : Nat) : Rt H L G (Go.Proofs.YtbndknhljkpijaaDoor.wd b n) (Go.Proofs.YtbndknhljkpijaaDoor.wd b n) [] := .ag _ _ _ (Rt.agR [.v (.bool b), .v (.int .u64 ((n % B64 : Nat) : Int)), .v (.int .u64 ((n / B64 % B64 : Nat) : Int)), .v (.int .u64 ((n / B64 / B64 % B64 : Nat) : Int)), .v (.int .u64 ((n / B64 / B64 / B64 % B64 : Nat) : Int))])
theorem wd_zero (b : Bool) : wd b 0 = .ag [.r (.v (.bool b)), .r (.v (.int .u64 0)), .r (.v (.int .u64 0)), .r (.v (.int .u64 0)), .r (.v (.int .u64 0))] := rfl
theorem tw_ws (n : Nat) (hn : n < B64 ^ 4) : tw n ++ List.replicate (4 - (tw n).length) 0 = ws n 4 := by
  have hl := tw_len 4 n hn
  have hlen : (tw n ++ List.replicate (4 - (tw n).length) 0).length = 4 := by rw [List.length_append, List.length_replicate]; omega
  have hw : Wds (tw n ++ List.replicate (4 - (tw n).length) 0) := by
    intro a ha
    rcases List.mem_append.1 ha with h | h
    · exact tw_wds n a h
    · rw [List.eq_of_mem_replicate h]; decide
  have hv : val (tw n ++ List.replicate (4 - (tw n).length) 0) = n := by rw [val_append, val_zeros, val_tw, Nat.mul_zero, Nat.add_zero]
  have := ws_val _ hw
  rw [hv, hlen] at this
  exact this.symm
theorem fill_step (l : List Nat) (i : Nat) (hi : i < l.length) (h4 : l.length ≤ 4) : (l.take i ++ List.replicate (4 - i) 0).set i (l.getD i 0) = l.take (i + 1) ++ List.replicate (4 - (i + 1)) 0 := by
  apply List.ext_getElem?
  intro k
  have e : 4 - i = (4 - (i + 1)) + 1 := by omega
  rcases Nat.lt_trichotomy k i with hk | hk | hk
  · simp [List.getElem?_append, List.getElem?_take, List.getElem?_set, hk, Nat.min_eq_left (Nat.le_of_lt hi), show ¬ i = k by omega, show k < min (i + 1) l.length by omega, show k < i + 1 by omega]
  · subst hk
    simp [List.getElem?_append, List.getElem?_take, List.getElem?_set, hi, Nat.min_eq_left (Nat.le_of_lt hi), show k < min (k + 1) l.length by omega, show k < k + (4 - k) by omega]
  · have : i ≠ k := by omega
    simp [List.getElem?_append, List.getElem?_take, List.getElem?_set, Nat.min_eq_left (Nat.le_of_lt hi), this, show ¬ k < i by omega, show ¬ k < min (i + 1) l.length by omega, Nat.min_eq_left (show i + 1 ≤ l.length from hi)]
    have h0 : ¬ 0 = k - i := by omega
    by_cases h : k < 4
    · simp [List.getElem?_replicate, show k - i < 4 - i by omega, show ¬ k < i + 1 by omega, h0, show k - (i + 1) < 3 - i by omega]
    · simp [List.getElem?_replicate, show ¬ k - i < 4 - i by omega, show ¬ k < i + 1 by omega, h0, show ¬ k - (i + 1) < 3 - i by omega]
def wiS (m : List Nat) (bb : Bool) (i : Nat) (l : List Nat) : St := ⟨[(1, .r (.sl 1 (wns m))), (4, .pt 0 0), (6, .pt 1 0), (7, .r (.v (.int .i64 (i : Int))))], [(0, some (.var 31 [.r (.v (.bool false)), .r (.v (.int .u64 0)), .r (.v (.int .u64 0)), .r (.v (.int .u64 0)), .r (.v (.int .u64 0))])), (1, some (.var 31 (.r (.v (.bool bb)) :: wv l)))], 2⟩
theorem wide_m (b : Bool) (n : Nat) (hn : n < B64 ^ 4) : Meets Tryd.prog 25 [.r (.v (.bool b)), .r (.sl 1 (wns (tw n)))] [] (.tu [wd (b && decide (n ≠ 0)) n, .r (.v (.bool true))]) [] := by
  refine fn_of Tryd.func25 rfl (Nat.le_of_ble_eq_true rfl) rfl rfl ?_
  have hl := tw_len 4 n hn
  have hll := wns_len (tw n)
  have cT := trim_m (tw n) (by omega)
  rw [trim_tw _ (tw_wds n), val_tw] at cT
  have hb0 : (b && decide (n ≠ 0)) = (b && decide (0 < (tw n).length)) := by
    by_cases h : n = 0
    · subst h; rw [tw_zero]; rfl
    · rw [tw_pos h]; simp [h]
  have hws := tw_ws n hn
  rw [hb0]
  generalize tw n = m at *
  cases b with
  | false =>
    (repeat' (first | refine r_4eabd4 ?_ | (refine is_f 41 ?_; refine r_bb2b31 (cT) ?_) | (refine r_48b933 (fun hb => ?_) (fun hb => ?_) <;> (try (exfalso; omega))) | (refine awp_cond rfl (fun hb => ?_) (fun hb => ?_) <;> (try simp only [Bool.not_eq_true', Bool.not_eq_false', decide_eq_true_eq, decide_eq_false_iff_not] at hb) <;> (try (exfalso; omega)))))
    all_goals (first | (exfalso; omega) | skip)
    rw [Bool.false_and]
    refine awp_loop' (fun i : Nat => wiS m false i (m.take i ++ List.replicate (4 - i) 0)) (fun i => i ≤ m.length) (fun i => m.length - i) 0 (Nat.zero_le _) (by (refine Le.mk [(0,0),(1,1)] [] q_5ec36 q_43730 q_16bb5 q_509a2)) fun i hx => ?_
    rcases Nat.lt_or_ge i m.length with hi | hi
    · have hL : (m.take i ++ List.replicate (4 - i) 0).length = 4 := by rw [List.length_append, List.length_replicate, List.length_take]; omega
      have hst := fill_step m i hi hl
      have gm := wns_get (l := m) hi
      change awp _ _ _ _ _ (wiS m false i (m.take i ++ List.replicate (4 - i) 0))
      generalize m.take i ++ List.replicate (4 - i) 0 = L at *
      have hlen : Nat.ble (0 + 1 + i * 1 + 1) (AV.r (.v (.bool false)) :: wv L).length = true := by rw [Nat.ble_eq, List.length_cons, wv_len]; omega
      have hE : setA (AV.r (.v (.bool false)) :: wv L) (0 + 1 + i * 1) [.r (.v (.int .u64 (m.getD i 0 : Nat)))] = AV.r (.v (.bool false)) :: wv (L.set i (m.getD i 0)) := by
        rw [← wv_set L i _ (by omega), show 0 + 1 + i * 1 = i + 1 by omega]; rfl
      have hi4 : i < 4 := by omega
      have hid : ∀ T, (Blk.var T (AV.r (.v (.bool false)) :: wv (L.set i (m.getD i 0)))).ids = [] := fun T => by rw [Blk.ids, AV.idss, idss_wv]; rfl
      have hnum : numsOk ⟨0, moved []⟩ (wiS m false (i + 1) (L.set i (m.getD i 0))) (rho []) [] = true := by
        unfold numsOk wiS; simp only [List.all_cons, List.all_nil, hid]; rfl
      (repeat' (first | refine r_4eabd4 ?_ | (refine r_48b933 (fun hb => ?_) (fun hb => ?_) <;> (try (exfalso; omega))) | (refine awp_cond rfl (fun hb => ?_) (fun hb => ?_) <;> (try simp only [Bool.not_eq_true', Bool.not_eq_false', decide_eq_true_eq, decide_eq_false_iff_not] at hb) <;> (try (exfalso; omega)))))
      all_goals (first | (exfalso; omega) | exact ⟨i + 1, hi, by show Le _ _ (wiS m false (i + 1) (m.take (i + 1) ++ List.replicate (4 - (i + 1)) 0)); rw [← hst]; simp only [cellsA]; rw [hE]; (refine Le.mk [] [] q_5ec36 q_43730 q_16bb5 q_509a2), by show m.length - (i + 1) < m.length - i; omega⟩)
    · have hie : i = m.length := by have : i ≤ m.length := hx; omega
      subst hie
      have e : m.take m.length ++ List.replicate (4 - m.length) 0 = ws n 4 := by rw [List.take_length]; exact hws
      change awp _ _ _ _ _ (wiS m false m.length (m.take m.length ++ List.replicate (4 - m.length) 0))
      rw [e]
      (repeat' (first | refine r_4eabd4 ?_ | (refine r_48b933 (fun hb => ?_) (fun hb => ?_) <;> (try (exfalso; omega))) | (refine awp_cond rfl (fun hb => ?_) (fun hb => ?_) <;> (try simp only [Bool.not_eq_true', Bool.not_eq_false', decide_eq_true_eq, decide_eq_false_iff_not] at hb) <;> (try (exfalso; omega)))))
      all_goals (first | (exfalso; omega) | exact ret2c [] (Rt.wd false n) (.bool rfl) rfl rfl rfl rfl rfl (post_none rfl) rfl)
  | true =>
    rcases Nat.eq_zero_or_pos m.length with h0 | h0
    · have hd : (true && decide (0 < m.length)) = false := by simp [h0]
      rw [hd]
      (repeat' (first | refine r_4eabd4 ?_ | (refine is_f 41 ?_; refine r_bb2b31 (cT) ?_) | (refine r_48b933 (fun hb => ?_) (fun hb => ?_) <;> (try (exfalso; omega))) | (refine awp_cond rfl (fun hb => ?_) (fun hb => ?_) <;> (try simp only [Bool.not_eq_true', Bool.not_eq_false', decide_eq_true_eq, decide_eq_false_iff_not] at hb) <;> (try (exfalso; omega)))))
      all_goals (first | (exfalso; omega) | skip)
      refine awp_loop' (fun i : Nat => wiS m false i (m.take i ++ List.replicate (4 - i) 0)) (fun i => i ≤ m.length) (fun i => m.length - i) 0 (Nat.zero_le _) (by (refine Le.mk [(0,0),(1,1)] [] q_5ec36 q_43730 q_16bb5 q_509a2)) fun i hx => ?_
      rcases Nat.lt_or_ge i m.length with hi | hi
      · have hL : (m.take i ++ List.replicate (4 - i) 0).length = 4 := by rw [List.length_append, List.length_replicate, List.length_take]; omega
        have hst := fill_step m i hi hl
        have gm := wns_get (l := m) hi
        change awp _ _ _ _ _ (wiS m false i (m.take i ++ List.replicate (4 - i) 0))
        generalize m.take i ++ List.replicate (4 - i) 0 = L at *
        have hlen : Nat.ble (0 + 1 + i * 1 + 1) (AV.r (.v (.bool false)) :: wv L).length = true := by rw [Nat.ble_eq, List.length_cons, wv_len]; omega
        have hE : setA (AV.r (.v (.bool false)) :: wv L) (0 + 1 + i * 1) [.r (.v (.int .u64 (m.getD i 0 : Nat)))] = AV.r (.v (.bool false)) :: wv (L.set i (m.getD i 0)) := by
          rw [← wv_set L i _ (by omega), show 0 + 1 + i * 1 = i + 1 by omega]; rfl
        have hi4 : i < 4 := by omega
        have hid : ∀ T, (Blk.var T (AV.r (.v (.bool false)) :: wv (L.set i (m.getD i 0)))).ids = [] := fun T => by rw [Blk.ids, AV.idss, idss_wv]; rfl
        have hnum : numsOk ⟨0, moved []⟩ (wiS m false (i + 1) (L.set i (m.getD i 0))) (rho []) [] = true := by
          unfold numsOk wiS; simp only [List.all_cons, List.all_nil, hid]; rfl
        (repeat' (first | refine r_4eabd4 ?_ | (refine r_48b933 (fun hb => ?_) (fun hb => ?_) <;> (try (exfalso; omega))) | (refine awp_cond rfl (fun hb => ?_) (fun hb => ?_) <;> (try simp only [Bool.not_eq_true', Bool.not_eq_false', decide_eq_true_eq, decide_eq_false_iff_not] at hb) <;> (try (exfalso; omega)))))
        all_goals (first | (exfalso; omega) | exact ⟨i + 1, hi, by show Le _ _ (wiS m false (i + 1) (m.take (i + 1) ++ List.replicate (4 - (i + 1)) 0)); rw [← hst]; simp only [cellsA]; rw [hE]; (refine Le.mk [] [] q_5ec36 q_43730 q_16bb5 q_509a2), by show m.length - (i + 1) < m.length - i; omega⟩)
      · have hie : i = m.length := by have : i ≤ m.length := hx; omega
        subst hie
        have e : m.take m.length ++ List.replicate (4 - m.length) 0 = ws n 4 := by rw [List.take_length]; exact hws
        change awp _ _ _ _ _ (wiS m false m.length (m.take m.length ++ List.replicate (4 - m.length) 0))
        rw [e]
        (repeat' (first | refine r_4eabd4 ?_ | (refine r_48b933 (fun hb => ?_) (fun hb => ?_) <;> (try (exfalso; omega))) | (refine awp_cond rfl (fun hb => ?_) (fun hb => ?_) <;> (try simp only [Bool.not_eq_true', Bool.not_eq_false', decide_eq_true_eq, decide_eq_false_iff_not] at hb) <;> (try (exfalso; omega)))))
        all_goals (first | (exfalso; omega) | exact ret2c [] (Rt.wd false n) (.bool rfl) rfl rfl rfl rfl rfl (post_none rfl) rfl)
    · have hd : (true && decide (0 < m.length)) = true := by simp [h0]
      rw [hd]
      (repeat' (first | refine r_4eabd4 ?_ | (refine is_f 41 ?_; refine r_bb2b31 (cT) ?_) | (refine r_48b933 (fun hb => ?_) (fun hb => ?_) <;> (try (exfalso; omega))) | (refine awp_cond rfl (fun hb => ?_) (fun hb => ?_) <;> (try simp only [Bool.not_eq_true', Bool.not_eq_false', decide_eq_true_eq, decide_eq_false_iff_not] at hb) <;> (try (exfalso; omega)))))
      all_goals (first | (exfalso; omega) | skip)
      refine awp_loop' (fun i : Nat => wiS m true i (m.take i ++ List.replicate (4 - i) 0)) (fun i => i ≤ m.length) (fun i => m.length - i) 0 (Nat.zero_le _) (by (refine Le.mk [(0,0),(1,1)] [] q_5ec36 q_43730 q_16bb5 q_509a2)) fun i hx => ?_
      rcases Nat.lt_or_ge i m.length with hi | hi
      · have hL : (m.take i ++ List.replicate (4 - i) 0).length = 4 := by rw [List.length_append, List.length_replicate, List.length_take]; omega
        have hst := fill_step m i hi hl
        have gm := wns_get (l := m) hi
        change awp _ _ _ _ _ (wiS m true i (m.take i ++ List.replicate (4 - i) 0))
        generalize m.take i ++ List.replicate (4 - i) 0 = L at *
        have hlen : Nat.ble (0 + 1 + i * 1 + 1) (AV.r (.v (.bool true)) :: wv L).length = true := by rw [Nat.ble_eq, List.length_cons, wv_len]; omega
        have hE : setA (AV.r (.v (.bool true)) :: wv L) (0 + 1 + i * 1) [.r (.v (.int .u64 (m.getD i 0 : Nat)))] = AV.r (.v (.bool true)) :: wv (L.set i (m.getD i 0)) := by
          rw [← wv_set L i _ (by omega), show 0 + 1 + i * 1 = i + 1 by omega]; rfl
        have hi4 : i < 4 := by omega
        have hid : ∀ T, (Blk.var T (AV.r (.v (.bool true)) :: wv (L.set i (m.getD i 0)))).ids = [] := fun T => by rw [Blk.ids, AV.idss, idss_wv]; rfl
        have hnum : numsOk ⟨0, moved []⟩ (wiS m true (i + 1) (L.set i (m.getD i 0))) (rho []) [] = true := by
          unfold numsOk wiS; simp only [List.all_cons, List.all_nil, hid]; rfl
        (repeat' (first | refine r_4eabd4 ?_ | (refine r_48b933 (fun hb => ?_) (fun hb => ?_) <;> (try (exfalso; omega))) | (refine awp_cond rfl (fun hb => ?_) (fun hb => ?_) <;> (try simp only [Bool.not_eq_true', Bool.not_eq_false', decide_eq_true_eq, decide_eq_false_iff_not] at hb) <;> (try (exfalso; omega)))))
        all_goals (first | (exfalso; omega) | exact ⟨i + 1, hi, by show Le _ _ (wiS m true (i + 1) (m.take (i + 1) ++ List.replicate (4 - (i + 1)) 0)); rw [← hst]; simp only [cellsA]; rw [hE]; (refine Le.mk [] [] q_5ec36 q_43730 q_16bb5 q_509a2), by show m.length - (i + 1) < m.length - i; omega⟩)
      · have hie : i = m.length := by have : i ≤ m.length := hx; omega
        subst hie
        have e : m.take m.length ++ List.replicate (4 - m.length) 0 = ws n 4 := by rw [List.take_length]; exact hws
        change awp _ _ _ _ _ (wiS m true m.length (m.take m.length ++ List.replicate (4 - m.length) 0))
        rw [e]
        (repeat' (first | refine r_4eabd4 ?_ | (refine r_48b933 (fun hb => ?_) (fun hb => ?_) <;> (try (exfalso; omega))) | (refine awp_cond rfl (fun hb => ?_) (fun hb => ?_) <;> (try simp only [Bool.not_eq_true', Bool.not_eq_false', decide_eq_true_eq, decide_eq_false_iff_not] at hb) <;> (try (exfalso; omega)))))
        all_goals (first | (exfalso; omega) | exact ret2c [] (Rt.wd true n) (.bool rfl) rfl rfl rfl rfl rfl (post_none rfl) rfl)
end Go.Proofs.YtbndknhljkpijaaDoor
