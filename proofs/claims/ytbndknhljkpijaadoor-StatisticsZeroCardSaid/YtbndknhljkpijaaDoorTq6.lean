/- The tape: Samples. Conditions: none beyond the numbers' ranges. --ext3 -/
import Derived.Test.YtbndknhljkpijaaDoorTq5
namespace Go.Proofs.YtbndknhljkpijaaDoor
open Go.RowKit Go.Ab
set_option maxRecDepth 100000
set_option linter.unusedVariables false
set_option linter.unusedSimpArgs false

/-- A sample's value; the base behind it; the numbers taken. -/
def smX (t : List Int) (kind slope : Int) (i : Nat) (v : Int) (k : Nat) : Int × Int × Nat :=
  if kind = 1 then (IntKind.i64.wrap (v + IntKind.i64.wrap ((i : Int) * slope)), v, k)
  else if kind = 2 then (IntKind.i64.wrap (IntKind.i64.wrap (v + IntKind.i64.wrap ((i : Int) * slope)) + (nx t k 7 - 3)), v, adv t k)
  else if kind = 3 then (IntKind.i64.wrap (v + (nx t k 9 - 4)), v, adv t k)
  else if kind = 4 then ((itv t k).1, v, (itv t k).2)
  else if kind = 5 then (if nx t k (5 : Nat) = 1 then (IntKind.i64.wrap (IntKind.i64.wrap (v + (nx t (adv t k) 400 - 200)) + nx t (adv t (adv t k)) 3), IntKind.i64.wrap (v + (nx t (adv t k) 400 - 200)), adv t (adv t (adv t k))) else (IntKind.i64.wrap (v + nx t (adv t k) 3), v, adv t (adv t k)))
  else if kind = 6 then (IntKind.i64.wrap (IntKind.i64.wrap (nx t k 50 * nx t (adv t k) 50) * slope), v, adv t (adv t k))
  else (v, v, k)
/-- What j rounds append. -/
def sms (t : List Int) (kind slope : Int) (ts : List Int) : Nat → Nat → Int → Nat → List (Int × Int) → List (Int × Int) × Nat
  | 0, i, v, k, acc => (acc, k)
  | j + 1, i, v, k, acc => sms t kind slope ts j (i + 1) (smX t kind slope i v k).2.1 (smX t kind slope i v k).2.2 (acc ++ [(ts.getD i 0, (smX t kind slope i v k).1)])
/-- The samples that the tape gives. -/
def smpL (t : List Int) (k n : Nat) : List (Int × Int) × Nat :=
  sms t (nx t (tmL t k n).2 7) (nx t (itv t (adv t (tmL t k n).2)).2 41 - 20) (tmL t k n).1 (tmL t k n).1.length 0 (itv t (adv t (tmL t k n).2)).1 (adv t (itv t (adv t (tmL t k n).2)).2) []
theorem tms_len (t : List Int) (kind step : Int) : ∀ (i k : Nat) (a : Int) (acc : List Int), (tms t kind step i k a acc).1.length ≤ acc.length + i
  | 0, k, a, acc => by simp [tms]
  | i + 1, k, a, acc => by
    rw [tms]
    split
    · simp
    · have := tms_len t kind step i (tmD t kind step k).2 (a + (tmD t kind step k).1) (acc ++ [a])
      simp at this
      omega
theorem tmL_len (t : List Int) (k n : Nat) : (tmL t k n).1.length ≤ n := by
  have h := tms_len t (nx t k 5) (1 + nx t (itv t (adv t k)).2 50) (nx t (adv t (itv t (adv t k)).2) ((n : Int) + 1)).toNat (adv t (adv t (itv t (adv t k)).2)) (itv t (adv t k)).1 []
  have hn := nx_range t (adv t (itv t (adv t k)).2) (show (1 : Int) ≤ (n : Int) + 1 by omega)
  unfold tmL
  simp at h
  omega
def smS (t : List Int) (kind slope : Int) (ts : List Int) (i : Nat) (v : Int) (k : Nat) (acc : List (Int × Int)) : St :=
  ⟨[(0, .pt 0 0), (5, .r (.sl 1 (nums .i64 ts))), (6, .ow 1), (7, .r (.v (.int .i64 kind))), (8, .r (.v (.int .i64 v))), (9, .r (.v (.int .i64 slope))), (10, .r (.v (.int .i64 i)))], [(0, some (tb t k)), (1, some (.row 53 2 (smps acc)))], 2⟩
set_option maxHeartbeats 4000000 in
theorem samples_m (t : List Int) (k n : Nat) (ht : Ints t) (htn : t.length ≤ 140737488351232) (hn : n ≤ 1000) : Meets Tryd.prog 5 [.pt 0 0, .r (.v (.int .i64 n))] [tb t k] (.fr 53 2 (smps (smpL t k n).1)) [some (tb t (smpL t k n).2)] := by
  refine fn_of Tryd.func5 rfl (Nat.le_of_ble_eq_true rfl) rfl rfl ?_
  have h7 := nx_range t (tmL t k n).2 (show (1 : Int) ≤ 7 by omega)
  have h41 := nx_range t (itv t (adv t (tmL t k n).2)).2 (show (1 : Int) ≤ 41 by omega)
  have hI := itv_range t (adv t (tmL t k n).2)
  (repeat' (first | refine r_9b4c86 ?_ | (refine is_f 14 ?_; refine r_23d47f (times_m t k n ht htn hn) ?_) | (refine is_f 15 ?_; refine r_23d47f (next_m t (tmL t k n).2 7 ht htn (by omega)) ?_) | (refine is_f 16 ?_; refine r_23d47f (int_m t (adv t (tmL t k n).2) ht htn) ?_) | (refine is_f 15 ?_; refine r_23d47f (next_m t (itv t (adv t (tmL t k n).2)).2 41 ht htn (by omega)) ?_) | (refine r_9d2174 (fun hb => ?_) (fun hb => ?_) <;> (try (exfalso; omega))) | (refine awp_cond rfl (fun hb => ?_) (fun hb => ?_) <;> (try simp only [Bool.not_eq_true', Bool.not_eq_false', decide_eq_true_eq, decide_eq_false_iff_not] at hb) <;> (try (exfalso; omega)))))
  refine awp_nilow 6 53 2 rfl rfl ?_
  have h00 : ([] : List (List RV)) = smps [] := rfl
  have hlen := tmL_len t k n
  refine awp_loop' (fun x : Nat × Int × Nat × List (Int × Int) => smS t (nx t (tmL t k n).2 7) (nx t (itv t (adv t (tmL t k n).2)).2 41 - 20) (tmL t k n).1 x.1 x.2.1 x.2.2.1 x.2.2.2) (fun x => x.1 ≤ (tmL t k n).1.length ∧ sms t (nx t (tmL t k n).2 7) (nx t (itv t (adv t (tmL t k n).2)).2 41 - 20) (tmL t k n).1 ((tmL t k n).1.length - x.1) x.1 x.2.1 x.2.2.1 x.2.2.2 = smpL t k n ∧ x.2.2.2.length = x.1) (fun x => (tmL t k n).1.length - x.1)
    (0, (itv t (adv t (tmL t k n).2)).1, adv t (itv t (adv t (tmL t k n).2)).2, []) ⟨Nat.zero_le _, rfl, rfl⟩ (by (refine Le.mk [(0,0),(1,2)] [1] rfl q_4bd83 q_5650d q_509a2)) fun x hx => ?_
  obtain ⟨i, v, q, acc⟩ := x
  obtain ⟨hx1, hx2, hx3⟩ := hx
  dsimp only at hx1 hx2 hx3
  generalize smpL t k n = R at *
  clear hI
  generalize nx t (tmL t k n).2 7 = kind at *
  generalize hsl : nx t (itv t (adv t (tmL t k n).2)).2 41 - 20 = slope at *
  have hs2 : -20 ≤ slope ∧ slope ≤ 20 := by omega
  clear hsl h41
  generalize (tmL t k n).1 = ts at *
  change awp _ _ _ _ _ (smS t kind slope ts i v q acc)
  have hbl : (nums .i64 ts).length = ts.length := nums_len .i64 ts
  have hal := smps_len acc
  rcases Nat.lt_or_ge i ts.length with hi | hi
  · obtain ⟨j, hj⟩ : ∃ j, ts.length - i = j + 1 := ⟨ts.length - i - 1, by omega⟩
    have hj2 : j = ts.length - (i + 1) := by omega
    rw [hj, sms] at hx2
    subst hj2
    by_cases k1 : kind = 1
    · have hD : smX t kind slope i v q = (IntKind.i64.wrap (v + IntKind.i64.wrap ((i : Int) * slope)), v, q) := by unfold smX; (repeat' split) <;> first | rfl | (exfalso; omega)
      rw [hD] at hx2
      dsimp only at hx2
      have hE : smps acc ++ [[.v (.int .i64 (ts.getD i 0)), .v (.int .i64 (IntKind.i64.wrap (v + IntKind.i64.wrap ((i : Int) * slope))))]] = smps (acc ++ [(ts.getD i 0, IntKind.i64.wrap (v + IntKind.i64.wrap ((i : Int) * slope)))]) := by rw [smps_append]; rfl
      (repeat' (first | refine r_9b4c86 ?_ | (refine r_9d2174 (fun hb => ?_) (fun hb => ?_) <;> (try (exfalso; omega))) | (refine awp_cond rfl (fun hb => ?_) (fun hb => ?_) <;> (try simp only [Bool.not_eq_true', Bool.not_eq_false', decide_eq_true_eq, decide_eq_false_iff_not] at hb) <;> (try (exfalso; omega)))))
      all_goals exact ⟨(i + 1, v, q, acc ++ [(ts.getD i 0, IntKind.i64.wrap (v + IntKind.i64.wrap ((i : Int) * slope)))]), ⟨by show i + 1 ≤ ts.length; omega, hx2, by show (acc ++ [(ts.getD i 0, IntKind.i64.wrap (v + IntKind.i64.wrap ((i : Int) * slope)))]).length = i + 1; rw [List.length_append, hx3]; rfl⟩, by show Le _ _ (smS t kind slope ts (i + 1) (v) (q) (acc ++ [(ts.getD i 0, IntKind.i64.wrap (v + IntKind.i64.wrap ((i : Int) * slope)))])); (refine Le.mk [(0,0),(1,3)] [] rfl q_4bd83 q_5650d q_509a2), by show ts.length - (i + 1) < ts.length - i; omega⟩
    · by_cases k2 : kind = 2
      · have h9 := nx_range t q (show (1 : Int) ≤ 7 by omega)
        have hD : smX t kind slope i v q = (IntKind.i64.wrap (IntKind.i64.wrap (v + IntKind.i64.wrap ((i : Int) * slope)) + (nx t q 7 - 3)), v, adv t q) := by unfold smX; (repeat' split) <;> first | rfl | (exfalso; omega)
        rw [hD] at hx2
        dsimp only at hx2
        have hE : smps acc ++ [[.v (.int .i64 (ts.getD i 0)), .v (.int .i64 (IntKind.i64.wrap (IntKind.i64.wrap (v + IntKind.i64.wrap ((i : Int) * slope)) + (nx t q 7 - 3))))]] = smps (acc ++ [(ts.getD i 0, IntKind.i64.wrap (IntKind.i64.wrap (v + IntKind.i64.wrap ((i : Int) * slope)) + (nx t q 7 - 3)))]) := by rw [smps_append]; rfl
        (repeat' (first | refine r_9b4c86 ?_ | (refine is_f 15 ?_; refine r_23d47f (next_m t q 7 ht htn (by omega)) ?_) | (refine r_9d2174 (fun hb => ?_) (fun hb => ?_) <;> (try (exfalso; omega))) | (refine awp_cond rfl (fun hb => ?_) (fun hb => ?_) <;> (try simp only [Bool.not_eq_true', Bool.not_eq_false', decide_eq_true_eq, decide_eq_false_iff_not] at hb) <;> (try (exfalso; omega)))))
        all_goals exact ⟨(i + 1, v, adv t q, acc ++ [(ts.getD i 0, IntKind.i64.wrap (IntKind.i64.wrap (v + IntKind.i64.wrap ((i : Int) * slope)) + (nx t q 7 - 3)))]), ⟨by show i + 1 ≤ ts.length; omega, hx2, by show (acc ++ [(ts.getD i 0, IntKind.i64.wrap (IntKind.i64.wrap (v + IntKind.i64.wrap ((i : Int) * slope)) + (nx t q 7 - 3)))]).length = i + 1; rw [List.length_append, hx3]; rfl⟩, by show Le _ _ (smS t kind slope ts (i + 1) (v) (adv t q) (acc ++ [(ts.getD i 0, IntKind.i64.wrap (IntKind.i64.wrap (v + IntKind.i64.wrap ((i : Int) * slope)) + (nx t q 7 - 3)))])); (refine Le.mk [(0,0),(1,3)] [] rfl q_4bd83 q_5650d q_509a2), by show ts.length - (i + 1) < ts.length - i; omega⟩
      · by_cases k3 : kind = 3
        · have h9 := nx_range t q (show (1 : Int) ≤ 9 by omega)
          have hD : smX t kind slope i v q = (IntKind.i64.wrap (v + (nx t q 9 - 4)), v, adv t q) := by unfold smX; (repeat' split) <;> first | rfl | (exfalso; omega)
          rw [hD] at hx2
          dsimp only at hx2
          have hE : smps acc ++ [[.v (.int .i64 (ts.getD i 0)), .v (.int .i64 (IntKind.i64.wrap (v + (nx t q 9 - 4))))]] = smps (acc ++ [(ts.getD i 0, IntKind.i64.wrap (v + (nx t q 9 - 4)))]) := by rw [smps_append]; rfl
          (repeat' (first | refine r_9b4c86 ?_ | (refine is_f 15 ?_; refine r_23d47f (next_m t q 9 ht htn (by omega)) ?_) | (refine r_9d2174 (fun hb => ?_) (fun hb => ?_) <;> (try (exfalso; omega))) | (refine awp_cond rfl (fun hb => ?_) (fun hb => ?_) <;> (try simp only [Bool.not_eq_true', Bool.not_eq_false', decide_eq_true_eq, decide_eq_false_iff_not] at hb) <;> (try (exfalso; omega)))))
          all_goals exact ⟨(i + 1, v, adv t q, acc ++ [(ts.getD i 0, IntKind.i64.wrap (v + (nx t q 9 - 4)))]), ⟨by show i + 1 ≤ ts.length; omega, hx2, by show (acc ++ [(ts.getD i 0, IntKind.i64.wrap (v + (nx t q 9 - 4)))]).length = i + 1; rw [List.length_append, hx3]; rfl⟩, by show Le _ _ (smS t kind slope ts (i + 1) (v) (adv t q) (acc ++ [(ts.getD i 0, IntKind.i64.wrap (v + (nx t q 9 - 4)))])); (refine Le.mk [(0,0),(1,3)] [] rfl q_4bd83 q_5650d q_509a2), by show ts.length - (i + 1) < ts.length - i; omega⟩
        · by_cases k4 : kind = 4
          · have hD : smX t kind slope i v q = ((itv t q).1, v, (itv t q).2) := by unfold smX; (repeat' split) <;> first | rfl | (exfalso; omega)
            rw [hD] at hx2
            dsimp only at hx2
            have hE : smps acc ++ [[.v (.int .i64 (ts.getD i 0)), .v (.int .i64 ((itv t q).1))]] = smps (acc ++ [(ts.getD i 0, (itv t q).1)]) := by rw [smps_append]; rfl
            (repeat' (first | refine r_9b4c86 ?_ | (refine is_f 16 ?_; refine r_23d47f (int_m t q ht htn) ?_) | (refine r_9d2174 (fun hb => ?_) (fun hb => ?_) <;> (try (exfalso; omega))) | (refine awp_cond rfl (fun hb => ?_) (fun hb => ?_) <;> (try simp only [Bool.not_eq_true', Bool.not_eq_false', decide_eq_true_eq, decide_eq_false_iff_not] at hb) <;> (try (exfalso; omega)))))
            all_goals exact ⟨(i + 1, v, (itv t q).2, acc ++ [(ts.getD i 0, (itv t q).1)]), ⟨by show i + 1 ≤ ts.length; omega, hx2, by show (acc ++ [(ts.getD i 0, (itv t q).1)]).length = i + 1; rw [List.length_append, hx3]; rfl⟩, by show Le _ _ (smS t kind slope ts (i + 1) (v) ((itv t q).2) (acc ++ [(ts.getD i 0, (itv t q).1)])); (refine Le.mk [(0,0),(1,3)] [] rfl q_4bd83 q_5650d q_509a2), by show ts.length - (i + 1) < ts.length - i; omega⟩
          · by_cases k5 : kind = 5
            · by_cases k5b : nx t q (5 : Nat) = 1
              · have h400 := nx_range t (adv t q) (show (1 : Int) ≤ 400 by omega)
                have h3 := nx_range t (adv t (adv t q)) (show (1 : Int) ≤ 3 by omega)
                have hD : smX t kind slope i v q = (IntKind.i64.wrap (IntKind.i64.wrap (v + (nx t (adv t q) 400 - 200)) + nx t (adv t (adv t q)) 3), IntKind.i64.wrap (v + (nx t (adv t q) 400 - 200)), adv t (adv t (adv t q))) := by unfold smX; (repeat' split) <;> first | rfl | (exfalso; omega)
                rw [hD] at hx2
                dsimp only at hx2
                have hE : smps acc ++ [[.v (.int .i64 (ts.getD i 0)), .v (.int .i64 (IntKind.i64.wrap (IntKind.i64.wrap (v + (nx t (adv t q) 400 - 200)) + nx t (adv t (adv t q)) 3)))]] = smps (acc ++ [(ts.getD i 0, IntKind.i64.wrap (IntKind.i64.wrap (v + (nx t (adv t q) 400 - 200)) + nx t (adv t (adv t q)) 3))]) := by rw [smps_append]; rfl
                (repeat' (first | refine r_9b4c86 ?_ | (refine is_f 17 ?_; refine r_23d47f (boolN_m t q 5 (by omega) (by omega) ht htn) ?_) | (refine is_f 15 ?_; refine r_23d47f (next_m t (adv t q) 400 ht htn (by omega)) ?_) | (refine is_f 15 ?_; refine r_23d47f (next_m t (adv t (adv t q)) 3 ht htn (by omega)) ?_) | (refine r_9d2174 (fun hb => ?_) (fun hb => ?_) <;> (try (exfalso; omega))) | (refine awp_cond rfl (fun hb => ?_) (fun hb => ?_) <;> (try simp only [Bool.not_eq_true', Bool.not_eq_false', decide_eq_true_eq, decide_eq_false_iff_not] at hb) <;> (try (exfalso; omega)))))
                all_goals exact ⟨(i + 1, IntKind.i64.wrap (v + (nx t (adv t q) 400 - 200)), adv t (adv t (adv t q)), acc ++ [(ts.getD i 0, IntKind.i64.wrap (IntKind.i64.wrap (v + (nx t (adv t q) 400 - 200)) + nx t (adv t (adv t q)) 3))]), ⟨by show i + 1 ≤ ts.length; omega, hx2, by show (acc ++ [(ts.getD i 0, IntKind.i64.wrap (IntKind.i64.wrap (v + (nx t (adv t q) 400 - 200)) + nx t (adv t (adv t q)) 3))]).length = i + 1; rw [List.length_append, hx3]; rfl⟩, by show Le _ _ (smS t kind slope ts (i + 1) (IntKind.i64.wrap (v + (nx t (adv t q) 400 - 200))) (adv t (adv t (adv t q))) (acc ++ [(ts.getD i 0, IntKind.i64.wrap (IntKind.i64.wrap (v + (nx t (adv t q) 400 - 200)) + nx t (adv t (adv t q)) 3))])); (refine Le.mk [(0,0),(1,3)] [] rfl q_4bd83 q_5650d q_509a2), by show ts.length - (i + 1) < ts.length - i; omega⟩
              · have h3 := nx_range t (adv t q) (show (1 : Int) ≤ 3 by omega)
                have hD : smX t kind slope i v q = (IntKind.i64.wrap (v + nx t (adv t q) 3), v, adv t (adv t q)) := by unfold smX; (repeat' split) <;> first | rfl | (exfalso; omega)
                rw [hD] at hx2
                dsimp only at hx2
                have hE : smps acc ++ [[.v (.int .i64 (ts.getD i 0)), .v (.int .i64 (IntKind.i64.wrap (v + nx t (adv t q) 3)))]] = smps (acc ++ [(ts.getD i 0, IntKind.i64.wrap (v + nx t (adv t q) 3))]) := by rw [smps_append]; rfl
                (repeat' (first | refine r_9b4c86 ?_ | (refine is_f 17 ?_; refine r_23d47f (boolN_m t q 5 (by omega) (by omega) ht htn) ?_) | (refine is_f 15 ?_; refine r_23d47f (next_m t (adv t q) 3 ht htn (by omega)) ?_) | (refine r_9d2174 (fun hb => ?_) (fun hb => ?_) <;> (try (exfalso; omega))) | (refine awp_cond rfl (fun hb => ?_) (fun hb => ?_) <;> (try simp only [Bool.not_eq_true', Bool.not_eq_false', decide_eq_true_eq, decide_eq_false_iff_not] at hb) <;> (try (exfalso; omega)))))
                all_goals exact ⟨(i + 1, v, adv t (adv t q), acc ++ [(ts.getD i 0, IntKind.i64.wrap (v + nx t (adv t q) 3))]), ⟨by show i + 1 ≤ ts.length; omega, hx2, by show (acc ++ [(ts.getD i 0, IntKind.i64.wrap (v + nx t (adv t q) 3))]).length = i + 1; rw [List.length_append, hx3]; rfl⟩, by show Le _ _ (smS t kind slope ts (i + 1) (v) (adv t (adv t q)) (acc ++ [(ts.getD i 0, IntKind.i64.wrap (v + nx t (adv t q) 3))])); (refine Le.mk [(0,0),(1,3)] [] rfl q_4bd83 q_5650d q_509a2), by show ts.length - (i + 1) < ts.length - i; omega⟩
            · by_cases k6 : kind = 6
              · have h50 := nx_range t q (show (1 : Int) ≤ 50 by omega)
                have h51 := nx_range t (adv t q) (show (1 : Int) ≤ 50 by omega)
                have hD : smX t kind slope i v q = (IntKind.i64.wrap (IntKind.i64.wrap (nx t q 50 * nx t (adv t q) 50) * slope), v, adv t (adv t q)) := by unfold smX; (repeat' split) <;> first | rfl | (exfalso; omega)
                rw [hD] at hx2
                dsimp only at hx2
                have hE : smps acc ++ [[.v (.int .i64 (ts.getD i 0)), .v (.int .i64 (IntKind.i64.wrap (IntKind.i64.wrap (nx t q 50 * nx t (adv t q) 50) * slope)))]] = smps (acc ++ [(ts.getD i 0, IntKind.i64.wrap (IntKind.i64.wrap (nx t q 50 * nx t (adv t q) 50) * slope))]) := by rw [smps_append]; rfl
                (repeat' (first | refine r_9b4c86 ?_ | (refine is_f 15 ?_; refine r_23d47f (next_m t q 50 ht htn (by omega)) ?_) | (refine is_f 15 ?_; refine r_23d47f (next_m t (adv t q) 50 ht htn (by omega)) ?_) | (refine r_9d2174 (fun hb => ?_) (fun hb => ?_) <;> (try (exfalso; omega))) | (refine awp_cond rfl (fun hb => ?_) (fun hb => ?_) <;> (try simp only [Bool.not_eq_true', Bool.not_eq_false', decide_eq_true_eq, decide_eq_false_iff_not] at hb) <;> (try (exfalso; omega)))))
                all_goals exact ⟨(i + 1, v, adv t (adv t q), acc ++ [(ts.getD i 0, IntKind.i64.wrap (IntKind.i64.wrap (nx t q 50 * nx t (adv t q) 50) * slope))]), ⟨by show i + 1 ≤ ts.length; omega, hx2, by show (acc ++ [(ts.getD i 0, IntKind.i64.wrap (IntKind.i64.wrap (nx t q 50 * nx t (adv t q) 50) * slope))]).length = i + 1; rw [List.length_append, hx3]; rfl⟩, by show Le _ _ (smS t kind slope ts (i + 1) (v) (adv t (adv t q)) (acc ++ [(ts.getD i 0, IntKind.i64.wrap (IntKind.i64.wrap (nx t q 50 * nx t (adv t q) 50) * slope))])); (refine Le.mk [(0,0),(1,3)] [] rfl q_4bd83 q_5650d q_509a2), by show ts.length - (i + 1) < ts.length - i; omega⟩
              · have hD : smX t kind slope i v q = (v, v, q) := by unfold smX; (repeat' split) <;> first | rfl | (exfalso; omega)
                rw [hD] at hx2
                dsimp only at hx2
                have hE : smps acc ++ [[.v (.int .i64 (ts.getD i 0)), .v (.int .i64 (v))]] = smps (acc ++ [(ts.getD i 0, v)]) := by rw [smps_append]; rfl
                (repeat' (first | refine r_9b4c86 ?_ | (refine r_9d2174 (fun hb => ?_) (fun hb => ?_) <;> (try (exfalso; omega))) | (refine awp_cond rfl (fun hb => ?_) (fun hb => ?_) <;> (try simp only [Bool.not_eq_true', Bool.not_eq_false', decide_eq_true_eq, decide_eq_false_iff_not] at hb) <;> (try (exfalso; omega)))))
                all_goals exact ⟨(i + 1, v, q, acc ++ [(ts.getD i 0, v)]), ⟨by show i + 1 ≤ ts.length; omega, hx2, by show (acc ++ [(ts.getD i 0, v)]).length = i + 1; rw [List.length_append, hx3]; rfl⟩, by show Le _ _ (smS t kind slope ts (i + 1) (v) (q) (acc ++ [(ts.getD i 0, v)])); (refine Le.mk [(0,0),(1,3)] [] rfl q_4bd83 q_5650d q_509a2), by show ts.length - (i + 1) < ts.length - i; omega⟩
  · have hz : ts.length - i = 0 := by omega
    rw [hz, sms] at hx2
    subst hx2
    (repeat' (first | refine r_9b4c86 ?_ | (refine r_9d2174 (fun hb => ?_) (fun hb => ?_) <;> (try (exfalso; omega))) | (refine awp_cond rfl (fun hb => ?_) (fun hb => ?_) <;> (try simp only [Bool.not_eq_true', Bool.not_eq_false', decide_eq_true_eq, decide_eq_false_iff_not] at hb) <;> (try (exfalso; omega)))))
    all_goals exact ret1P [] (.fr 1 _ _ _ rfl) rfl rfl (post_one rfl rfl) rfl
end Go.Proofs.YtbndknhljkpijaaDoor
