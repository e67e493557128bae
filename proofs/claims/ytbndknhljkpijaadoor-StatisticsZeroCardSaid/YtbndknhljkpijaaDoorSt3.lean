/- Chapter 33: Compare where it refuses; shaken. Conditions: lengths, ranges. --ext6 -/
import Derived.Test.YtbndknhljkpijaaDoorSt2
import Derived.Test.YtbndknhljkpijaaDoorTq6
namespace Go.Proofs.YtbndknhljkpijaaDoor
open Go.RowKit Go.Ab Go.Wd
set_option maxRecDepth 100000
set_option linter.unusedVariables false
set_option linter.unusedSimpArgs false

theorem compare33_no (a b : List (Int × Int)) (ha : a.length ≤ 100000) (hb0 : b.length ≤ 100000) (he : chkE a b ≠ 0) : Meets Tryd.prog 7 [.r (.sl 2 (smps a)), .r (.sl 2 (smps b))] [] (.tu [smA 0 0 0 0, .r (.v (.int .i64 (chkE a b)))]) [] := by
  have cC := check33_m a b (by omega) (by omega)
  generalize chkE a b = e at *
  refine fn_of Tryd.func7 rfl (Nat.le_of_ble_eq_true rfl) rfl rfl ?_
  (repeat' (first | (first | refine awp_halt 4 ?_ | refine awp_haltR 4 ?_) | refine r_ceea32 ?_ | refine r_d3423f ?_ | (refine is_f 18 ?_; refine r_bb2b31 (cC) ?_) | (refine r_48b933 (fun hb => ?_) (fun hb => ?_) <;> (try (exfalso; omega))) | (refine awp_cond rfl (fun hb => ?_) (fun hb => ?_) <;> (try simp only [Bool.not_eq_true', Bool.not_eq_false', decide_eq_true_eq, decide_eq_false_iff_not] at hb) <;> (try (exfalso; omega)))))
  all_goals (first | exact ret2c [] (Rt.sm 0 0 0 0) (.int rfl) rfl rfl rfl rfl rfl (post_none rfl) rfl | (exfalso; omega))
theorem smps_set33 (L : List (Int × Int)) (i : Nat) (s : Int × Int) : smps (L.set i s) = (smps L).set i [.v (.int .i64 s.1), .v (.int .i64 s.2)] := by unfold smps; rw [List.map_set]
/-- One value shaken: by a little. -/
def sk1 (t : List Int) (q i : Nat) (L : List (Int × Int)) : List (Int × Int) := L.set i ((L.getD i (0, 0)).1, IntKind.i64.wrap ((L.getD i (0, 0)).2 + (nx t q 9 - 4)))
def sk2 (t : List Int) (q i : Nat) (L : List (Int × Int)) : List (Int × Int) := L.set i ((L.getD i (0, 0)).1, (itv t q).1)
def skG (t : List Int) : Nat → Nat → Nat → List (Int × Int) → List (Int × Int) × Nat
  | 0, i, q, L => (L, q)
  | j + 1, i, q, L => if nx t (adv t q) (6 : Nat) = 1 then skG t j (i + 1) (itv t (adv t (adv t q))).2 (sk2 t (adv t (adv t q)) i (sk1 t q i L)) else skG t j (i + 1) (adv t (adv t q)) (sk1 t q i L)
def skT (t : List Int) (q : Nat) (L : List (Int × Int)) : List (Int × Int) × Nat :=
  if nx t q (5 : Nat) = 1 then (L.set (nx t (adv t q) L.length).toNat (IntKind.i64.wrap ((L.getD (nx t (adv t q) L.length).toNat (0, 0)).1 + 1), (L.getD (nx t (adv t q) L.length).toNat (0, 0)).2), adv t (adv t q)) else (L, adv t q)
/-- Samples shaken. -/
def shk33 (t : List Int) (k : Nat) (l : List (Int × Int)) : List (Int × Int) × Nat :=
  if (skG t l.length 0 k l).1.length = 0 then skG t l.length 0 k l
  else if nx t (skT t (skG t l.length 0 k l).2 (skG t l.length 0 k l).1).2 (5 : Nat) = 1 then ((skT t (skG t l.length 0 k l).2 (skG t l.length 0 k l).1).1.drop 1, adv t (skT t (skG t l.length 0 k l).2 (skG t l.length 0 k l).1).2)
  else ((skT t (skG t l.length 0 k l).2 (skG t l.length 0 k l).1).1, adv t (skT t (skG t l.length 0 k l).2 (skG t l.length 0 k l).1).2)
def skS (t : List Int) (i q : Nat) (L : List (Int × Int)) : St :=
  ⟨[(0, .pt 0 0), (5, .ow 1), (6, .r (.v (.int .i64 (i : Int))))], [(0, some (tb t q)), (1, some (.row 53 2 (smps L)))], 2⟩
def skZ (t : List Int) (q : Nat) (L : List (Int × Int)) : St :=
  ⟨[(0, .pt 0 0), (5, .r (.sl 2 (smps L)))], [(0, some (tb t q))], 1⟩
set_option maxHeartbeats 4000000 in
theorem shaken33_m (t : List Int) (k : Nat) (l : List (Int × Int)) (ht : Ints t) (htn : t.length ≤ 140737488351232) (hl : l.length ≤ 1000) : Meets Tryd.prog 6 [.pt 0 0, .r (.sl 2 (smps l))] [tb t k] (.r (.sl 2 (smps (shk33 t k l).1))) [some (tb t (shk33 t k l).2)] := by
  refine fn_of Tryd.func6 rfl (Nat.le_of_ble_eq_true rfl) rfl rfl ?_
  have hbl := smps_len l
  have h00 : [] ++ smps l = smps l := rfl
  (repeat' (first | refine r_4eabd4 ?_ | (refine r_48b933 (fun hb => ?_) (fun hb => ?_) <;> (try (exfalso; omega))) | (refine awp_cond rfl (fun hb => ?_) (fun hb => ?_) <;> (try simp only [Bool.not_eq_true', Bool.not_eq_false', decide_eq_true_eq, decide_eq_false_iff_not] at hb) <;> (try (exfalso; omega)))))
  have hR : shk33 t k l = shk33 t k l := rfl
  generalize hRR : shk33 t k l = R at hR ⊢
  unfold shk33 at hRR
  refine awp_loop' (fun x : Nat × Nat × List (Int × Int) => skS t x.1 x.2.1 x.2.2) (fun x => x.1 ≤ l.length ∧ x.2.2.length = l.length ∧ skG t (l.length - x.1) x.1 x.2.1 x.2.2 = skG t l.length 0 k l) (fun x => l.length - x.1) (0, k, l) ⟨Nat.zero_le _, rfl, rfl⟩ (by (refine Le.mk [(0,0),(1,2)] [] q_5ec36 q_43730 q_16bb5 q_509a2)) fun x hx => ?_
  obtain ⟨i, q, L⟩ := x
  obtain ⟨hx1, hx2, hx3⟩ := hx
  dsimp only at hx1 hx2 hx3
  change awp _ _ _ _ _ (skS t i q L)
  have hLl : (smps L).length = L.length := smps_len L
  rcases Nat.lt_or_ge i l.length with hi | hi
  · have h9 := nx_range t q (show (1 : Int) ≤ 9 by omega)
    obtain ⟨j, hj⟩ : ∃ j, l.length - i = j + 1 := ⟨l.length - i - 1, by omega⟩
    have hj2 : j = l.length - (i + 1) := by omega
    rw [hj, skG] at hx3
    subst hj2
    have hn := nat_incI i (by omega)
    have hE : (smps L).set i (setA [.v (.int .i64 (L.getD i (0, 0)).1), .v (.int .i64 (L.getD i (0, 0)).2)] 1 [.v (.int .i64 (IntKind.i64.wrap ((L.getD i (0, 0)).2 + (nx t q 9 - 4))))]) = smps (sk1 t q i L) := by unfold sk1; rw [smps_set33]; rfl
    have hL1 : (sk1 t q i L).length = L.length := by unfold sk1; rw [List.length_set]
    (repeat' (first | (first | refine awp_halt 6 ?_ | refine awp_haltR 6 ?_) | refine r_ceea32 ?_ | refine r_d3423f ?_ | (refine is_f 15 ?_; refine r_181b4d (next_m t q 9 ht htn (by omega)) ?_) | (refine r_48b933 (fun hb => ?_) (fun hb => ?_) <;> (try (exfalso; omega))) | (refine awp_cond rfl (fun hb => ?_) (fun hb => ?_) <;> (try simp only [Bool.not_eq_true', Bool.not_eq_false', decide_eq_true_eq, decide_eq_false_iff_not] at hb) <;> (try (exfalso; omega)))))
    all_goals (first | (exfalso; omega) | skip)
    refine halt ?_
    refine awp_le (T := skS t i (adv t q) (sk1 t q i L)) (by (refine Le.mk [(0,0)] [] q_5ec36 q_43730 q_16bb5 q_509a2)) ?_
    have cI := int_m t (adv t (adv t q)) ht htn
    generalize sk1 t q i L = L1 at *
    have hLl1 : (smps L1).length = L1.length := smps_len L1
    have hE2 : (smps L1).set i (setA [.v (.int .i64 (L1.getD i (0, 0)).1), .v (.int .i64 (L1.getD i (0, 0)).2)] 1 [.v (.int .i64 (itv t (adv t (adv t q))).1)]) = smps (sk2 t (adv t (adv t q)) i L1) := by unfold sk2; rw [smps_set33]; rfl
    have hL2 : (sk2 t (adv t (adv t q)) i L1).length = L1.length := by unfold sk2; rw [List.length_set]
    by_cases h6 : nx t (adv t q) (6 : Nat) = 1
    · rw [if_pos h6] at hx3
      (repeat' (first | refine r_4eabd4 ?_ | (refine is_f 17 ?_; refine r_181b4d (boolN_m t (adv t q) 6 (by omega) (by omega) ht htn) ?_) | (refine is_f 16 ?_; refine r_181b4d (cI) ?_) | (refine r_48b933 (fun hb => ?_) (fun hb => ?_) <;> (try (exfalso; omega))) | (refine awp_cond rfl (fun hb => ?_) (fun hb => ?_) <;> (try simp only [Bool.not_eq_true', Bool.not_eq_false', decide_eq_true_eq, decide_eq_false_iff_not] at hb) <;> (try (exfalso; omega)))))
      all_goals (first | exact absurd h6 (by assumption) | exact ⟨(i + 1, (itv t (adv t (adv t q))).2, sk2 t (adv t (adv t q)) i L1), ⟨hi, by show (sk2 t (adv t (adv t q)) i L1).length = _; rw [hL2, hL1]; exact hx2, hx3⟩, by show Le _ _ (skS t (i + 1) (itv t (adv t (adv t q))).2 (sk2 t (adv t (adv t q)) i L1)); (refine Le.mk [] [] q_5ec36 q_43730 q_16bb5 q_509a2), by show l.length - (i + 1) < l.length - i; omega⟩)
    · rw [if_neg h6] at hx3
      (repeat' (first | refine r_4eabd4 ?_ | (refine is_f 17 ?_; refine r_181b4d (boolN_m t (adv t q) 6 (by omega) (by omega) ht htn) ?_) | (refine is_f 16 ?_; refine r_181b4d (cI) ?_) | (refine r_48b933 (fun hb => ?_) (fun hb => ?_) <;> (try (exfalso; omega))) | (refine awp_cond rfl (fun hb => ?_) (fun hb => ?_) <;> (try simp only [Bool.not_eq_true', Bool.not_eq_false', decide_eq_true_eq, decide_eq_false_iff_not] at hb) <;> (try (exfalso; omega)))))
      all_goals (first | exact absurd (by assumption) h6 | exact ⟨(i + 1, adv t (adv t q), L1), ⟨hi, by show L1.length = _; rw [hL1]; exact hx2, hx3⟩, by show Le _ _ (skS t (i + 1) (adv t (adv t q)) L1); (refine Le.mk [] [] q_5ec36 q_43730 q_16bb5 q_509a2), by show l.length - (i + 1) < l.length - i; omega⟩)
  · have hz : l.length - i = 0 := by omega
    rw [hz, skG] at hx3
    rw [← hx3] at hRR
    dsimp only at hRR
    by_cases h0 : L.length = 0
    · rw [if_pos h0] at hRR
      subst hRR
      (repeat' (first | (first | refine awp_halt 10 ?_ | refine awp_haltR 10 ?_) | refine r_ceea32 ?_ | refine r_d3423f ?_ | (refine r_48b933 (fun hb => ?_) (fun hb => ?_) <;> (try (exfalso; omega))) | (refine awp_cond rfl (fun hb => ?_) (fun hb => ?_) <;> (try simp only [Bool.not_eq_true', Bool.not_eq_false', decide_eq_true_eq, decide_eq_false_iff_not] at hb) <;> (try (exfalso; omega)))))
      all_goals (first | (exfalso; omega) | skip)
      refine halt ?_
      refine awp_le (T := skZ t q L) (by (refine Le.mk [(0,0)] [1] q_5ec36 q_43730 q_16bb5 q_509a2)) ?_
      (repeat' (first | refine r_4eabd4 ?_ | (refine r_48b933 (fun hb => ?_) (fun hb => ?_) <;> (try (exfalso; omega))) | (refine awp_cond rfl (fun hb => ?_) (fun hb => ?_) <;> (try simp only [Bool.not_eq_true', Bool.not_eq_false', decide_eq_true_eq, decide_eq_false_iff_not] at hb) <;> (try (exfalso; omega)))))
      all_goals (first | (exfalso; omega) | exact ret1P [] (.r _) rfl rfl (post_one rfl rfl) rfl)
    · rw [if_neg h0] at hRR
      have cut : ∀ (L2 : List (Int × Int)) (q2 : Nat), L2.length = L.length → skT t q L = (L2, q2) → True := fun _ _ _ _ => trivial
      have hnl := nx_range t (adv t q) (show (1 : Int) ≤ (L.length : Int) by omega)
      have hdr : ∀ M : List (Int × Int), (smps M).drop 1 = smps (M.drop 1) := fun M => by unfold smps; rw [List.map_drop]
      by_cases h5 : nx t q (5 : Nat) = 1
      · have hT : skT t q L = (L.set (nx t (adv t q) L.length).toNat (IntKind.i64.wrap ((L.getD (nx t (adv t q) L.length).toNat (0, 0)).1 + 1), (L.getD (nx t (adv t q) L.length).toNat (0, 0)).2), adv t (adv t q)) := by unfold skT; rw [if_pos h5]
        rw [hT] at hRR
        dsimp only at hRR
        have hE : (smps L).set (nx t (adv t q) L.length).toNat (setA [.v (.int .i64 (L.getD (nx t (adv t q) L.length).toNat (0, 0)).1), .v (.int .i64 (L.getD (nx t (adv t q) L.length).toNat (0, 0)).2)] 0 [.v (.int .i64 (IntKind.i64.wrap ((L.getD (nx t (adv t q) L.length).toNat (0, 0)).1 + 1)))]) = smps (L.set (nx t (adv t q) L.length).toNat (IntKind.i64.wrap ((L.getD (nx t (adv t q) L.length).toNat (0, 0)).1 + 1), (L.getD (nx t (adv t q) L.length).toNat (0, 0)).2)) := by rw [smps_set33]; rfl
        have hLM : (L.set (nx t (adv t q) L.length).toNat (IntKind.i64.wrap ((L.getD (nx t (adv t q) L.length).toNat (0, 0)).1 + 1), (L.getD (nx t (adv t q) L.length).toNat (0, 0)).2)).length = L.length := by rw [List.length_set]
        (repeat' (first | (first | refine awp_halt 10 ?_ | refine awp_haltR 10 ?_) | refine r_ceea32 ?_ | refine r_d3423f ?_ | (refine is_f 17 ?_; refine r_181b4d (boolN_m t q 5 (by omega) (by omega) ht htn) ?_) | (refine is_f 15 ?_; refine r_181b4d (next_m t (adv t q) L.length ht htn (by omega)) ?_) | (refine r_48b933 (fun hb => ?_) (fun hb => ?_) <;> (try (exfalso; omega))) | (refine awp_cond rfl (fun hb => ?_) (fun hb => ?_) <;> (try simp only [Bool.not_eq_true', Bool.not_eq_false', decide_eq_true_eq, decide_eq_false_iff_not] at hb) <;> (try (exfalso; omega)))))
        all_goals (first | exact absurd h5 (by assumption) | (exfalso; omega) | skip)
        refine halt ?_
        refine awp_le (T := skS t i (adv t (adv t q)) (L.set (nx t (adv t q) L.length).toNat (IntKind.i64.wrap ((L.getD (nx t (adv t q) L.length).toNat (0, 0)).1 + 1), (L.getD (nx t (adv t q) L.length).toNat (0, 0)).2))) (by (refine Le.mk [(0,0)] [] q_5ec36 q_43730 q_16bb5 q_509a2)) ?_
        refine awp_le (T := skZ t (adv t (adv t q)) (L.set (nx t (adv t q) L.length).toNat (IntKind.i64.wrap ((L.getD (nx t (adv t q) L.length).toNat (0, 0)).1 + 1), (L.getD (nx t (adv t q) L.length).toNat (0, 0)).2))) (by (refine Le.mk [(0,0)] [1] q_5ec36 q_43730 q_16bb5 q_509a2)) ?_
        clear hE hT
        generalize L.set (nx t (adv t q) L.length).toNat (IntKind.i64.wrap ((L.getD (nx t (adv t q) L.length).toNat (0, 0)).1 + 1), (L.getD (nx t (adv t q) L.length).toNat (0, 0)).2) = M at *
        generalize adv t (adv t q) = q2 at *
        have hlM := smps_len M
        by_cases h6 : nx t q2 (5 : Nat) = 1
        · rw [if_pos h6] at hRR
          subst hRR
          have hd := hdr M
          dsimp only
          rw [← hd]
          (repeat' (first | refine r_4eabd4 ?_ | (refine is_f 17 ?_; refine r_181b4d (boolN_m t q2 5 (by omega) (by omega) ht htn) ?_) | (refine r_48b933 (fun hb => ?_) (fun hb => ?_) <;> (try (exfalso; omega))) | (refine awp_cond rfl (fun hb => ?_) (fun hb => ?_) <;> (try simp only [Bool.not_eq_true', Bool.not_eq_false', decide_eq_true_eq, decide_eq_false_iff_not] at hb) <;> (try (exfalso; omega)))))
          all_goals (first | exact absurd h6 (by assumption) | (exfalso; omega) | exact ret1P [] (.r _) rfl rfl (post_one rfl rfl) rfl)
        · rw [if_neg h6] at hRR
          subst hRR
          (repeat' (first | refine r_4eabd4 ?_ | (refine is_f 17 ?_; refine r_181b4d (boolN_m t q2 5 (by omega) (by omega) ht htn) ?_) | (refine r_48b933 (fun hb => ?_) (fun hb => ?_) <;> (try (exfalso; omega))) | (refine awp_cond rfl (fun hb => ?_) (fun hb => ?_) <;> (try simp only [Bool.not_eq_true', Bool.not_eq_false', decide_eq_true_eq, decide_eq_false_iff_not] at hb) <;> (try (exfalso; omega)))))
          all_goals (first | exact absurd (by assumption) h6 | (exfalso; omega) | exact ret1P [] (.r _) rfl rfl (post_one rfl rfl) rfl)
      · have hT : skT t q L = (L, adv t q) := by unfold skT; rw [if_neg h5]
        rw [hT] at hRR
        dsimp only at hRR
        (repeat' (first | (first | refine awp_halt 10 ?_ | refine awp_haltR 10 ?_) | refine r_ceea32 ?_ | refine r_d3423f ?_ | (refine is_f 17 ?_; refine r_181b4d (boolN_m t q 5 (by omega) (by omega) ht htn) ?_) | (refine r_48b933 (fun hb => ?_) (fun hb => ?_) <;> (try (exfalso; omega))) | (refine awp_cond rfl (fun hb => ?_) (fun hb => ?_) <;> (try simp only [Bool.not_eq_true', Bool.not_eq_false', decide_eq_true_eq, decide_eq_false_iff_not] at hb) <;> (try (exfalso; omega)))))
        all_goals (first | exact absurd (by assumption) h5 | (exfalso; omega) | skip)
        refine halt ?_
        refine awp_le (T := skZ t (adv t q) L) (by (refine Le.mk [(0,0)] [1] q_5ec36 q_43730 q_16bb5 q_509a2)) ?_
        clear hT
        generalize adv t q = q2 at *
        by_cases h6 : nx t q2 (5 : Nat) = 1
        · rw [if_pos h6] at hRR
          subst hRR
          have hd := hdr L
          dsimp only
          rw [← hd]
          (repeat' (first | refine r_4eabd4 ?_ | (refine is_f 17 ?_; refine r_181b4d (boolN_m t q2 5 (by omega) (by omega) ht htn) ?_) | (refine r_48b933 (fun hb => ?_) (fun hb => ?_) <;> (try (exfalso; omega))) | (refine awp_cond rfl (fun hb => ?_) (fun hb => ?_) <;> (try simp only [Bool.not_eq_true', Bool.not_eq_false', decide_eq_true_eq, decide_eq_false_iff_not] at hb) <;> (try (exfalso; omega)))))
          all_goals (first | exact absurd h6 (by assumption) | (exfalso; omega) | exact ret1P [] (.r _) rfl rfl (post_one rfl rfl) rfl)
        · rw [if_neg h6] at hRR
          subst hRR
          (repeat' (first | refine r_4eabd4 ?_ | (refine is_f 17 ?_; refine r_181b4d (boolN_m t q2 5 (by omega) (by omega) ht htn) ?_) | (refine r_48b933 (fun hb => ?_) (fun hb => ?_) <;> (try (exfalso; omega))) | (refine awp_cond rfl (fun hb => ?_) (fun hb => ?_) <;> (try simp only [Bool.not_eq_true', Bool.not_eq_false', decide_eq_true_eq, decide_eq_false_iff_not] at hb) <;> (try (exfalso; omega)))))
          all_goals (first | exact absurd (by assumption) h6 | (exfalso; omega) | exact ret1P [] (.r _) rfl rfl (post_one rfl rfl) rfl)
end Go.Proofs.YtbndknhljkpijaaDoor
