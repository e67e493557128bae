/- What the tape hands out: Bool, Word, Int, Tolerance, Config. Conditions: a list of at most 2^47 numbers. -/
import Derived.Test.YtbndknhljkpijaaDoorTq1
import Derived.Test.YtbndknhljkpijaaDoorGB
namespace Go.Proofs.YtbndknhljkpijaaDoor
open Go.RowKit Go.Ab
set_option maxRecDepth 100000
set_option linter.unusedVariables false
set_option linter.unusedSimpArgs false

theorem post_one {S : St} {b : Blk} (h : getH S.H 0 = some b) (hi : b.ids = []) : ∀ i c, (i, some c) ∈ numdP 0 [some b] → getH S.H i = some c ∧ c.ids = [] := by
  intro i c hc
  simp only [numdP, List.mem_cons, List.not_mem_nil, or_false, Prod.mk.injEq, Option.some.injEq] at hc
  obtain ⟨rfl, rfl⟩ := hc
  exact ⟨h, hi⟩
theorem bool_m (l : List Int) (k : Nat) (hl : Ints l) (hn : l.length ≤ 140737488351232) : Meets Tryd.prog 17 [.pt 0 0, .r (.v (.int .i64 4))] [tb l k] (.r (.v (.bool (decide (nx l k 4 = 1))))) [some (tb l (adv l k))] := by
  refine fn_of Tryd.func17 rfl (Nat.le_of_ble_eq_true rfl) rfl rfl ?_
  (repeat' (first | refine r_13f87e ?_ | (refine is_f 15 ?_; refine r_d3ed50 (next_m l k 4 hl hn (by omega)) ?_) | (refine r_250774 (fun hb => ?_) (fun hb => ?_) <;> (try (exfalso; omega))) | (refine awp_cond rfl (fun hb => ?_) (fun hb => ?_) <;> (try simp only [Bool.not_eq_true', Bool.not_eq_false', decide_eq_true_eq, decide_eq_false_iff_not] at hb) <;> (try (exfalso; omega)))))
  all_goals exact ret1P [] (.bool (by have e : Int.tmod 1 4 = 1 := by decide
                                      rw [e] at hb; simp [hb])) rfl rfl (post_one rfl rfl) rfl
/-- The word after j rounds, and the numbers taken. -/
def wds (l : List Int) (k : Nat) : Nat → Int × Nat
  | 0 => (0, k)
  | j + 1 => (IntKind.u64.wrap (IntKind.u64.wrap ((wds l k j).1 * 2 ^ min (Int.toNat 16) (IntKind.bits .u64)) + nx l (wds l k j).2 65536), adv l (wds l k j).2)
theorem word_m (l : List Int) (k : Nat) (hl : Ints l) (hn : l.length ≤ 140737488351232) : Meets Tryd.prog 30 [.pt 0 0] [tb l k] (.r (.v (.int .u64 (wds l k 4).1))) [some (tb l (wds l k 4).2)] := by
  refine fn_of Tryd.func30 rfl (Nat.le_of_ble_eq_true rfl) rfl rfl ?_
  (repeat' (first | refine r_13f87e ?_ | (refine r_250774 (fun hb => ?_) (fun hb => ?_) <;> (try (exfalso; omega))) | (refine awp_cond rfl (fun hb => ?_) (fun hb => ?_) <;> (try simp only [Bool.not_eq_true', Bool.not_eq_false', decide_eq_true_eq, decide_eq_false_iff_not] at hb) <;> (try (exfalso; omega)))))
  refine awp_loop' (fun j => ⟨[(0, .pt 0 0), (3, .r (.v (.int .u64 (wds l k j).1))), (4, .r (.v (.int .i64 (j : Int))))], [(0, some (tb l (wds l k j).2))], 1⟩) (fun j => j ≤ 4) (fun j => 4 - j) 0 (Nat.zero_le _) (by (refine Le.mk [] [] rfl ?_ ?_ q_7a7c8 <;> (repeat' (first | (first | exact le_nil | refine le_na ?_ | refine le_r ?_ rfl rfl | refine le_int ?_ (by omega) rfl | refine le_ow ?_ rfl rfl | refine le_pt ?_ rfl rfl | refine le_fz ?_ rfl q_bf1c9 rfl rfl) | exact hl_nil | refine hl_row ?_ rfl rfl | refine hl_full ?_ rfl rfl | refine hl_var ?_ ?_ rfl | refine cfl_r ?_ rfl | refine cfl_int ?_ (by omega) | exact CfL.nil)))) fun j hj => ?_
  have hx := nx_range l (wds l k j).2 (show (1 : Int) ≤ 65536 by omega)
  (repeat' (first | refine r_13f87e ?_ | (refine is_f 15 ?_; refine r_d3ed50 (next_m l (wds l k j).2 65536 hl hn (by omega)) ?_) | (refine r_250774 (fun hb => ?_) (fun hb => ?_) <;> (try (exfalso; omega))) | (refine awp_cond rfl (fun hb => ?_) (fun hb => ?_) <;> (try simp only [Bool.not_eq_true', Bool.not_eq_false', decide_eq_true_eq, decide_eq_false_iff_not] at hb) <;> (try (exfalso; omega)))))
  · exact ⟨j + 1, by omega, by (refine Le.mk [] [] rfl ?_ ?_ q_7a7c8 <;> (repeat' (first | (first | exact le_nil | refine le_na ?_ | refine le_r ?_ rfl rfl | refine le_int ?_ (by omega) rfl | refine le_ow ?_ rfl rfl | refine le_pt ?_ rfl rfl | refine le_fz ?_ rfl q_bf1c9 rfl rfl) | exact hl_nil | refine hl_row ?_ rfl rfl | refine hl_full ?_ rfl rfl | refine hl_var ?_ ?_ rfl | refine cfl_r ?_ rfl | refine cfl_int ?_ (by omega) | exact CfL.nil))), by omega⟩
  · obtain rfl : j = 4 := by omega
    exact ret1P [] (.int rfl) rfl rfl (post_one rfl rfl) rfl
/-- A number, and the numbers taken. -/
def itv (l : List Int) (k : Nat) : Int × Nat :=
  if nx l k 8 = 0 then (IntKind.i64.wrap (wds l (adv l k) 4).1, (wds l (adv l k) 4).2)
  else if nx l k 8 = 1 then (9223372036854775807 - nx l (adv l k) 4, adv l (adv l k))
  else if nx l k 8 = 2 then (-9223372036854775808 + nx l (adv l k) 4, adv l (adv l k))
  else if nx l k 8 = 3 then (IntKind.i64.wrap ((wds l (adv l k) 4).1.fdiv (2 ^ min (nx l (wds l (adv l k) 4).2 64).toNat (IntKind.bits .u64))), adv l (wds l (adv l k) 4).2)
  else (nx l (adv l k) 2000 - 1000, adv l (adv l k))
set_option maxHeartbeats 2000000 in
theorem int_m (l : List Int) (k : Nat) (hl : Ints l) (hn : l.length ≤ 140737488351232) : Meets Tryd.prog 16 [.pt 0 0] [tb l k] (.r (.v (.int .i64 (itv l k).1))) [some (tb l (itv l k).2)] := by
  refine fn_of Tryd.func16 rfl (Nat.le_of_ble_eq_true rfl) rfl rfl ?_
  have h8 := nx_range l k (show (1 : Int) ≤ 8 by omega)
  have h4 := nx_range l (adv l k) (show (1 : Int) ≤ 4 by omega)
  have h2000 := nx_range l (adv l k) (show (1 : Int) ≤ 2000 by omega)
  have h64 := nx_range l (wds l (adv l k) 4).2 (show (1 : Int) ≤ 64 by omega)
  (repeat' (first | refine r_13f87e ?_ | (refine is_f 15 ?_; refine r_d3ed50 (next_m l k 8 hl hn (by omega)) ?_) | (refine is_f 15 ?_; refine r_d3ed50 (next_m l (adv l k) 4 hl hn (by omega)) ?_) | (refine is_f 15 ?_; refine r_d3ed50 (next_m l (adv l k) 2000 hl hn (by omega)) ?_) | (refine is_f 15 ?_; refine r_d3ed50 (next_m l (wds l (adv l k) 4).2 64 hl hn (by omega)) ?_) | (refine is_f 30 ?_; refine r_d3ed50 (word_m l (adv l k) hl hn) ?_) | (refine r_250774 (fun hb => ?_) (fun hb => ?_) <;> (try (exfalso; omega))) | (refine awp_cond rfl (fun hb => ?_) (fun hb => ?_) <;> (try simp only [Bool.not_eq_true', Bool.not_eq_false', decide_eq_true_eq, decide_eq_false_iff_not] at hb) <;> (try (exfalso; omega)))))
  all_goals (unfold itv; (repeat' split) <;> (try (exfalso; omega)) <;> exact ret1P [] (.int rfl) rfl rfl (post_one rfl rfl) rfl)
end Go.Proofs.YtbndknhljkpijaaDoor
