/- Texts of the second layer in one: Si2. -/
import Derived.Test.YtibedaeefnjjlaaGreatG25
set_option maxRecDepth 100000
set_option linter.unusedVariables false
set_option linter.unusedSimpArgs false
namespace Go.Proofs.YtibedaeefnjjlaaGreat
open Go.RowKit Go.Ab Go.Wd
def psA (a b c d w r : Int) : St := ⟨[(2, .pt 0 0), (3, .pt 1 0), (4, .pt 2 0), (5, .pt 3 0), (6, .pt 4 0)], [(0, some (.var 38 (vsA (rtVs a b)))), (1, some (.var 38 (vsA (rtVs c d)))), (2, some (.var 38 (vsA (rtVs 0 0)))), (3, some (.var 36 (vsA (wzVs w)))), (4, some (.var 36 (vsA (wzVs r))))], 5⟩
def psB (a b c d w r v s : Int) : St := ⟨[(2, .pt 0 0), (3, .pt 1 0), (4, .pt 2 0), (5, .pt 3 0), (6, .pt 4 0), (8, .pt 5 0), (9, .pt 6 0)], [(0, some (.var 38 (vsA (rtVs a b)))), (1, some (.var 38 (vsA (rtVs c d)))), (2, some (.var 38 (vsA (rtVs 0 0)))), (3, some (.var 36 (vsA (wzVs w)))), (4, some (.var 36 (vsA (wzVs r)))), (5, some (.var 36 (vsA (wzVs v)))), (6, some (.var 36 (vsA (wzVs s))))], 7⟩
def psC (w n m : Int) : St := ⟨[(4, .pt 0 0), (5, .pt 1 0), (13, .pt 2 0)], [(0, some (.var 38 (vsA (rtVs 0 0)))), (1, some (.var 36 (vsA (wzVs w)))), (2, some (.var 38 (vsA (rtVs n m))))], 3⟩
theorem sgZ_pos {n : Nat} (h : 0 < n) : sgZ (n : Int) = 1 := by unfold sgZ; rw [if_neg (by omega), if_neg (by omega)]
set_option maxHeartbeats 8000000 in
theorem posQ_m : ∀ (N a b c d : Nat), b + d ≤ N → 0 < b → 0 < d → a * d ≤ c * b → a < B64 ^ 4 → b < B64 ^ 4 → c < B64 ^ 4 → d < B64 ^ 4 →
  Meets Tryz.prog 114 [rt (a : Int) (b : Int), rt (c : Int) (d : Int)] [] (rt ((posF a b c d).1 : Int) ((posF a b c d).2 : Int)) []
 | 0, a, b, c, d, hN, hb, hd, _, _, _, _, _ => by omega
 | N + 1, a, b, c, d, hN, hb, hd, hle, hA, hB, hC, hD => by
  have hra := Nat.mod_lt a hb
  have hrc := Nat.mod_lt c hd
  have hW : a / b < B64 ^ 4 := Nat.lt_of_le_of_lt (Nat.div_le_self _ _) hA
  have hV : c / d < B64 ^ 4 := Nat.lt_of_le_of_lt (Nat.div_le_self _ _) hC
  have hR : a % b < B64 ^ 4 := by omega
  have hS : c % d < B64 ^ 4 := by omega
  have cD1 := wdm_m a b hA hB (by omega)
  have cD2 := wdm_m c d hC hD (by omega)
  have cS := wSign_m ((a % b : Nat) : Int) (w4_nat hR)
  have cO := wOf1_m
  have hposle := posF_le (N + 1) a b c d hN hb hd hle
  rw [posF] at hposle ⊢
  by_cases h0 : a % b = 0
  ·rw [dif_pos (by omega)]
   clear hposle
   rw [h0] at cD1 cS
   rw [show sgZ ((0 : Nat) : Int) = 0 from rfl] at cS
   generalize a / b = w at *
   refine fn_of Tryz.func114 rfl (Nat.le_of_ble_eq_true rfl) rfl rfl ?_
   (repeat' (first | refine r_4eabd4 ?_ | (refine is_f 146 ?_; refine r_bb2b31 (cD1) ?_) | (refine is_f 112 ?_; refine r_bb2b31 (cS) ?_) | (refine is_f 111 ?_; refine r_bb2b31 (cO) ?_) | (refine r_0efca5 (fun hb => ?_) (fun hb => ?_) <;> (try (exfalso; omega))) | fail))
   all_goals (first | (exfalso; omega) | exact absurd rfl hb | exact ret1c [] (Rt.rt _ _) rfl rfl rfl rfl (post_none rfl) rfl)
  ·rw [dif_neg (by omega)] at hposle ⊢
   have hsg : ¬ sgZ ((a % b : Nat) : Int) = 0 := by rw [sgZ_pos (by omega)]; omega
   have cC := wCompare_m ((c / d : Nat) : Int) ((a / b : Nat) : Int) (w4_nat hV) (w4_nat hW)
   by_cases hq : a / b < c / d
   ·rw [if_pos hq] at hposle ⊢
    have hcmp : cmpZ ((c / d : Nat) : Int) ((a / b : Nat) : Int) = 1 := by unfold cmpZ; rw [if_neg (by omega), if_pos (by omega)]
    rw [hcmp] at cC
    have hW1 : a / b + 1 < B64 ^ 4 := by have := hposle.1; dsimp only at this; omega
    have cA := wAddZ_m ((a / b : Nat) : Int) 1 (w4_nat hW) wone (by rw [show ((a / b : Nat) : Int) + 1 = ((a / b + 1 : Nat) : Int) by omega]; exact w4_nat hW1)
    rw [show ((a / b : Nat) : Int) + 1 = ((a / b + 1 : Nat) : Int) by omega] at cA
    clear hposle hcmp
    generalize a / b + 1 = w1 at *
    generalize a / b = w at *
    generalize c / d = v at *
    generalize sgZ ((a % b : Nat) : Int) = sg at *
    generalize a % b = r at *
    generalize c % d = s at *
    refine fn_of Tryz.func114 rfl (Nat.le_of_ble_eq_true rfl) rfl rfl ?_
    (repeat' (first | (first | refine awp_halt 4 ?_ | refine awp_haltR 4 ?_) | refine r_ceea32 ?_ | refine r_d3423f ?_ | (refine is_f 146 ?_; refine r_bb2b31 (cD1) ?_) | (refine is_f 112 ?_; refine r_bb2b31 (cS) ?_) | (refine r_0efca5 (fun hb => ?_) (fun hb => ?_) <;> (try (exfalso; omega))) | fail))
    all_goals (first | (exfalso; omega) | skip)
    refine halt ?_
    refine awp_le (T := psA a b c d w r) (by (refine Le.mk [(0,0),(1,1),(2,2),(3,3),(4,4)] [] q_5ec36 q_43730 q_16bb5 q_509a2)) ?_
    (repeat' (first | (first | refine awp_halt 5 ?_ | refine awp_haltR 5 ?_) | refine r_ceea32 ?_ | refine r_d3423f ?_ | (refine is_f 146 ?_; refine r_bb2b31 (cD2) ?_) | (refine r_0efca5 (fun hb => ?_) (fun hb => ?_) <;> (try (exfalso; omega))) | fail))
    refine halt ?_
    refine awp_le (T := psB a b c d w r v s) (by (refine Le.mk [(0,0),(1,1),(2,2),(3,3),(4,4),(5,5),(6,6)] [] q_5ec36 q_43730 q_16bb5 q_509a2)) ?_
    (repeat' (first | refine r_4eabd4 ?_ | (refine is_f 129 ?_; refine r_bb2b31 (cC) ?_) | (refine is_f 111 ?_; refine r_bb2b31 (cO) ?_) | (refine is_f 147 ?_; refine r_bb2b31 (cA) ?_) | (refine r_0efca5 (fun hb => ?_) (fun hb => ?_) <;> (try (exfalso; omega))) | fail))
    all_goals (first | (exfalso; omega) | exact absurd rfl hb | exact ret1c [] (Rt.rt _ _) rfl rfl rfl rfl (post_none rfl) rfl)
   ·rw [if_neg hq] at hposle ⊢
    obtain ⟨he, hi, hs⟩ := posF_rest hb hd hle h0 hq
    have hcmp : cmpZ ((c / d : Nat) : Int) ((a / b : Nat) : Int) = 0 := by unfold cmpZ; rw [if_neg (by omega), if_neg (by omega)]
    rw [hcmp] at cC
    have cP := posQ_m N d (c % d) b (a % b) (by omega) hs (by omega) hi hD hS hB hR
    obtain ⟨i1, i2, i3, i4⟩ := posF_le N d (c % d) b (a % b) (by omega) hs (by omega) hi
    generalize (posF d (c % d) b (a % b)).1 = n at *
    generalize (posF d (c % d) b (a % b)).2 = m at *
    dsimp only at hposle
    have hM : a / b * n < B64 ^ 4 := by omega
    have cM := wMulZ_m ((a / b : Nat) : Int) (n : Int) (w4_nat hW) (w4_nat (by omega)) (by rw [← Int.natCast_mul]; exact w4_nat hM)
    have cA := wAddZ_m ((a / b * n : Nat) : Int) (m : Int) (w4_nat hM) (w4_nat (by omega)) (by rw [← Int.natCast_add]; exact w4_nat (by omega))
    rw [← Int.natCast_mul] at cM
    rw [← Int.natCast_add] at cA
    clear hposle hcmp i1 i2 i3 i4 hi
    generalize a / b * n + m = y at *
    generalize a / b * n = x at *
    generalize a / b = w at *
    generalize c / d = v at *
    generalize sgZ ((a % b : Nat) : Int) = sg at *
    generalize a % b = r at *
    generalize c % d = s at *
    refine fn_of Tryz.func114 rfl (Nat.le_of_ble_eq_true rfl) rfl rfl ?_
    (repeat' (first | (first | refine awp_halt 4 ?_ | refine awp_haltR 4 ?_) | refine r_ceea32 ?_ | refine r_d3423f ?_ | (refine is_f 146 ?_; refine r_bb2b31 (cD1) ?_) | (refine is_f 112 ?_; refine r_bb2b31 (cS) ?_) | (refine r_0efca5 (fun hb => ?_) (fun hb => ?_) <;> (try (exfalso; omega))) | fail))
    all_goals (first | (exfalso; omega) | skip)
    refine halt ?_
    refine awp_le (T := psA a b c d w r) (by (refine Le.mk [(0,0),(1,1),(2,2),(3,3),(4,4)] [] q_5ec36 q_43730 q_16bb5 q_509a2)) ?_
    (repeat' (first | (first | refine awp_halt 5 ?_ | refine awp_haltR 5 ?_) | refine r_ceea32 ?_ | refine r_d3423f ?_ | (refine is_f 146 ?_; refine r_bb2b31 (cD2) ?_) | (refine r_0efca5 (fun hb => ?_) (fun hb => ?_) <;> (try (exfalso; omega))) | fail))
    refine halt ?_
    refine awp_le (T := psB a b c d w r v s) (by (refine Le.mk [(0,0),(1,1),(2,2),(3,3),(4,4),(5,5),(6,6)] [] q_5ec36 q_43730 q_16bb5 q_509a2)) ?_
    (repeat' (first | (first | refine awp_halt 9 ?_ | refine awp_haltR 9 ?_) | refine r_ceea32 ?_ | refine r_d3423f ?_ | (refine is_f 129 ?_; refine r_bb2b31 (cC) ?_) | (refine is_f 114 ?_; refine r_bb2b31 (cP) ?_) | (refine r_0efca5 (fun hb => ?_) (fun hb => ?_) <;> (try (exfalso; omega))) | fail))
    all_goals (first | (exfalso; omega) | skip)
    refine halt ?_
    refine awp_le (T := psC w n m) (by (refine Le.mk [(0,2),(1,3),(2,7)] [] q_5ec36 q_43730 q_16bb5 q_509a2)) ?_
    (repeat' (first | refine r_4eabd4 ?_ | (refine is_f 148 ?_; refine r_bb2b31 (cM) ?_) | (refine is_f 147 ?_; refine r_bb2b31 (cA) ?_) | (refine r_0efca5 (fun hb => ?_) (fun hb => ?_) <;> (try (exfalso; omega))) | fail))
    all_goals (first | (exfalso; omega) | exact absurd rfl hb | exact ret1c [] (Rt.rt _ _) rfl rfl rfl rfl (post_none rfl) rfl)
end Go.Proofs.YtibedaeefnjjlaaGreat
