/- Texts of the second layer in one: Si2. -/
import Derived.Test.YtibedaeefnjjlaaGreatG15
set_option maxHeartbeats 8000000
set_option maxRecDepth 100000
set_option linter.unusedVariables false
set_option linter.unusedSimpArgs false
namespace Go.Proofs.YtibedaeefnjjlaaGreat
open Go.RowKit Go.Ab Go.Wd
def psA (a b c d w r : Int) : St := ⟨[(2, .pt 0 0), (3, .pt 1 0), (4, .pt 2 0), (5, .pt 3 0), (6, .pt 4 0)], [(0, some (.var 38 (vsA (rtVs a b)))), (1, some (.var 38 (vsA (rtVs c d)))), (2, some (.var 38 (vsA (rtVs 0 0)))), (3, some (.var 36 (vsA (wzVs w)))), (4, some (.var 36 (vsA (wzVs r))))], 5⟩
def psB (a b c d w r v s : Int) : St := ⟨[(2, .pt 0 0), (3, .pt 1 0), (4, .pt 2 0), (5, .pt 3 0), (6, .pt 4 0), (8, .pt 5 0), (9, .pt 6 0)], [(0, some (.var 38 (vsA (rtVs a b)))), (1, some (.var 38 (vsA (rtVs c d)))), (2, some (.var 38 (vsA (rtVs 0 0)))), (3, some (.var 36 (vsA (wzVs w)))), (4, some (.var 36 (vsA (wzVs r)))), (5, some (.var 36 (vsA (wzVs v)))), (6, some (.var 36 (vsA (wzVs s))))], 7⟩
def psC (w n m : Int) : St := ⟨[(4, .pt 0 0), (5, .pt 1 0), (13, .pt 2 0)], [(0, some (.var 38 (vsA (rtVs 0 0)))), (1, some (.var 36 (vsA (wzVs w)))), (2, some (.var 38 (vsA (rtVs n m))))], 3⟩
theorem zo7 {n : Nat} (h : 0 < n) : sgZ (n : Int) = 1 := by unfold sgZ; rw [if_neg (by omega), if_neg (by omega)]
theorem zoA : ∀ (N a b c d : Nat), b + d ≤ N → 0 < b → 0 < d → a * d ≤ c * b → a < B64 ^ 4 → b < B64 ^ 4 → c < B64 ^ 4 → d < B64 ^ 4 →
  zan Tryz.prog 114 [rt (a : Int) (b : Int), rt (c : Int) (d : Int)] [] (rt ((posF a b c d).1 : Int) ((posF a b c d).2 : Int)) []
 | 0, a, b, c, d, hN, hb, hd, _, _, _, _, _ => by omega
 | N + 1, a, b, c, d, hN, hb, hd, hle, hA, hB, hC, hD => by
  have hra := Nat.mod_lt a hb
  have hrc := Nat.mod_lt c hd
  have hW : a / b < B64 ^ 4 := Nat.lt_of_le_of_lt (Nat.div_le_self _ _) hA
  have hV : c / d < B64 ^ 4 := Nat.lt_of_le_of_lt (Nat.div_le_self _ _) hC
  have hR : a % b < B64 ^ 4 := by omega
  have hS : c % d < B64 ^ 4 := by omega
  have cD1 := ztL a b hA hB (by omega)
  have cD2 := ztL c d hC hD (by omega)
  have cS := zgr ((a % b : Nat) : Int) (za7 hR)
  have cO := zpu
  have hposle := zei (N + 1) a b c d hN hb hd hle
  rw [posF] at hposle ⊢
  by_cases h0 : a % b = 0
  ·rw [dif_pos (by omega)]
   clear hposle
   rw [h0] at cD1 cS
   rw [show sgZ ((0 : Nat) : Int) = 0 from rfl] at cS
   generalize a / b = w at *
   refine zap Tryz.func114 rfl (Nat.le_of_ble_eq_true rfl) rfl rfl ?_
   (repeat' (first | refine zad ?_ | (refine is_f 146 ?_; refine zaa (cD1) ?_) | (refine is_f 112 ?_; refine zaa (cS) ?_) | (refine is_f 111 ?_; refine zaa (cO) ?_) | (refine zac (fun hb => ?_) (fun hb => ?_) <;> (try (exfalso; omega))) | fail))
   all_goals (first | (exfalso; omega) | exact absurd rfl hb | exact zbO [] (Rt.rt _ _) rfl rfl rfl rfl (zak rfl) rfl)
  ·rw [dif_neg (by omega)] at hposle ⊢
   have hsg : ¬ sgZ ((a % b : Nat) : Int) = 0 := by rw [zo7 (by omega)]; omega
   have cC := ziy ((c / d : Nat) : Int) ((a / b : Nat) : Int) (za7 hV) (za7 hW)
   by_cases hq : a / b < c / d
   ·rw [if_pos hq] at hposle ⊢
    have hcmp : cmpZ ((c / d : Nat) : Int) ((a / b : Nat) : Int) = 1 := by unfold cmpZ; rw [if_neg (by omega), if_pos (by omega)]
    rw [hcmp] at cC
    have hW1 : a / b + 1 < B64 ^ 4 := by have := hposle.1; dsimp only at this; omega
    have cA := zpr ((a / b : Nat) : Int) 1 (za7 hW) wone (by rw [show ((a / b : Nat) : Int) + 1 = ((a / b + 1 : Nat) : Int) by omega]; exact za7 hW1)
    rw [show ((a / b : Nat) : Int) + 1 = ((a / b + 1 : Nat) : Int) by omega] at cA
    clear hposle hcmp
    generalize a / b + 1 = w1 at *
    generalize a / b = w at *
    generalize c / d = v at *
    generalize sgZ ((a % b : Nat) : Int) = sg at *
    generalize a % b = r at *
    generalize c % d = s at *
    refine zap Tryz.func114 rfl (Nat.le_of_ble_eq_true rfl) rfl rfl ?_
    (repeat' (first | (first | refine zaH 4 ?_ | refine zaz 4 ?_) | refine zb9 ?_ | refine zaG ?_ | (refine is_f 146 ?_; refine zaa (cD1) ?_) | (refine is_f 112 ?_; refine zaa (cS) ?_) | (refine zac (fun hb => ?_) (fun hb => ?_) <;> (try (exfalso; omega))) | fail))
    all_goals (first | (exfalso; omega) | skip)
    refine halt ?_
    refine zbp (T := psA a b c d w r) (by (refine Le.mk [(0,0),(1,1),(2,2),(3,3),(4,4)] [] zaj zao zaq zal)) ?_
    (repeat' (first | (first | refine zaH 5 ?_ | refine zaz 5 ?_) | refine zb9 ?_ | refine zaG ?_ | (refine is_f 146 ?_; refine zaa (cD2) ?_) | (refine zac (fun hb => ?_) (fun hb => ?_) <;> (try (exfalso; omega))) | fail))
    refine halt ?_
    refine zbp (T := psB a b c d w r v s) (by (refine Le.mk [(0,0),(1,1),(2,2),(3,3),(4,4),(5,5),(6,6)] [] zaj zao zaq zal)) ?_
    (repeat' (first | refine zad ?_ | (refine is_f 129 ?_; refine zaa (cC) ?_) | (refine is_f 111 ?_; refine zaa (cO) ?_) | (refine is_f 147 ?_; refine zaa (cA) ?_) | (refine zac (fun hb => ?_) (fun hb => ?_) <;> (try (exfalso; omega))) | fail))
    all_goals (first | (exfalso; omega) | exact absurd rfl hb | exact zbO [] (Rt.rt _ _) rfl rfl rfl rfl (zak rfl) rfl)
   ·rw [if_neg hq] at hposle ⊢
    obtain ⟨he, hi, hs⟩ := zfR hb hd hle h0 hq
    have hcmp : cmpZ ((c / d : Nat) : Int) ((a / b : Nat) : Int) = 0 := by unfold cmpZ; rw [if_neg (by omega), if_neg (by omega)]
    rw [hcmp] at cC
    have cP := zoA N d (c % d) b (a % b) (by omega) hs (by omega) hi hD hS hB hR
    obtain ⟨i1, i2, i3, i4⟩ := zei N d (c % d) b (a % b) (by omega) hs (by omega) hi
    generalize (posF d (c % d) b (a % b)).1 = n at *
    generalize (posF d (c % d) b (a % b)).2 = m at *
    dsimp only at hposle
    have hM : a / b * n < B64 ^ 4 := by omega
    have cM := zpt ((a / b : Nat) : Int) (n : Int) (za7 hW) (za7 (by omega)) (by rw [← Int.natCast_mul]; exact za7 hM)
    have cA := zpr ((a / b * n : Nat) : Int) (m : Int) (za7 hM) (za7 (by omega)) (by rw [← Int.natCast_add]; exact za7 (by omega))
    rw [← Int.natCast_mul] at cM
    rw [← Int.natCast_add] at cA
    clear hposle hcmp i1 i2 i3 i4 hi
    generalize a / b * n + m = y at *
    generalize a / b * n = x at *
    generalize a / b = w at *
    generalize c / d = v at *
    generalize sgZ ((a % b : Nat) : Int) = sg at *
    generalize a % b = r at *
    generalize c % d = s at *
    refine zap Tryz.func114 rfl (Nat.le_of_ble_eq_true rfl) rfl rfl ?_
    (repeat' (first | (first | refine zaH 4 ?_ | refine zaz 4 ?_) | refine zb9 ?_ | refine zaG ?_ | (refine is_f 146 ?_; refine zaa (cD1) ?_) | (refine is_f 112 ?_; refine zaa (cS) ?_) | (refine zac (fun hb => ?_) (fun hb => ?_) <;> (try (exfalso; omega))) | fail))
    all_goals (first | (exfalso; omega) | skip)
    refine halt ?_
    refine zbp (T := psA a b c d w r) (by (refine Le.mk [(0,0),(1,1),(2,2),(3,3),(4,4)] [] zaj zao zaq zal)) ?_
    (repeat' (first | (first | refine zaH 5 ?_ | refine zaz 5 ?_) | refine zb9 ?_ | refine zaG ?_ | (refine is_f 146 ?_; refine zaa (cD2) ?_) | (refine zac (fun hb => ?_) (fun hb => ?_) <;> (try (exfalso; omega))) | fail))
    refine halt ?_
    refine zbp (T := psB a b c d w r v s) (by (refine Le.mk [(0,0),(1,1),(2,2),(3,3),(4,4),(5,5),(6,6)] [] zaj zao zaq zal)) ?_
    (repeat' (first | (first | refine zaH 9 ?_ | refine zaz 9 ?_) | refine zb9 ?_ | refine zaG ?_ | (refine is_f 129 ?_; refine zaa (cC) ?_) | (refine is_f 114 ?_; refine zaa (cP) ?_) | (refine zac (fun hb => ?_) (fun hb => ?_) <;> (try (exfalso; omega))) | fail))
    all_goals (first | (exfalso; omega) | skip)
    refine halt ?_
    refine zbp (T := psC w n m) (by (refine Le.mk [(0,2),(1,3),(2,7)] [] zaj zao zaq zal)) ?_
    (repeat' (first | refine zad ?_ | (refine is_f 148 ?_; refine zaa (cM) ?_) | (refine is_f 147 ?_; refine zaa (cA) ?_) | (refine zac (fun hb => ?_) (fun hb => ?_) <;> (try (exfalso; omega))) | fail))
    all_goals (first | (exfalso; omega) | exact absurd rfl hb | exact zbO [] (Rt.rt _ _) rfl rfl rfl rfl (zak rfl) rfl)
end Go.Proofs.YtibedaeefnjjlaaGreat
