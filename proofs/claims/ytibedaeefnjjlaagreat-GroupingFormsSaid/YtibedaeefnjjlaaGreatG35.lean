/- Texts of the second layer in one: Re1 Re2 Bf1. -/
import Derived.Test.YtibedaeefnjjlaaGreatG29
import Derived.Test.YtibedaeefnjjlaaGreatG17
import Derived.Test.YtibedaeefnjjlaaGreatG20
import Derived.Test.YtibedaeefnjjlaaGreatG31
import Derived.Test.YtibedaeefnjjlaaGreatG28
set_option maxHeartbeats 8000000
set_option maxRecDepth 100000
set_option linter.unusedVariables false
set_option linter.unusedSimpArgs false
namespace Go.Proofs.YtibedaeefnjjlaaGreat
open Go.RowKit Go.Ab Go.Wd
def reA (a b c d w r : Int) : St := ⟨[(4, .pt 0 0), (5, .pt 1 0), (6, .pt 2 0), (7, .pt 3 0), (8, .pt 4 0), (9, .pt 5 0), (10, .pt 6 0), (11, .pt 7 0)], [(0, some (.var 36 (vsA (wzVs a)))), (1, some (.var 36 (vsA (wzVs b)))), (2, some (.var 36 (vsA (wzVs c)))), (3, some (.var 36 (vsA (wzVs d)))), (4, some (.var 36 (vsA (wzVs 0)))), (5, some (.var 36 (vsA (wzVs 0)))), (6, some (.var 36 (vsA (wzVs w)))), (7, some (.var 36 (vsA (wzVs r))))], 8⟩
def reB (a b c d : Int) : St := ⟨[(4, .pt 0 0), (5, .pt 1 0), (6, .pt 2 0), (7, .pt 3 0), (8, .pt 4 0), (9, .pt 5 0)], [(0, some (.var 36 (vsA (wzVs a)))), (1, some (.var 36 (vsA (wzVs b)))), (2, some (.var 36 (vsA (wzVs c)))), (3, some (.var 36 (vsA (wzVs d)))), (4, some (.var 36 (vsA (wzVs 0)))), (5, some (.var 36 (vsA (wzVs 0))))], 6⟩
def reC (b c d q r : Int) : St := ⟨[(5, .pt 0 0), (6, .pt 1 0), (7, .pt 2 0), (8, .pt 3 0), (9, .pt 4 0), (15, .pt 5 0), (16, .pt 6 0)], [(0, some (.var 36 (vsA (wzVs b)))), (1, some (.var 36 (vsA (wzVs c)))), (2, some (.var 36 (vsA (wzVs d)))), (3, some (.var 36 (vsA (wzVs 0)))), (4, some (.var 36 (vsA (wzVs 0)))), (5, some (.var 36 (vsA (wzVs q)))), (6, some (.var 36 (vsA (wzVs r))))], 7⟩
def reD (q n m : Int) : St := ⟨[(8, .pt 0 0), (9, .pt 1 0), (15, .pt 2 0), (22, .pt 3 0), (23, .pt 4 0)], [(0, some (.var 36 (vsA (wzVs 0)))), (1, some (.var 36 (vsA (wzVs 0)))), (2, some (.var 36 (vsA (wzVs q)))), (3, some (.var 36 (vsA (wzVs n)))), (4, some (.var 36 (vsA (wzVs m))))], 5⟩
theorem n127 {n : Nat} (h : n < N127) : ((n : Int)).natAbs < N127 := by simpa using h
theorem ztr : zan Tryz.prog 21 [.r (.v (.int .i64 1))] [] (wz 1) [] := zhY 1 (by constructor <;> decide)
theorem zoP : ∀ (N a b c d : Nat), b + d ≤ N → 0 < b → 0 < d → a * d ≤ c * b → a < N127 → b < N127 → c < N127 → d < N127 →
  zan Tryz.prog 124 [wz (a : Int), wz (b : Int), wz (c : Int), wz (d : Int)] [] (.tu [wz ((posF a b c d).1 : Int), wz ((posF a b c d).2 : Int)]) []
 | 0, a, b, c, d, hN, hb, hd, _, _, _, _, _ => by omega
 | N + 1, a, b, c, d, hN, hb, hd, hle, hA, hB, hC, hD => by
  have hra := Nat.mod_lt a hb
  have hrc := Nat.mod_lt c hd
  have ea := Nat.mod_add_div a b
  have ec := Nat.mod_add_div c d
  have hW : a / b < N127 := Nat.lt_of_le_of_lt (Nat.div_le_self _ _) hA
  have hR : a % b < N127 := by omega
  have hS : c % d < N127 := by omega
  have cD1 := zmZ a b (zaR hA) (zaR hB) (by omega)
  have cS := zdj ((a % b : Nat) : Int) (za7 (zaR hR))
  have cO := ztr
  have hposle := zei (N + 1) a b c d hN hb hd hle
  rw [posF] at hposle ⊢
  by_cases h0 : a % b = 0
  ·rw [dif_pos (by omega)]
   clear hposle
   rw [h0] at cD1 cS
   rw [show sgZ ((0 : Nat) : Int) = 0 from rfl] at cS
   have cM := zhA ((a / b : Nat) : Int) (d : Int) (za7 (zaR hW)) (za7 (zaR hD)) (zdr (n127 hW) (n127 hD))
   have hM := zdr (n127 hW) (n127 hD)
   rw [← Int.natCast_mul] at cM hM
   have cC := ze5 ((a / b * d : Nat) : Int) (c : Int) hM (za7 (zaR hC))
   have hcmp : cmpZ ((a / b * d : Nat) : Int) (c : Int) ≤ 0 := by
    refine zga ?_
    have h2 : a / b * d * b ≤ c * b := by
     have : a / b * d * b = a * d := by
      have e : b * (a / b) = a := by omega
      calc a / b * d * b = b * (a / b) * d := by rw [Nat.mul_comm (a / b * d) b, ← Nat.mul_assoc]
       _ = a * d := by rw [e]
     rw [this]; exact hle
    have := Nat.le_of_mul_le_mul_right h2 hb
    omega
   clear hM ea ec hle
   generalize cmpZ ((a / b * d : Nat) : Int) (c : Int) = e at *
   generalize a / b * d = y at *
   generalize a / b = w at *
   refine zap Tryz.func124 rfl (Nat.le_of_ble_eq_true rfl) rfl rfl ?_
   (repeat' (first | (first | refine zaH 2 ?_ | refine zaz 2 ?_) | refine zb9 ?_ | refine zaG ?_ | (refine is_f 49 ?_; refine zaa (cD1) ?_) | (refine zac (fun hb => ?_) (fun hb => ?_) <;> (try (exfalso; omega))) | fail))
   refine halt ?_
   refine zbp (T := reA a b c d w (0 : Nat)) (by (refine Le.mk [(0,0),(1,1),(2,2),(3,3),(4,4),(5,5),(6,6),(7,7)] [] zaj zao zaq zal)) ?_
   (repeat' (first | refine zad ?_ | (refine is_f 46 ?_; refine zaa (cS) ?_) | (refine is_f 21 ?_; refine zaa (cO) ?_) | (refine is_f 43 ?_; refine zaa (cM) ?_) | (refine is_f 44 ?_; refine zaa (cC) ?_) | (refine zac (fun hb => ?_) (fun hb => ?_) <;> (try (exfalso; omega))) | fail))
   all_goals (first | (exfalso; omega) | exact absurd rfl hb | exact zkm [] (Rt.wz _) (Rt.wz _) rfl rfl rfl rfl rfl rfl rfl (zak rfl) rfl)
  ·rw [dif_neg (by omega)] at hposle ⊢
   have hsg : sgZ ((a % b : Nat) : Int) = 1 := zo7 (by omega)
   rw [hsg] at cS
   have hb2 : 2 ≤ b := by rcases Nat.lt_or_ge b 2 with h | h
                          · have : b = 1 := by omega
                            subst this; omega
                          · exact h
   have hw2 : a / b * 2 ≤ a := Nat.le_trans (Nat.mul_le_mul_left _ hb2) (Nat.div_mul_le_self a b)
   have hW1 : a / b + 1 < N127 := by unfold N127 at *; omega
   have cA := zmb ((a / b : Nat) : Int) 1 (za7 (zaR hW)) wone (by rw [show ((a / b : Nat) : Int) + 1 = ((a / b + 1 : Nat) : Int) by omega]; exact za7 (zaR hW1))
   rw [show ((a / b : Nat) : Int) + 1 = ((a / b + 1 : Nat) : Int) by omega] at cA
   have cM := zhA ((a / b + 1 : Nat) : Int) (d : Int) (za7 (zaR hW1)) (za7 (zaR hD)) (zdr (n127 hW1) (n127 hD))
   have hM := zdr (n127 hW1) (n127 hD)
   rw [← Int.natCast_mul] at cM hM
   have cC := ze5 (((a / b + 1) * d : Nat) : Int) (c : Int) hM (za7 (zaR hC))
   by_cases hq : a / b < c / d
   ·rw [if_pos hq] at hposle ⊢
    have hcmp : cmpZ (((a / b + 1) * d : Nat) : Int) (c : Int) ≤ 0 := by
     refine zga ?_
     have := (Nat.le_div_iff_mul_le hd).1 (show a / b + 1 ≤ c / d by omega)
     omega
    clear hM ea ec hle hposle hw2 hW1
    generalize cmpZ (((a / b + 1) * d : Nat) : Int) (c : Int) = e at *
    generalize (a / b + 1) * d = y at *
    generalize a / b + 1 = w1 at *
    generalize a / b = w at *
    generalize a % b = r at *
    refine zap Tryz.func124 rfl (Nat.le_of_ble_eq_true rfl) rfl rfl ?_
    (repeat' (first | (first | refine zaH 2 ?_ | refine zaz 2 ?_) | refine zb9 ?_ | refine zaG ?_ | (refine is_f 49 ?_; refine zaa (cD1) ?_) | (refine zac (fun hb => ?_) (fun hb => ?_) <;> (try (exfalso; omega))) | fail))
    refine halt ?_
    refine zbp (T := reA a b c d w r) (by (refine Le.mk [(0,0),(1,1),(2,2),(3,3),(4,4),(5,5),(6,6),(7,7)] [] zaj zao zaq zal)) ?_
    (repeat' (first | refine zad ?_ | (refine is_f 46 ?_; refine zaa (cS) ?_) | (refine is_f 21 ?_; refine zaa (cO) ?_) | (refine is_f 90 ?_; refine zaa (cA) ?_) | (refine is_f 43 ?_; refine zaa (cM) ?_) | (refine is_f 44 ?_; refine zaa (cC) ?_) | (refine zac (fun hb => ?_) (fun hb => ?_) <;> (try (exfalso; omega))) | fail))
    all_goals (first | (exfalso; omega) | exact absurd rfl hb | exact zkm [] (Rt.wz _) (Rt.wz _) rfl rfl rfl rfl rfl rfl rfl (zak rfl) rfl)
   ·rw [if_neg hq] at hposle ⊢
    obtain ⟨he, hi, hs⟩ := zfR hb hd hle h0 hq
    have hcmp : ¬ cmpZ (((a / b + 1) * d : Nat) : Int) (c : Int) ≤ 0 := by
     intro h
     have h1 : (a / b + 1) * d ≤ c := by have := zeU.1 h; omega
     have := (Nat.le_div_iff_mul_le hd).2 h1
     omega
    have cM2 := zhA ((a / b : Nat) : Int) (d : Int) (za7 (zaR hW)) (za7 (zaR hD)) (zdr (n127 hW) (n127 hD))
    have hM2 := zdr (n127 hW) (n127 hD)
    rw [← Int.natCast_mul] at cM2 hM2
    have hsub : (c : Int) - ((a / b * d : Nat) : Int) = ((c % d : Nat) : Int) := by
     rw [he]
     have : c / d * d = d * (c / d) := Nat.mul_comm _ _
     omega
    have cU := zoR (c : Int) ((a / b * d : Nat) : Int) (za7 (zaR hC)) hM2 (by rw [hsub]; exact za7 (zaR hS))
    rw [hsub] at cU
    have cP := zoP N d (c % d) b (a % b) (by omega) hs (by omega) hi hD hS hB hR
    obtain ⟨i1, i2, i3, i4⟩ := zei N d (c % d) b (a % b) (by omega) hs (by omega) hi
    generalize (posF d (c % d) b (a % b)).1 = n at *
    generalize (posF d (c % d) b (a % b)).2 = m at *
    dsimp only at hposle
    have hX : a / b * n < N127 := by omega
    have cX := zhA ((a / b : Nat) : Int) (n : Int) (za7 (zaR hW)) (za7 (zaR (by omega))) (by rw [← Int.natCast_mul]; exact za7 (zaR hX))
    have cY := zmb ((a / b * n : Nat) : Int) (m : Int) (za7 (zaR hX)) (za7 (zaR (by omega))) (by rw [← Int.natCast_add]; exact za7 (zaR (by omega)))
    rw [← Int.natCast_mul] at cX
    rw [← Int.natCast_add] at cY
    clear hposle i1 i2 i3 i4 hi hM2 hsub hM ea ec hle hw2 hW1 hX
    generalize cmpZ (((a / b + 1) * d : Nat) : Int) (c : Int) = e at *
    generalize a / b * n + m = y at *
    generalize a / b * n = x at *
    generalize (a / b + 1) * d = tp at *
    generalize a / b * d = p at *
    generalize a / b + 1 = w1 at *
    generalize a / b = w at *
    generalize a % b = r at *
    generalize c % d = s at *
    refine zap Tryz.func124 rfl (Nat.le_of_ble_eq_true rfl) rfl rfl ?_
    (repeat' (first | (first | refine zaH 2 ?_ | refine zaz 2 ?_) | refine zb9 ?_ | refine zaG ?_ | (refine is_f 49 ?_; refine zaa (cD1) ?_) | (refine zac (fun hb => ?_) (fun hb => ?_) <;> (try (exfalso; omega))) | fail))
    refine halt ?_
    refine zbp (T := reA a b c d w r) (by (refine Le.mk [(0,0),(1,1),(2,2),(3,3),(4,4),(5,5),(6,6),(7,7)] [] zaj zao zaq zal)) ?_
    (repeat' (first | (first | refine zaH 7 ?_ | refine zaz 7 ?_) | refine zb9 ?_ | refine zaG ?_ | (refine is_f 46 ?_; refine zaa (cS) ?_) | (refine is_f 21 ?_; refine zaa (cO) ?_) | (refine is_f 90 ?_; refine zaa (cA) ?_) | (refine is_f 43 ?_; refine zaa (cM) ?_) | (refine is_f 44 ?_; refine zaa (cC) ?_) | (refine zac (fun hb => ?_) (fun hb => ?_) <;> (try (exfalso; omega))) | fail))
    all_goals (first | (exfalso; omega) | skip)
    refine halt ?_
    refine zbp (T := reB a b c d) (by (refine Le.mk [(0,0),(1,1),(2,2),(3,3),(4,4),(5,5)] [] zaj zao zaq zal)) ?_
    (repeat' (first | (first | refine zaH 8 ?_ | refine zaz 8 ?_) | refine zb9 ?_ | refine zaG ?_ | (refine is_f 49 ?_; refine zaa (cD1) ?_) | (refine zac (fun hb => ?_) (fun hb => ?_) <;> (try (exfalso; omega))) | fail))
    refine halt ?_
    refine zbp (T := reC b c d w r) (by (refine Le.mk [(0,1),(1,2),(2,3),(3,4),(4,5),(5,6),(6,7)] [] zaj zao zaq zal)) ?_
    (repeat' (first | (first | refine zaH 11 ?_ | refine zaz 11 ?_) | refine zb9 ?_ | refine zaG ?_ | (refine is_f 43 ?_; refine zaa (cM2) ?_) | (refine is_f 89 ?_; refine zaa (cU) ?_) | (refine is_f 124 ?_; refine zaa (cP) ?_) | (refine zac (fun hb => ?_) (fun hb => ?_) <;> (try (exfalso; omega))) | fail))
    refine halt ?_
    refine zbp (T := reD w n m) (by (refine Le.mk [(0,3),(1,4),(2,5),(3,9),(4,10)] [] zaj zao zaq zal)) ?_
    (repeat' (first | refine zad ?_ | (refine is_f 43 ?_; refine zaa (cX) ?_) | (refine is_f 90 ?_; refine zaa (cY) ?_) | (refine zac (fun hb => ?_) (fun hb => ?_) <;> (try (exfalso; omega))) | fail))
    all_goals (first | (exfalso; omega) | exact absurd rfl hb | exact zkm [] (Rt.wz _) (Rt.wz _) rfl rfl rfl rfl rfl rfl rfl (zak rfl) rfl)
theorem zmY (a b c d : Int) (h1 : VR a b) (h2 : VR c d) (hle : a * d ≤ c * b) : zan Tryz.prog 92 [rt a b, rt c d] [] (.tu [rt (btw a b c d).1 (btw a b c d).2, .r (.v (.bool true))]) [] := by
 have v1 := zdk a b h1
 have v2 := zdk c d h2
 have cC := zeG a b c d h1 h2
 have hcmp := zga hle
 have s1 := zdj c h2.w4n
 have s2 := zdj a h1.w4n
 have hb0 := h1.1
 have hd0 := h2.1
 have la := h1.2.1
 have lb := h1.2.2.1
 have lc := h2.2.1
 have ld := h2.2.2.1
 generalize cmpZ (a * d) (c * b) = e at *
 unfold btw
 by_cases hc : c < 0
 ·rw [if_pos hc]
  have hsg : sgZ c = -1 := by unfold sgZ; rw [if_pos hc]
  rw [hsg] at s1
  have ha : a < 0 := by
   rcases Int.lt_or_le a 0 with h | h
   ·exact h
   ·have k1 : 0 ≤ a * d := Int.mul_nonneg h (by omega)
    have k2 : c * b < 0 := Int.mul_neg_of_neg_of_pos hc hb0
    omega
  have hsg2 : sgZ a = -1 := by unfold sgZ; rw [if_pos ha]
  rw [hsg2] at s2
  have n1 := zkc c h2.w4n
  have n2 := zkc a h1.w4n
  obtain ⟨a', rfl⟩ : ∃ n : Nat, a = -(n : Int) := ⟨a.natAbs, by omega⟩
  obtain ⟨c', rfl⟩ : ∃ n : Nat, c = -(n : Int) := ⟨c.natAbs, by omega⟩
  obtain ⟨b', rfl⟩ : ∃ n : Nat, b = (n : Int) := ⟨b.natAbs, by omega⟩
  obtain ⟨d', rfl⟩ : ∃ n : Nat, d = (n : Int) := ⟨d.natAbs, by omega⟩
  simp only [Int.natAbs_neg, Int.natAbs_natCast] at *
  rw [Int.neg_neg] at n1 n2
  have hle2 : c' * b' ≤ a' * d' := by
   rw [Int.neg_mul, Int.neg_mul] at hle
   have : ((c' * b' : Nat) : Int) ≤ ((a' * d' : Nat) : Int) := by rw [Int.natCast_mul, Int.natCast_mul]; omega
   omega
  have cP := zoP (d' + b') c' d' a' b' (Nat.le_refl _) (by omega) (by omega) hle2 lc ld la lb
  obtain ⟨i1, _, _, _⟩ := zei (d' + b') c' d' a' b' (Nat.le_refl _) (by omega) (by omega) hle2
  generalize (posF c' d' a' b').1 = n at *
  generalize (posF c' d' a' b').2 = m at *
  have n3 := zkc (n : Int) (za7 (zaR (by omega)))
  clear h1 h2 la lb lc ld i1 hle hle2 ha hc hb0 hd0 hsg hsg2
  refine zap Tryz.func92 rfl (Nat.le_of_ble_eq_true rfl) rfl rfl ?_
  (repeat' (first | refine zad ?_ | (refine is_f 41 ?_; refine zaa (v1) ?_) | (refine is_f 41 ?_; refine zaa (v2) ?_) | (refine is_f 18 ?_; refine zaa (cC) ?_) | (refine is_f 46 ?_; refine zaa (s1) ?_) | (refine is_f 46 ?_; refine zaa (s2) ?_) | (refine is_f 50 ?_; refine zaa (n1) ?_) | (refine is_f 50 ?_; refine zaa (n2) ?_) | (refine is_f 50 ?_; refine zaa (n3) ?_) | (refine is_f 124 ?_; refine zaa (cP) ?_) | (refine zac (fun hb => ?_) (fun hb => ?_) <;> (try (exfalso; omega))) | fail))
  all_goals (first | (exfalso; omega) | exact absurd rfl hb | exact zbb [] (Rt.rt _ _) (.bool rfl) rfl rfl rfl rfl rfl (zak rfl) rfl)
 ·rw [if_neg hc]
  have hsg : 0 ≤ sgZ c := by unfold sgZ; rw [if_neg hc]; split <;> omega
  by_cases ha : a ≤ 0
  ·rw [if_pos ha]
   have hsg2 : sgZ a ≤ 0 := by unfold sgZ; split <;> omega
   have cO := zio 0 (by constructor <;> decide)
   generalize sgZ c = sc at *
   generalize sgZ a = sa at *
   clear h1 h2 la lb lc ld hle ha hc hb0 hd0
   refine zap Tryz.func92 rfl (Nat.le_of_ble_eq_true rfl) rfl rfl ?_
   (repeat' (first | refine zad ?_ | (refine is_f 41 ?_; refine zaa (v1) ?_) | (refine is_f 41 ?_; refine zaa (v2) ?_) | (refine is_f 18 ?_; refine zaa (cC) ?_) | (refine is_f 46 ?_; refine zaa (s1) ?_) | (refine is_f 46 ?_; refine zaa (s2) ?_) | (refine is_f 31 ?_; refine zaa (cO) ?_) | (refine zac (fun hb => ?_) (fun hb => ?_) <;> (try (exfalso; omega))) | fail))
   all_goals (first | (exfalso; omega) | exact absurd rfl hb | exact zbb [] (Rt.rt _ _) (.bool rfl) rfl rfl rfl rfl rfl (zak rfl) rfl)
  ·rw [if_neg ha]
   have hsg2 : ¬ sgZ a ≤ 0 := by unfold sgZ; rw [if_neg (by omega), if_neg (by omega)]; omega
   obtain ⟨a', rfl⟩ : ∃ n : Nat, a = (n : Int) := ⟨a.natAbs, by omega⟩
   obtain ⟨c', rfl⟩ : ∃ n : Nat, c = (n : Int) := ⟨c.natAbs, by omega⟩
   obtain ⟨b', rfl⟩ : ∃ n : Nat, b = (n : Int) := ⟨b.natAbs, by omega⟩
   obtain ⟨d', rfl⟩ : ∃ n : Nat, d = (n : Int) := ⟨d.natAbs, by omega⟩
   simp only [Int.natAbs_natCast] at *
   have hle2 : a' * d' ≤ c' * b' := by
    have : ((a' * d' : Nat) : Int) ≤ ((c' * b' : Nat) : Int) := by rw [Int.natCast_mul, Int.natCast_mul]; exact hle
    omega
   have cP := zoP (b' + d') a' b' c' d' (Nat.le_refl _) (by omega) (by omega) hle2 la lb lc ld
   generalize sgZ (c' : Int) = sc at *
   generalize sgZ (a' : Int) = sa at *
   generalize (posF a' b' c' d').1 = n at *
   generalize (posF a' b' c' d').2 = m at *
   clear h1 h2 la lb lc ld hle hle2 ha hc hb0 hd0
   refine zap Tryz.func92 rfl (Nat.le_of_ble_eq_true rfl) rfl rfl ?_
   (repeat' (first | refine zad ?_ | (refine is_f 41 ?_; refine zaa (v1) ?_) | (refine is_f 41 ?_; refine zaa (v2) ?_) | (refine is_f 18 ?_; refine zaa (cC) ?_) | (refine is_f 46 ?_; refine zaa (s1) ?_) | (refine is_f 46 ?_; refine zaa (s2) ?_) | (refine is_f 124 ?_; refine zaa (cP) ?_) | (refine zac (fun hb => ?_) (fun hb => ?_) <;> (try (exfalso; omega))) | fail))
   all_goals (first | (exfalso; omega) | exact absurd rfl hb | exact zbb [] (Rt.rt _ _) (.bool rfl) rfl rfl rfl rfl rfl (zak rfl) rfl)
theorem zka {c : Cn} (h : c.ok) : zan Tryz.prog 63 [c.A] [] (rt (chC c).1 (chC c).2) [] := by
 obtain ⟨o, p, q, r, s⟩ := c
 unfold Cn.A chC
 rcases h with ⟨h1, h2, h3, h4, h5⟩ | ⟨h1, h2, h3, h4⟩ <;> dsimp only at * <;> subst h1
 ·subst h2 h3 h4 h5
  have cV := zdK
  have cO := zio 0 (by constructor <;> decide)
  rw [if_pos rfl]
  refine zap Tryz.func63 rfl (Nat.le_of_ble_eq_true rfl) rfl rfl ?_
  (repeat' (first | refine zad ?_ | (refine is_f 40 ?_; refine zaa (cV) ?_) | (refine is_f 31 ?_; refine zaa (cO) ?_) | (refine zac (fun hb => ?_) (fun hb => ?_) <;> (try (exfalso; omega))) | fail))
  all_goals exact zbO [] (Rt.rt _ _) rfl rfl rfl rfl (zak rfl) rfl
 ·have cV := zcH p q r s h2 h3 h4
  have cB := zmY p q r s h2 h3 h4
  rw [if_neg (by simp)]
  generalize (btw p q r s).1 = u at *
  generalize (btw p q r s).2 = v at *
  refine zap Tryz.func63 rfl (Nat.le_of_ble_eq_true rfl) rfl rfl ?_
  (repeat' (first | refine zad ?_ | (refine is_f 40 ?_; refine zaa (cV) ?_) | (refine is_f 92 ?_; refine zaa (cB) ?_) | (refine zac (fun hb => ?_) (fun hb => ?_) <;> (try (exfalso; omega))) | fail))
  all_goals exact zbO [] (Rt.rt _ _) rfl rfl rfl rfl (zak rfl) rfl
theorem zeT (x y : Int) : (x < y ∧ cmpZ x y = -1) ∨ (x = y ∧ cmpZ x y = 0) ∨ (y < x ∧ cmpZ x y = 1) := by
 unfold cmpZ
 split
 ·exact .inl ⟨by assumption, rfl⟩
 ·split
  ·exact .inr (.inr ⟨by assumption, rfl⟩)
  ·exact .inr (.inl ⟨by omega, rfl⟩)
theorem zoK (a b : Pc) (ha : a.c.ok) (hb : b.c.ok) : zan Tryz.prog 61 [pcA a, pcA b] [] (.r (.v (.bool (decide (cmpP a b < 0))))) [] := by
 rw [ziN]
 obtain ⟨ix, ct, ky, ⟨o, p, q, r, s⟩⟩ := a
 obtain ⟨ix', ct', ky', ⟨o', p', q', r', s'⟩⟩ := b
 unfold pcA pcVs
 dsimp only
 have hk := zeT ky ky'
 have hi := zeT ix ix'
 generalize cmpZ ky ky' = zk at *
 generalize cmpZ ix ix' = zi at *
 by_cases hky : ky = ky'
 ·have hz : zk = 0 := by omega
  rw [if_neg (by omega)]
  unfold cmpC
  dsimp only
  rcases ha with ⟨h1, _⟩ | ⟨h1, h2⟩ <;> rcases hb with ⟨g1, _⟩ | ⟨g1, g2⟩ <;> dsimp only at h1 g1 <;> subst h1 g1
  ·simp only [if_true, ne_eq, not_true_eq_false, if_false]
   refine zap Tryz.func61 rfl (Nat.le_of_ble_eq_true rfl) rfl rfl ?_
   (repeat' (first | refine zai ?_ | (refine zac (fun hb => ?_) (fun hb => ?_) <;> (try (exfalso; omega))) | fail))
   all_goals (first | (exfalso; omega) | skip)
   all_goals exact ret1 [] (.bool (by congr 1; simp; omega)) rfl rfl rfl
  ·simp only [if_true, Bool.false_eq_true, if_false, ne_eq, Int.reduceNeg, reduceCtorEq, not_false_eq_true]
   refine zap Tryz.func61 rfl (Nat.le_of_ble_eq_true rfl) rfl rfl ?_
   (repeat' (first | refine zai ?_ | (refine zac (fun hb => ?_) (fun hb => ?_) <;> (try (exfalso; omega))) | fail))
   all_goals (first | (exfalso; omega) | skip)
   all_goals exact ret1 [] (.bool (by simp)) rfl rfl rfl
  ·simp only [if_true, Bool.false_eq_true, if_false, ne_eq, Int.reduceNeg, reduceCtorEq, not_false_eq_true]
   refine zap Tryz.func61 rfl (Nat.le_of_ble_eq_true rfl) rfl rfl ?_
   (repeat' (first | refine zai ?_ | (refine zac (fun hb => ?_) (fun hb => ?_) <;> (try (exfalso; omega))) | fail))
   all_goals (first | (exfalso; omega) | skip)
   all_goals exact ret1 [] (.bool (by simp)) rfl rfl rfl
  ·simp only [Bool.false_eq_true, if_false, orL2]
   dsimp only at h2 g2
   have c1 := zeG p q p' q' h2.1 g2.1
   have c2 := zeG r s r' s' h2.2.1 g2.2.1
   have d1 := zeT (p * q') (p' * q)
   have d2 := zeT (r * s') (r' * s)
   generalize cmpZ (p * q') (p' * q) = z1 at *
   generalize cmpZ (r * s') (r' * s) = z2 at *
   have e : ((if (if z1 ≠ 0 then z1 else z2) ≠ 0 then (if z1 ≠ 0 then z1 else z2) else zi) < 0) ↔ (z1 < 0 ∨ (z1 = 0 ∧ (z2 < 0 ∨ (z2 = 0 ∧ zi < 0)))) := by
    by_cases h1 : z1 = 0 <;> by_cases h2 : z2 = 0 <;> simp [h1, h2] <;> omega
   obtain ⟨R, hR⟩ : ∃ R, decide ((if (if z1 ≠ 0 then z1 else z2) ≠ 0 then (if z1 ≠ 0 then z1 else z2) else zi) < 0) = R := ⟨_, rfl⟩
   have hR1 : (z1 < 0 ∨ (z1 = 0 ∧ (z2 < 0 ∨ (z2 = 0 ∧ zi < 0)))) → R = true := fun h => by rw [← hR]; exact decide_eq_true (e.2 h)
   have hR2 : ¬ (z1 < 0 ∨ (z1 = 0 ∧ (z2 < 0 ∨ (z2 = 0 ∧ zi < 0)))) → R = false := fun h => by rw [← hR]; exact decide_eq_false fun h' => h (e.1 h')
   rw [hR]
   clear d1 d2 h2 g2 e hR
   refine zap Tryz.func61 rfl (Nat.le_of_ble_eq_true rfl) rfl rfl ?_
   (repeat' (first | refine zai ?_ | (refine is_f 18 ?_; refine zah (c1) ?_) | (refine is_f 18 ?_; refine zah (c2) ?_) | (refine zac (fun hb => ?_) (fun hb => ?_) <;> (try (exfalso; omega))) | fail))
   all_goals (first | (exfalso; omega) | skip)
   all_goals first
    | exact ret1 [] (.bool (hR1 (by omega)).symm) rfl rfl rfl
    | exact ret1 [] (.bool (hR2 (by omega)).symm) rfl rfl rfl
    | (rcases Int.lt_or_le ix ix' with h9 | h9 <;> first
      | (rw [hR1 (by omega)]; exact ret1 [] (.bool (by simp; omega)) rfl rfl rfl)
      | (rw [hR2 (by omega)]; exact ret1 [] (.bool (by simp; omega)) rfl rfl rfl))
 ·have hz : zk ≠ 0 := by omega
  rw [if_pos hz]
  clear ha hb
  refine zap Tryz.func61 rfl (Nat.le_of_ble_eq_true rfl) rfl rfl ?_
  (repeat' (first | refine zai ?_ | (refine zac (fun hb => ?_) (fun hb => ?_) <;> (try (exfalso; omega))) | fail))
  all_goals (first | (exfalso; omega) | skip)
  all_goals first
   | exact ret1 [] (.bool (decide_eq_decide.2 (by omega))) rfl rfl rfl
   | exact ret1 [] (.bool (decide_eq_true (by omega)).symm) rfl rfl rfl
   | exact ret1 [] (.bool (decide_eq_false (by omega)).symm) rfl rfl rfl
end Go.Proofs.YtibedaeefnjjlaaGreat
