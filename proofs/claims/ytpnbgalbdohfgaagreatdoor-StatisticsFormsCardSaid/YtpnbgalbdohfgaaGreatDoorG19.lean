/- Texts of the second layer in one: Wr6 Tx13 Base Cm2 Sy. -/
import Derived.Test.YtpnbgalbdohfgaaGreatDoorG16
import Derived.Test.YtpnbgalbdohfgaaGreatDoorG18
import Derived.Test.YtpnbgalbdohfgaaGreatDoorG13
import Derived.Test.YtpnbgalbdohfgaaGreatDoorProg
import Derived.WalkKit
import Derived.WalkSpells
import Derived.WalkLawsBesides
import Derived.Laws.BitsAllLaws
import Derived.Laws.Rows
import Derived.Laws.OwnMore
import Derived.Lib.Hide
import Derived.KernelRfl
import Derived.Below
import Derived.Deep.AppendLies
import Derived.Deep.Draws
import Derived.Test.YtpnbgalbdohfgaaGreatDoorG10
import Derived.Test.YtpnbgalbdohfgaaGreatDoorG11
import Derived.Deep.SlicePairs
set_option maxHeartbeats 8000000
set_option maxRecDepth 100000
set_option linter.unusedVariables false
set_option linter.unusedSimpArgs false
namespace Go.Proofs.YtpnbgalbdohfgaaGreatDoor
open Go.RowKit Go.Ab Go.Wd
theorem zin {n : Nat} : (wns (tw n)).length = 0 ↔ n = 0 := by
 rw [zaY]
 constructor
 ·intro h
  rcases Nat.eq_zero_or_pos n with h' | h'
  ·exact h'
  ·rw [zeq (by omega)] at h; simp at h
 ·intro h; subst h; rw [zb7]; rfl
theorem zlV (b : Bool) (n : Nat) (hn : n < B64 ^ 4) : zaq Tryz.prog 75 [wd b n] [] (.r (.v (.bool (vW b n)))) [] := by
 have cO := of_m b n hn
 have h0 := zin (n := n)
 have hT : n = 0 → b = true → false = vW b n := fun h g => by subst h g; rfl
 have hF : n ≠ 0 → true = vW b n := fun h => by unfold vW; rw [decide_eq_true h]; simp
 cases b with
 | false =>
  refine zaw Tryz.func75 rfl (Nat.le_of_ble_eq_true rfl) rfl rfl ?_
  (repeat' (first | refine zae ?_ | (refine is_f 27 ?_; refine zaf (cO) ?_) | (refine zab (fun hb => ?_) (fun hb => ?_) <;> (try (exfalso; omega))) | fail))
  all_goals exact ret1 [] (.bool rfl) rfl rfl rfl
 | true =>
  by_cases h : n = 0
  ·have hl := h0.2 h
   refine zaw Tryz.func75 rfl (Nat.le_of_ble_eq_true rfl) rfl rfl ?_
   (repeat' (first | refine zae ?_ | (refine is_f 27 ?_; refine zaf (cO) ?_) | (refine zab (fun hb => ?_) (fun hb => ?_) <;> (try (exfalso; omega))) | fail))
   all_goals (first | (exfalso; omega) | exact ret1 [] (.bool (hT h rfl)) rfl rfl rfl)
  ·have hl : ¬ (wns (tw n)).length = 0 := fun g => h (h0.1 g)
   refine zaw Tryz.func75 rfl (Nat.le_of_ble_eq_true rfl) rfl rfl ?_
   (repeat' (first | refine zae ?_ | (refine is_f 27 ?_; refine zaf (cO) ?_) | (refine zab (fun hb => ?_) (fun hb => ?_) <;> (try (exfalso; omega))) | fail))
   all_goals (first | (exfalso; omega) | exact ret1 [] (.bool (hF h)) rfl rfl rfl)
theorem ziu (b : Bool) (n : Nat) (hn : n < B64 ^ 4) : zaq Tryz.prog 48 [wd b n] [] (wz (zb b n)) [] := by
 have cV := zlV b n hn
 rw [zk3]
 unfold vW at cV
 by_cases h : b = true ∧ n = 0
 ·obtain ⟨rfl, rfl⟩ := h
  refine zaw Tryz.func48 rfl (Nat.le_of_ble_eq_true rfl) rfl rfl ?_
  (repeat' (first | refine zae ?_ | (refine is_f 75 ?_; refine zaf (cV) ?_) | (refine zab (fun hb => ?_) (fun hb => ?_) <;> (try (exfalso; omega))) | fail))
  all_goals (first | (exfalso; omega) | exact zcL [] (Rt.wd false 0) rfl rfl rfl rfl (zan rfl) rfl)
 ·have e1 : (!b || decide (n ≠ 0)) = true := by
   cases b with
   | false => rfl
   | true => simp only [Bool.not_true, Bool.false_or, decide_eq_true_eq]; exact fun h' => h ⟨rfl, h'⟩
  have e2 : (b && decide (n ≠ 0)) = b := by
   cases b with
   | false => rfl
   | true => simp only [Bool.true_and, decide_eq_true_eq]; exact fun h' => h ⟨rfl, h'⟩
  rw [e1] at cV
  rw [e2]
  refine zaw Tryz.func48 rfl (Nat.le_of_ble_eq_true rfl) rfl rfl ?_
  (repeat' (first | refine zae ?_ | (refine is_f 75 ?_; refine zaf (cV) ?_) | (refine zab (fun hb => ?_) (fun hb => ?_) <;> (try (exfalso; omega))) | fail))
  all_goals (first | (exfalso; omega) | exact zcL [] (Rt.wd b n) rfl rfl rfl rfl (zan rfl) rfl)
theorem zoi (z : Int) : zb (decide (z < 0)) z.natAbs = z := by
 unfold zb
 by_cases h : z < 0
 ·rw [decide_eq_true h, if_pos rfl]; omega
 ·rw [decide_eq_false h, if_neg (by simp)]; omega
theorem zea (z : Int) (hz : z.natAbs < B64 ^ 4) : zaq Tryz.prog 48 [wz z] [] (wz z) [] := by
 have h := ziu (decide (z < 0)) z.natAbs hz
 rw [zoi] at h
 exact h
theorem zb8 (b : Bool) (n : Nat) (hn : n < B64 ^ 4) : zaq Tryz.prog 26 [.r (.v (.bool b)), .r (.sl 1 (wns (tw n)))] [] (.tu [wz (zb b n), .r (.v (.bool true))]) [] := by
 rw [zk3]; exact zn1 b n hn
theorem znQ (v : Int) (hv : I64 v) : zaq Tryz.prog 18 [.r (.v (.int .i64 v))] [] (wz v) [] := by
 have hv2 : -9223372036854775808 ≤ v ∧ v < 9223372036854775808 := hv
 rcases zcb v with ⟨n, rfl⟩ | ⟨n, hn, rfl⟩
 ·rw [zaR]
  have h0 : IntKind.u64.wrap (n : Int) = ((n % B64 : Nat) : Int) := by rw [IntKind.wrap_u64]; unfold B64; omega
  have h1 : n / B64 = 0 := by unfold B64; omega
  have h2 : wd false n = .ag [.r (.v (.bool false)), .r (.v (.int .u64 ((n % B64 : Nat) : Int))), .r (.v (.int .u64 0)), .r (.v (.int .u64 0)), .r (.v (.int .u64 0))] := by
   unfold wd; rw [h1]; rfl
  refine zaw Tryz.func18 rfl (Nat.le_of_ble_eq_true rfl) rfl rfl ?_
  (repeat' (first | refine zae ?_ | (refine zab (fun hb => ?_) (fun hb => ?_) <;> (try (exfalso; omega))) | fail))
  all_goals (first | (exfalso; omega) | (rw [h2]; exact zcL [] (.ag _ _ _ (Rt.agR [.v (.bool false), .v (.int .u64 ((n % B64 : Nat) : Int)), .v (.int .u64 0), .v (.int .u64 0), .v (.int .u64 0)])) rfl rfl rfl rfl (zan rfl) rfl))
 ·rw [zbd n hn]
  have h0 : IntKind.u64.wrap (-(n : Int)) = 18446744073709551616 - (n : Int) := by rw [IntKind.wrap_u64]; omega
  have hneg : IntKind.u64.wrap (0 - (18446744073709551616 - (n : Int))) = ((n % B64 : Nat) : Int) := by rw [IntKind.wrap_u64]; unfold B64; omega
  have h1 : n / B64 = 0 := by unfold B64; omega
  have h2 : wd true n = .ag [.r (.v (.bool true)), .r (.v (.int .u64 ((n % B64 : Nat) : Int))), .r (.v (.int .u64 0)), .r (.v (.int .u64 0)), .r (.v (.int .u64 0))] := by
   unfold wd; rw [h1]; rfl
  refine zaw Tryz.func18 rfl (Nat.le_of_ble_eq_true rfl) rfl rfl ?_
  (repeat' (first | refine zae ?_ | (refine zab (fun hb => ?_) (fun hb => ?_) <;> (try (exfalso; omega))) | fail))
  all_goals (first | (exfalso; omega) | (rw [h2]; exact zcL [] (.ag _ _ _ (Rt.agR [.v (.bool true), .v (.int .u64 ((n % B64 : Nat) : Int)), .v (.int .u64 0), .v (.int .u64 0), .v (.int .u64 0)])) rfl rfl rfl rfl (zan rfl) rfl))
theorem znP (n : Nat) (hn : n < B64) : zaq Tryz.prog 34 [.r (.v (.int .u64 (n : Int)))] [] (wz (n : Int)) [] := by
 rw [zaR]
 have h1 : n / B64 = 0 := by unfold B64 at *; omega
 have h0 : n % B64 = n := Nat.mod_eq_of_lt hn
 have h2 : wd false n = .ag [.r (.v (.bool false)), .r (.v (.int .u64 (n : Int))), .r (.v (.int .u64 0)), .r (.v (.int .u64 0)), .r (.v (.int .u64 0))] := by
  unfold wd; rw [h1, h0]; rfl
 rw [h2]
 refine zaw Tryz.func34 rfl (Nat.le_of_ble_eq_true rfl) rfl rfl ?_
 (repeat' (first | refine zae ?_ | (refine zab (fun hb => ?_) (fun hb => ?_) <;> (try (exfalso; omega))) | fail))
 all_goals exact zcL [] (.ag _ _ _ (Rt.agR [.v (.bool false), .v (.int .u64 (n : Int)), .v (.int .u64 0), .v (.int .u64 0), .v (.int .u64 0)])) rfl rfl rfl rfl (zan rfl) rfl
theorem zkw (z : Int) (hz : z.natAbs < B64 ^ 4) : zaq Tryz.prog 58 [wz z] [] (.r (.v (.int .i64 (sgZ z)))) [] := by
 rcases zcb z with ⟨n, rfl⟩ | ⟨n, hn, rfl⟩
 ·have cO := of_m false n (by simpa using hz)
  have h0 := zin (n := n)
  rw [zaR]
  have hT : (wns (tw n)).length = 0 → (0 : Int) = sgZ (n : Int) := fun h => by rw [h0.1 h]; rfl
  have hF : ¬ (wns (tw n)).length = 0 → (1 : Int) = sgZ (n : Int) := fun h => by have := fun g => h (h0.2 g); unfold sgZ; rw [if_neg (by omega), if_neg (by omega)]
  refine zaw Tryz.func58 rfl (Nat.le_of_ble_eq_true rfl) rfl rfl ?_
  (repeat' (first | refine zae ?_ | (refine is_f 27 ?_; refine zaf (cO) ?_) | (refine zab (fun hb => ?_) (fun hb => ?_) <;> (try (exfalso; omega))) | fail))
  all_goals (first | exact ret1 [] (.int (hT (by omega))) rfl rfl rfl | exact ret1 [] (.int (hF (by omega))) rfl rfl rfl)
 ·have cO := of_m true n (by simpa using hz)
  have h0 := zin (n := n)
  have hl : ¬ (wns (tw n)).length = 0 := fun g => hn (h0.1 g)
  rw [zbd n hn]
  have hT : (-1 : Int) = sgZ (-(n : Int)) := by unfold sgZ; rw [if_pos (by omega)]
  refine zaw Tryz.func58 rfl (Nat.le_of_ble_eq_true rfl) rfl rfl ?_
  (repeat' (first | refine zae ?_ | (refine is_f 27 ?_; refine zaf (cO) ?_) | (refine zab (fun hb => ?_) (fun hb => ?_) <;> (try (exfalso; omega))) | fail))
  all_goals (first | (exfalso; omega) | exact ret1 [] (.int hT) rfl rfl rfl)
theorem zl6 (z : Int) (hz : z.natAbs < B64 ^ 4) : zaq Tryz.prog 19 [wz z] [] (wz (-z)) [] := by
 rcases zcb z with ⟨n, rfl⟩ | ⟨n, hn, rfl⟩
 ·have cO := of_m false n (by simpa using hz)
  have cS := zb8 true n (by simpa using hz)
  rw [show zb true n = -(n : Int) from rfl] at cS
  rw [zaR]
  refine zaw Tryz.func19 rfl (Nat.le_of_ble_eq_true rfl) rfl rfl ?_
  (repeat' (first | refine zae ?_ | (refine is_f 27 ?_; refine zaf (cO) ?_) | (refine is_f 26 ?_; refine zaf (cS) ?_) | (refine zab (fun hb => ?_) (fun hb => ?_) <;> (try (exfalso; omega))) | fail))
  all_goals exact zcL [] (Rt.wz _) rfl rfl rfl rfl (zan rfl) rfl
 ·have cO := of_m true n (by simpa using hz)
  have cS := zb8 false n (by simpa using hz)
  rw [show zb false n = (n : Int) from rfl] at cS
  rw [zbd n hn, Int.neg_neg]
  refine zaw Tryz.func19 rfl (Nat.le_of_ble_eq_true rfl) rfl rfl ?_
  (repeat' (first | refine zae ?_ | (refine is_f 27 ?_; refine zaf (cO) ?_) | (refine is_f 26 ?_; refine zaf (cS) ?_) | (refine zab (fun hb => ?_) (fun hb => ?_) <;> (try (exfalso; omega))) | fail))
  all_goals exact zcL [] (Rt.wz _) rfl rfl rfl rfl (zan rfl) rfl
def tbv (z : Int) : Int := if z = 0 then 0 else if z = 1 then 1 else if z = 2 then 9223372036854775808 else 18446744073709551615
def wdw (t : List Int) (q : Nat) : Int × Nat := if nx t (wds t q 4).2 (4 : Nat) = 1 then (tbv (nx t (adv t (wds t q 4).2) 4), adv t (adv t (wds t q 4).2)) else ((wds t q 4).1, adv t (wds t q 4).2)
def wdg1 (t : List Int) (q : Nat) (_ b c d : Int) : (Int × Int × Int × Int) × Nat := (((wdw t q).1, b, c, d), (wdw t q).2)
def wdg2 (t : List Int) (q : Nat) (a _ c d : Int) : (Int × Int × Int × Int) × Nat := wdg1 t (wdw t q).2 a (wdw t q).1 c d
def wdg3 (t : List Int) (q : Nat) (a b _ d : Int) : (Int × Int × Int × Int) × Nat := wdg2 t (wdw t q).2 a b (wdw t q).1 d
def wdg4 (t : List Int) (q : Nat) (a b c _ : Int) : (Int × Int × Int × Int) × Nat := wdg3 t (wdw t q).2 a b c (wdw t q).1
def wdG (t : List Int) (j q : Nat) (a b c d : Int) : (Int × Int × Int × Int) × Nat :=
 if j = 0 then ((a, b, c, d), q) else if j = 1 then wdg1 t q a b c d else if j = 2 then wdg2 t q a b c d else if j = 3 then wdg3 t q a b c d else wdg4 t q a b c d
def val4 (x : Int × Int × Int × Int) : Nat := x.1.toNat + B64 * (x.2.1.toNat + B64 * (x.2.2.1.toNat + B64 * x.2.2.2.toNat))
def wd1 (t : List Int) (k : Nat) : (Int × Int × Int × Int) × Nat := wdG t (nx t k 5).toNat (adv t k) 0 0 0 0
def wd2 (t : List Int) (X : (Int × Int × Int × Int) × Nat) : Int × Nat := if nx t X.2 (3 : Nat) = 1 then ((itv t (adv t X.2)).1, (itv t (adv t X.2)).2) else ((val4 X.1 : Int), adv t X.2)
def wd3 (t : List Int) (Y : Int × Nat) : Int × Nat := if nx t Y.2 (2 : Nat) = 1 then (-Y.1, adv t Y.2) else (Y.1, adv t Y.2)
def zdq (t : List Int) (k : Nat) : Int × Nat := wd3 t (wd2 t (wd1 t k))
def Wok (x : Int) : Prop := 0 ≤ x ∧ x < 18446744073709551616
theorem zi0 (t : List Int) (q : Nat) : Wok (wdw t q).1 := by
 unfold wdw
 split
 ·unfold tbv Wok; split
  ·omega
  ·split
   ·omega
   ·split <;> omega
 ·exact wdsN t q 4
def W4ok (x : Int × Int × Int × Int) : Prop := Wok x.1 ∧ Wok x.2.1 ∧ Wok x.2.2.1 ∧ Wok x.2.2.2
theorem zn0 (t : List Int) (j q : Nat) (a b c d : Int) (h1 : Wok a) (h2 : Wok b) (h3 : Wok c) (h4 : Wok d) : W4ok (wdG t j q a b c d).1 := by
 have k1 : ∀ q a b c d, Wok b → Wok c → Wok d → W4ok (wdg1 t q a b c d).1 := fun q a b c d h2 h3 h4 => ⟨zi0 t q, h2, h3, h4⟩
 have k2 : ∀ q a b c d, Wok c → Wok d → W4ok (wdg2 t q a b c d).1 := fun q a b c d h3 h4 => k1 _ _ _ _ _ (zi0 t q) h3 h4
 have k3 : ∀ q a b c d, Wok d → W4ok (wdg3 t q a b c d).1 := fun q a b c d h4 => k2 _ _ _ _ _ (zi0 t q) h4
 have k4 : ∀ q a b c d, W4ok (wdg4 t q a b c d).1 := fun q a b c d => k3 _ _ _ _ _ (zi0 t q)
 unfold wdG
 split
 ·exact ⟨h1, h2, h3, h4⟩
 ·split
  ·exact k1 _ _ _ _ _ h2 h3 h4
  ·split
   ·exact k2 _ _ _ _ _ h3 h4
   ·split
    ·exact k3 _ _ _ _ _ h4
    ·exact k4 _ _ _ _ _
theorem zgu {a b c d : Int} (h : W4ok (a, b, c, d)) : ∃ n, n < B64 ^ 4 ∧ val4 (a, b, c, d) = n ∧ ((n % B64 : Nat) : Int) = a ∧ ((n / B64 % B64 : Nat) : Int) = b ∧ ((n / B64 / B64 % B64 : Nat) : Int) = c ∧ ((n / B64 / B64 / B64 % B64 : Nat) : Int) = d := by
 obtain ⟨h1, h2, h3, h4⟩ := h
 unfold Wok at *
 dsimp only at h1 h2 h3 h4
 refine ⟨_, ?_, rfl, ?_⟩
 ·unfold val4
  rw [zi8]
  unfold B64; dsimp only
  omega
 ·unfold val4
  dsimp only
  generalize hz : B64 = z
  have hz0 : z = 18446744073709551616 := hz.symm
  subst hz0
  refine ⟨?_, ?_, ?_, ?_⟩ <;> omega
theorem zmd (t : List Int) (k : Nat) : W4ok (wd1 t k).1 := zn0 t _ _ _ _ _ _ (by unfold Wok; omega) (by unfold Wok; omega) (by unfold Wok; omega) (by unfold Wok; omega)
theorem znZ (t : List Int) (X : (Int × Int × Int × Int) × Nat) (h : W4ok X.1) : (wd2 t X).1.natAbs < B64 ^ 4 := by
 unfold wd2
 split
 ·have := zbX t (adv t X.2)
  exact Nat.lt_of_lt_of_le (show (itv t (adv t X.2)).1.natAbs < 9223372036854775809 by omega) (by decide)
 ·obtain ⟨⟨a, b, c, d⟩, q⟩ := X
  obtain ⟨n, h1, h2, _⟩ := zgu h
  dsimp only
  rw [h2]; omega
theorem zf0 (t : List Int) (k : Nat) : (zdq t k).1.natAbs < B64 ^ 4 := by
 have h := znZ t _ (zmd t k)
 unfold zdq wd3
 split
 ·dsimp only; rw [Int.natAbs_neg]; exact h
 ·exact h
def wdS (t : List Int) (i q : Nat) (a b c d : Int) : St :=
 ⟨[(0, .pt 0 0), (2, .pt 1 0), (3, .pt 2 0), (4, .r (.v (.int .i64 (i : Int))))], [(0, some (tb t q)), (1, some (.var 26 [.r (.v (.bool false)), .r (.v (.int .u64 0)), .r (.v (.int .u64 0)), .r (.v (.int .u64 0)), .r (.v (.int .u64 0))])), (2, some (.var 26 [.r (.v (.bool false)), .r (.v (.int .u64 a)), .r (.v (.int .u64 b)), .r (.v (.int .u64 c)), .r (.v (.int .u64 d))]))], 3⟩
theorem zhc (t : List Int) (k : Nat) (ht : Ints t) (htn : t.length ≤ 140737488351232) : zaq Tryz.prog 8 [.pt 0 0] [tb t k] (wz (zdq t k).1) [some (tb t (zdq t k).2)] := by
 refine zaw Tryz.func8 rfl (Nat.le_of_ble_eq_true rfl) rfl rfl ?_
 have h5 := zaB t k (show (1 : Int) ≤ 5 by omega)
 have hW4 := zmd t k
 have hWd : wd1 t k = wd1 t k := rfl
 unfold zdq
 generalize hX : wd1 t k = X at hWd hW4 ⊢
 unfold wd1 at hX
 (repeat' (first | refine zao ?_ | (refine is_f 7 ?_; refine zaz (zaZ t k 5 ht htn (by omega)) ?_) | (refine zab (fun hb => ?_) (fun hb => ?_) <;> (try (exfalso; omega))) | fail))
 have e5 : ((nx t k 5).toNat : Int) = nx t k 5 := by omega
 have l5 : (nx t k 5).toNat ≤ 4 := by omega
 generalize (nx t k 5).toNat = i5 at *
 rw [← e5]
 clear e5 h5
 refine zap (fun x : Nat × Nat × Int × Int × Int × Int => wdS t x.1 x.2.1 x.2.2.1 x.2.2.2.1 x.2.2.2.2.1 x.2.2.2.2.2) (fun x => x.1 ≤ 4 ∧ wdG t x.1 x.2.1 x.2.2.1 x.2.2.2.1 x.2.2.2.2.1 x.2.2.2.2.2 = X) (fun x => x.1) (i5, adv t k, 0, 0, 0, 0) ⟨l5, hX⟩ (by (refine Le.mk [(0,0),(1,1),(2,2)] [] zai zaK zaS zah)) fun x hx => ?_
 obtain ⟨i, q, a, b, c, d⟩ := x
 obtain ⟨hi, hx⟩ := hx
 dsimp only at hi hx
 clear hX l5 i5 hWd
 change awp _ _ _ _ _ (wdS t i q a b c d)
 have cN := zaZ t (adv t (wds t q 4).2) 4 ht htn (by omega)
 have cB := zbF t (wds t q 4).2 4 (by omega) (by omega) ht htn
 have cW := zgz t q ht htn
 have hcs : i = 0 ∨ i = 1 ∨ i = 2 ∨ i = 3 ∨ i = 4 := by omega
 rcases Nat.eq_zero_or_pos i with h0 | hpos
 ·subst h0
  clear cN cB cW hcs hi
  have hx : ((a, b, c, d), q) = X := hx
  subst hx
  obtain ⟨n, hn, hv4, rfl, rfl, rfl, rfl⟩ := zgu hW4
  clear hW4
  have cB3 := zbF t q 3 (by omega) (by omega) ht htn
  by_cases h3 : nx t q (3 : Nat) = 1
  ·have hY : wd2 t ((((n % B64 : Nat) : Int), ((n / B64 % B64 : Nat) : Int), ((n / B64 / B64 % B64 : Nat) : Int), ((n / B64 / B64 / B64 % B64 : Nat) : Int)), q) = ((itv t (adv t q)).1, (itv t (adv t q)).2) := if_pos h3
   rw [hY]
   clear hY hv4
   have cI := zj3 t (adv t q) ht htn
   have hri := zbX t (adv t q)
   have cO := znQ (itv t (adv t q)).1 ⟨hri.1, by have := hri.2; omega⟩
   have hzl : (itv t (adv t q)).1.natAbs < B64 ^ 4 := Nat.lt_of_lt_of_le (show (itv t (adv t q)).1.natAbs < 9223372036854775809 by omega) (by decide)
   generalize (itv t (adv t q)).1 = z at *
   generalize (itv t (adv t q)).2 = q2 at *
   have cB2 := zbF t q2 2 (by omega) (by omega) ht htn
   have cNg := zl6 z hzl
   by_cases h2 : nx t q2 (2 : Nat) = 1
   ·have hZ : wd3 t (z, q2) = (-z, adv t q2) := if_pos h2
    rw [hZ]
    generalize -z = y at *
    dsimp only
    unfold wz wd at cO cNg
    (repeat' (first | refine zao ?_ | (refine is_f 15 ?_; refine zaz (cB3) ?_) | (refine is_f 14 ?_; refine zaz (cI) ?_) | (refine is_f 18 ?_; refine zav (cO) ?_) | (refine is_f 15 ?_; refine zaz (cB2) ?_) | (refine is_f 19 ?_; refine zav (cNg) ?_) | (refine zab (fun hb => ?_) (fun hb => ?_) <;> (try (exfalso; omega))) | fail))
    all_goals (first | exact absurd h3 (by assumption) | exact absurd h2 (by assumption) | (exfalso; omega) | exact zcL [] (Rt.wz _) rfl rfl rfl rfl (zaF rfl rfl) rfl)
   ·have hZ : wd3 t (z, q2) = (z, adv t q2) := if_neg h2
    rw [hZ]
    clear cNg
    dsimp only
    unfold wz wd at cO
    (repeat' (first | refine zao ?_ | (refine is_f 15 ?_; refine zaz (cB3) ?_) | (refine is_f 14 ?_; refine zaz (cI) ?_) | (refine is_f 18 ?_; refine zav (cO) ?_) | (refine is_f 15 ?_; refine zaz (cB2) ?_) | (refine zab (fun hb => ?_) (fun hb => ?_) <;> (try (exfalso; omega))) | fail))
    all_goals (first | exact absurd h3 (by assumption) | exact absurd (by assumption) h2 | (exfalso; omega) | exact zcL [] (Rt.wz _) rfl rfl rfl rfl (zaF rfl rfl) rfl)
  ·have hY : wd2 t ((((n % B64 : Nat) : Int), ((n / B64 % B64 : Nat) : Int), ((n / B64 / B64 % B64 : Nat) : Int), ((n / B64 / B64 / B64 % B64 : Nat) : Int)), q) = ((n : Int), adv t q) := (if_neg h3).trans (by rw [hv4])
   rw [hY]
   clear hY hv4
   generalize adv t q = q2 at *
   have cB2 := zbF t q2 2 (by omega) (by omega) ht htn
   have cNg := zl6 (n : Int) (by omega)
   rw [zaR] at cNg
   by_cases h2 : nx t q2 (2 : Nat) = 1
   ·have hZ : wd3 t ((n : Int), q2) = (-(n : Int), adv t q2) := if_pos h2
    rw [hZ]
    generalize -(n : Int) = y at *
    dsimp only
    unfold wz wd at cNg
    (repeat' (first | refine zao ?_ | (refine is_f 15 ?_; refine zaz (cB3) ?_) | (refine is_f 15 ?_; refine zaz (cB2) ?_) | (refine is_f 19 ?_; refine zav (cNg) ?_) | (refine zab (fun hb => ?_) (fun hb => ?_) <;> (try (exfalso; omega))) | fail))
    all_goals (first | exact absurd (by assumption) h3 | exact absurd h2 (by assumption) | (exfalso; omega) | exact zcL [] (Rt.wz _) rfl rfl rfl rfl (zaF rfl rfl) rfl)
   ·have hZ : wd3 t ((n : Int), q2) = ((n : Int), adv t q2) := if_neg h2
    rw [hZ]
    clear cNg
    dsimp only
    rw [zaR]
    (repeat' (first | refine zao ?_ | (refine is_f 15 ?_; refine zaz (cB3) ?_) | (refine is_f 15 ?_; refine zaz (cB2) ?_) | (refine zab (fun hb => ?_) (fun hb => ?_) <;> (try (exfalso; omega))) | fail))
    all_goals (first | exact absurd (by assumption) h3 | exact absurd (by assumption) h2 | (exfalso; omega) | exact zcL [] (Rt.wd false n) rfl rfl rfl rfl (zaF rfl rfl) rfl)
 ·have hw1 : nx t (wds t q 4).2 (4 : Nat) = 1 → wdw t q = (tbv (nx t (adv t (wds t q 4).2) 4), adv t (adv t (wds t q 4).2)) := fun h => by unfold wdw; rw [if_pos h]
  have hw2 : ¬ nx t (wds t q 4).2 (4 : Nat) = 1 → wdw t q = ((wds t q 4).1, adv t (wds t q 4).2) := fun h => by unfold wdw; rw [if_neg h]
  have n4 := zaB t (adv t (wds t q 4).2) (show (1 : Int) ≤ 4 by omega)
  generalize nx t (adv t (wds t q 4).2) 4 = v at *
  obtain ⟨m, rfl⟩ : ∃ m : Nat, v = (m : Int) := ⟨v.toNat, by omega⟩
  have hm4 : m = 0 ∨ m = 1 ∨ m = 2 ∨ m = 3 := by omega
  have hget : ([[.v (.int .u64 0)], [.v (.int .u64 1)], [.v (.int .u64 9223372036854775808)], [.v (.int .u64 18446744073709551615)]] : List (List RV))[m]? = some [.v (.int .u64 (tbv (m : Int)))] := by
   rcases hm4 with rfl | rfl | rfl | rfl <;> rfl
  generalize tbv (m : Int) = tv at *
  generalize (wds t q 4).1 = wv at *
  generalize (wds t q 4).2 = q1 at *
  rcases hcs with rfl | rfl | rfl | rfl | rfl
  ·omega
  ·change awp _ _ _ _ _ (⟨[(0, .pt 0 0), (2, .pt 1 0), (3, .pt 2 0), (4, .r (.v (.int .i64 1)))], [(0, some (tb t q)), (1, some (.var 26 [.r (.v (.bool false)), .r (.v (.int .u64 0)), .r (.v (.int .u64 0)), .r (.v (.int .u64 0)), .r (.v (.int .u64 0))])), (2, some (.var 26 [.r (.v (.bool false)), .r (.v (.int .u64 a)), .r (.v (.int .u64 b)), .r (.v (.int .u64 c)), .r (.v (.int .u64 d))]))], 3⟩)
   have hx : wdG t 0 (wdw t q).2 (wdw t q).1 b c d = X := hx
   by_cases hb4 : nx t q1 (4 : Nat) = 1
   ·rw [hw1 hb4] at hx
    clear hw1 hw2
    (repeat' (first | refine zao ?_ | (refine is_f 17 ?_; refine zaz (cW) ?_) | (refine is_f 15 ?_; refine zaz (cB) ?_) | (refine is_f 7 ?_; refine zaz (cN) ?_) | (refine zab (fun hb => ?_) (fun hb => ?_) <;> (try (exfalso; omega))) | fail))
    all_goals (first | exact absurd hb4 (by assumption) | exact ⟨(0, adv t (adv t q1), tv, b, c, d), ⟨by show 0 ≤ 4; omega, hx⟩, by show Le _ _ (wdS t 0 (adv t (adv t q1)) tv b c d); (refine Le.mk [(0,0),(1,1),(2,2)] [] zai zaK zaS zah), by show 0 < 1; omega⟩)
   ·rw [hw2 hb4] at hx
    clear hw1 hw2
    (repeat' (first | refine zao ?_ | (refine is_f 17 ?_; refine zaz (cW) ?_) | (refine is_f 15 ?_; refine zaz (cB) ?_) | (refine zab (fun hb => ?_) (fun hb => ?_) <;> (try (exfalso; omega))) | fail))
    all_goals (first | exact absurd (by assumption) hb4 | exact ⟨(0, adv t q1, wv, b, c, d), ⟨by show 0 ≤ 4; omega, hx⟩, by show Le _ _ (wdS t 0 (adv t q1) wv b c d); (refine Le.mk [(0,0),(1,1),(2,2)] [] zai zaK zaS zah), by show 0 < 1; omega⟩)
  ·change awp _ _ _ _ _ (⟨[(0, .pt 0 0), (2, .pt 1 0), (3, .pt 2 0), (4, .r (.v (.int .i64 2)))], [(0, some (tb t q)), (1, some (.var 26 [.r (.v (.bool false)), .r (.v (.int .u64 0)), .r (.v (.int .u64 0)), .r (.v (.int .u64 0)), .r (.v (.int .u64 0))])), (2, some (.var 26 [.r (.v (.bool false)), .r (.v (.int .u64 a)), .r (.v (.int .u64 b)), .r (.v (.int .u64 c)), .r (.v (.int .u64 d))]))], 3⟩)
   have hx : wdG t 1 (wdw t q).2 a (wdw t q).1 c d = X := hx
   by_cases hb4 : nx t q1 (4 : Nat) = 1
   ·rw [hw1 hb4] at hx
    clear hw1 hw2
    (repeat' (first | refine zao ?_ | (refine is_f 17 ?_; refine zaz (cW) ?_) | (refine is_f 15 ?_; refine zaz (cB) ?_) | (refine is_f 7 ?_; refine zaz (cN) ?_) | (refine zab (fun hb => ?_) (fun hb => ?_) <;> (try (exfalso; omega))) | fail))
    all_goals (first | exact absurd hb4 (by assumption) | exact ⟨(1, adv t (adv t q1), a, tv, c, d), ⟨by show 1 ≤ 4; omega, hx⟩, by show Le _ _ (wdS t 1 (adv t (adv t q1)) a tv c d); (refine Le.mk [(0,0),(1,1),(2,2)] [] zai zaK zaS zah), by show 1 < 2; omega⟩)
   ·rw [hw2 hb4] at hx
    clear hw1 hw2
    (repeat' (first | refine zao ?_ | (refine is_f 17 ?_; refine zaz (cW) ?_) | (refine is_f 15 ?_; refine zaz (cB) ?_) | (refine zab (fun hb => ?_) (fun hb => ?_) <;> (try (exfalso; omega))) | fail))
    all_goals (first | exact absurd (by assumption) hb4 | exact ⟨(1, adv t q1, a, wv, c, d), ⟨by show 1 ≤ 4; omega, hx⟩, by show Le _ _ (wdS t 1 (adv t q1) a wv c d); (refine Le.mk [(0,0),(1,1),(2,2)] [] zai zaK zaS zah), by show 1 < 2; omega⟩)
  ·change awp _ _ _ _ _ (⟨[(0, .pt 0 0), (2, .pt 1 0), (3, .pt 2 0), (4, .r (.v (.int .i64 3)))], [(0, some (tb t q)), (1, some (.var 26 [.r (.v (.bool false)), .r (.v (.int .u64 0)), .r (.v (.int .u64 0)), .r (.v (.int .u64 0)), .r (.v (.int .u64 0))])), (2, some (.var 26 [.r (.v (.bool false)), .r (.v (.int .u64 a)), .r (.v (.int .u64 b)), .r (.v (.int .u64 c)), .r (.v (.int .u64 d))]))], 3⟩)
   have hx : wdG t 2 (wdw t q).2 a b (wdw t q).1 d = X := hx
   by_cases hb4 : nx t q1 (4 : Nat) = 1
   ·rw [hw1 hb4] at hx
    clear hw1 hw2
    (repeat' (first | refine zao ?_ | (refine is_f 17 ?_; refine zaz (cW) ?_) | (refine is_f 15 ?_; refine zaz (cB) ?_) | (refine is_f 7 ?_; refine zaz (cN) ?_) | (refine zab (fun hb => ?_) (fun hb => ?_) <;> (try (exfalso; omega))) | fail))
    all_goals (first | exact absurd hb4 (by assumption) | exact ⟨(2, adv t (adv t q1), a, b, tv, d), ⟨by show 2 ≤ 4; omega, hx⟩, by show Le _ _ (wdS t 2 (adv t (adv t q1)) a b tv d); (refine Le.mk [(0,0),(1,1),(2,2)] [] zai zaK zaS zah), by show 2 < 3; omega⟩)
   ·rw [hw2 hb4] at hx
    clear hw1 hw2
    (repeat' (first | refine zao ?_ | (refine is_f 17 ?_; refine zaz (cW) ?_) | (refine is_f 15 ?_; refine zaz (cB) ?_) | (refine zab (fun hb => ?_) (fun hb => ?_) <;> (try (exfalso; omega))) | fail))
    all_goals (first | exact absurd (by assumption) hb4 | exact ⟨(2, adv t q1, a, b, wv, d), ⟨by show 2 ≤ 4; omega, hx⟩, by show Le _ _ (wdS t 2 (adv t q1) a b wv d); (refine Le.mk [(0,0),(1,1),(2,2)] [] zai zaK zaS zah), by show 2 < 3; omega⟩)
  ·change awp _ _ _ _ _ (⟨[(0, .pt 0 0), (2, .pt 1 0), (3, .pt 2 0), (4, .r (.v (.int .i64 4)))], [(0, some (tb t q)), (1, some (.var 26 [.r (.v (.bool false)), .r (.v (.int .u64 0)), .r (.v (.int .u64 0)), .r (.v (.int .u64 0)), .r (.v (.int .u64 0))])), (2, some (.var 26 [.r (.v (.bool false)), .r (.v (.int .u64 a)), .r (.v (.int .u64 b)), .r (.v (.int .u64 c)), .r (.v (.int .u64 d))]))], 3⟩)
   have hx : wdG t 3 (wdw t q).2 a b c (wdw t q).1 = X := hx
   by_cases hb4 : nx t q1 (4 : Nat) = 1
   ·rw [hw1 hb4] at hx
    clear hw1 hw2
    (repeat' (first | refine zao ?_ | (refine is_f 17 ?_; refine zaz (cW) ?_) | (refine is_f 15 ?_; refine zaz (cB) ?_) | (refine is_f 7 ?_; refine zaz (cN) ?_) | (refine zab (fun hb => ?_) (fun hb => ?_) <;> (try (exfalso; omega))) | fail))
    all_goals (first | exact absurd hb4 (by assumption) | exact ⟨(3, adv t (adv t q1), a, b, c, tv), ⟨by show 3 ≤ 4; omega, hx⟩, by show Le _ _ (wdS t 3 (adv t (adv t q1)) a b c tv); (refine Le.mk [(0,0),(1,1),(2,2)] [] zai zaK zaS zah), by show 3 < 4; omega⟩)
   ·rw [hw2 hb4] at hx
    clear hw1 hw2
    (repeat' (first | refine zao ?_ | (refine is_f 17 ?_; refine zaz (cW) ?_) | (refine is_f 15 ?_; refine zaz (cB) ?_) | (refine zab (fun hb => ?_) (fun hb => ?_) <;> (try (exfalso; omega))) | fail))
    all_goals (first | exact absurd (by assumption) hb4 | exact ⟨(3, adv t q1, a, b, c, wv), ⟨by show 3 ≤ 4; omega, hx⟩, by show Le _ _ (wdS t 3 (adv t q1) a b c wv); (refine Le.mk [(0,0),(1,1),(2,2)] [] zai zaK zaS zah), by show 3 < 4; omega⟩)
end Go.Proofs.YtpnbgalbdohfgaaGreatDoor
namespace Go.Proofs.YtpnbgalbdohfgaaGreatDoor
open Go.RowKit
def bv (l : List UInt8) : List Value := l.map fun b => .int .u8 (b.toNat : Int)
theorem zjG (l : List UInt8) : (bv l).length = l.length := by simp [bv]
theorem znp (l : List UInt8) (k : Nat) (h : k < l.length) : (bv l)[k]? = some (.int .u8 ((l[k]'h).toNat : Int)) := by simp [bv, h]
theorem zmk (a : List UInt8) (k : Nat) : bv (a.take k) = (bv a).take k := by simp [bv, List.map_take]
def Rd (w : World) (size : Nat) (A : Option Addr) (n : Nat) (vs : List Value) : Prop :=
 vs.length = n * size ∧ (0 < n → ∃ ad, A = some ad ∧ ∀ j u, vs[j]? = some u → w.cell? (ad.add j) = some u)
theorem zhQ (a : Addr) (i j : Nat) : (a.add i).add j = a.add (i + j) := by
 unfold Addr.add
 by_cases hi : i = 0 <;> by_cases hj : j = 0 <;> simp [hi, hj, Nat.add_assoc]
theorem za9 (a : Addr) (n : Nat) : (a.add n).block = a.block := by unfold Addr.add; split <;> rfl
section
variable {w w' : World} {size n : Nat} {A : Option Addr} {vs : List Value}
theorem Rd.nil : Rd w size A 0 [] := ⟨by simp, fun h => absurd h (by omega)⟩
theorem Rd.keep (h : Rd w size A n vs) (hk : ∀ p : Addr, p.block < w.heap.size → w'.cell? p = w.cell? p) : Rd w' size A n vs :=
 ⟨h.1, fun hn => by
  obtain ⟨ad, e, hc⟩ := h.2 hn
  exact ⟨ad, e, fun j u hu => (hk _ (block_lt_of_cell (hc j u hu))).trans (hc j u hu)⟩⟩
theorem Rd.below (h : Rd w size A n vs) (hb : Below w.heap.size w w') : Rd w' size A n vs := h.keep fun _ hp => hb.cell hp
theorem Rd.drew (h : Rd w size A n vs) : Rd w.drew size A n vs := h
theorem Rd.drewN (h : Rd w size A n vs) (k : Nat) : Rd (w.drewN k) size A n vs := h
theorem Rd.alloc (h : Rd w size A n vs) (o : Obj) : Rd (w.alloc o) size A n vs := h.keep fun p hp => World.cell?_alloc_lt w o p hp
theorem Rd.lt (h : Rd w 1 A n vs) (hn : 0 < n) (ad : Addr) (e : A = some ad) : ad.block < w.heap.size := by
 obtain ⟨ad', e', hc⟩ := h.2 hn
 rw [e] at e'
 injection e' with e'
 subst e'
 have hl : 0 < vs.length := by have := h.1; omega
 have h1 := block_lt_of_cell (hc 0 _ (List.getElem?_eq_getElem hl))
 rwa [za9] at h1
theorem Rd.at_ {k : Nat} (h : Rd w 1 A n vs) (hk : k < n) : ∃ ad u, A = some ad ∧ vs[k]? = some u ∧ w.cell? (ad.add k) = some u := by
 obtain ⟨ad, e, hc⟩ := h.2 (by omega)
 have hl : k < vs.length := by have := h.1; omega
 exact ⟨ad, vs[k], e, List.getElem?_eq_getElem hl, hc k _ (List.getElem?_eq_getElem hl)⟩
theorem Rd.byte {l : List UInt8} {k : Nat} (h : Rd w 1 A n (bv l)) (hk : k < n) : ∃ ad, ∃ hl : k < l.length, A = some ad ∧ w.cell? (ad.add k) = some (.int .u8 ((l[k]'hl).toNat : Int)) := by
 have hl : k < l.length := by have := h.1; rw [zjG] at this; omega
 obtain ⟨ad, u, e, hu, hc⟩ := h.at_ hk
 rw [znp l k hl] at hu
 injection hu with hu
 exact ⟨ad, hl, e, by rw [hc, ← hu]⟩
theorem Rd.len {l : List UInt8} (h : Rd w 1 A n (bv l)) : n = l.length := by have := h.1; rw [zjG] at this; omega
theorem Rd.cut (h : Rd w size A n vs) {k m cap : Nat} (hk : k ≤ m) (hm : m ≤ n) (hc : n ≤ cap) :
  Rd w size (if cap = k then A else A.map (·.add (k * size))) (m - k) ((vs.drop (k * size)).take ((m - k) * size)) := by
 have h1 := h.1
 have hms : m * size ≤ n * size := Nat.mul_le_mul_right _ hm
 have hks : k * size ≤ m * size := Nat.mul_le_mul_right _ hk
 refine ⟨by rw [List.length_take, List.length_drop, h1, Nat.sub_mul]; omega, fun hn => ?_⟩
 obtain ⟨ad, rfl, hcell⟩ := h.2 (by omega)
 rw [if_neg (by omega)]
 refine ⟨ad.add (k * size), rfl, fun j u hu => ?_⟩
 rw [zhQ]
 refine hcell _ u ?_
 rw [List.getElem?_take] at hu
 split at hu
 ·rwa [List.getElem?_drop] at hu
 ·cases hu
theorem Rd.pre {l : List UInt8} (h : Rd w 1 A n (bv l)) (m : Nat) (hm : m ≤ n) : Rd w 1 A m (bv (l.take m)) := by
 have hl := h.len
 refine ⟨by rw [zjG, List.length_take]; omega, fun hn => ?_⟩
 obtain ⟨ad, rfl, hcell⟩ := h.2 (by omega)
 refine ⟨ad, rfl, fun j u hu => ?_⟩
 refine hcell _ u ?_
 rw [zmk, List.getElem?_take] at hu
 split at hu
 ·exact hu
 ·cases hu
end
def IsRow (k : IntKind) (w : World) (a : Option Addr) (len cap : Nat) (zs : List Int) : Prop :=
 (a = none ∧ len = 0 ∧ cap = 0 ∧ zs = []) ∨
 ∃ x, a = some x ∧ len ≤ cap ∧ cap ≤ maxLen ∧ zs.length = cap ∧ (∀ i, i < zs.length → w.cell? (x.add i) = some (.int k (zs.getD i 0))) ∧ ∀ n ∈ zs, (Lit.int k n).wf = true
theorem zi2 {k : IntKind} {x : Int} (h : (Lit.int k x).wf = true) : k.min ≤ x ∧ x ≤ k.max := by
 simpa [Lit.wf] using h
theorem zog {x : Int} (h : (Lit.int .u8 x).wf = true) : 0 ≤ x ∧ x < 256 := by
 have := zi2 h
 simp [IntKind.min, IntKind.max, IntKind.signed, IntKind.bits] at this
 omega
theorem zi1 {x : Int} (h : (Lit.int .i64 x).wf = true) : -9223372036854775808 ≤ x ∧ x < 9223372036854775808 := by
 have := zi2 h
 simp [IntKind.min, IntKind.max, IntKind.signed, IntKind.bits] at this
 omega
theorem IsRow.vals {k : IntKind} {w : World} {a : Option Addr} {len cap : Nat} {zs : List Int} (h : IsRow k w a len cap zs) :
  len ≤ cap ∧ (zs.take len).length = len ∧ (∀ x ∈ zs.take len, (Lit.int k x).wf = true) ∧ Rd w 1 a len ((zs.take len).map (Value.int k)) := by
 rcases h with ⟨rfl, rfl, rfl, rfl⟩ | ⟨x, rfl, h1, h2, h3, h4, h5⟩
 ·exact ⟨Nat.le_refl _, rfl, by simp, Rd.nil⟩
 ·refine ⟨h1, by rw [List.length_take]; omega, fun y hy => h5 y (List.mem_of_mem_take hy), by rw [List.length_map, List.length_take]; omega, fun _ => ⟨x, rfl, fun j u hu => ?_⟩⟩
  rw [List.getElem?_map, List.getElem?_take] at hu
  split at hu
  ·have hj : j < zs.length := by omega
   rw [h4 j hj]
   simp [hj] at hu
   rw [← hu]
   simp [List.getD, hj]
  ·cases hu
theorem IsRow.bytes {w : World} {a : Option Addr} {len cap : Nat} {zs : List Int} (h : IsRow .u8 w a len cap zs) :
  ∃ l : List UInt8, l.length = len ∧ len ≤ cap ∧ Rd w 1 a len (bv l) := by
 obtain ⟨h1, h2, h3, h4⟩ := h.vals
 refine ⟨(zs.take len).map fun x => UInt8.ofNat x.toNat, by rw [List.length_map, h2], h1, ?_⟩
 have : bv ((zs.take len).map fun x => UInt8.ofNat x.toNat) = (zs.take len).map (Value.int .u8) := by
  rw [bv, List.map_map]
  apply List.map_congr_left
  intro x hx
  have hw := zog (h3 x hx)
  have : (((UInt8.ofNat x.toNat).toNat : Nat) : Int) = x := by
   rw [UInt8.toNat_ofNat']
   omega
  simp only [Function.comp, this]
 rw [this]
 exact h4
end Go.Proofs.YtpnbgalbdohfgaaGreatDoor
namespace Go.Proofs.YtpnbgalbdohfgaaGreatDoor
open Go.RowKit Go.Ab
def iv (l : List Int) : List Value := l.map (Value.int .i64)
theorem znC (l : List Int) : (iv l).length = l.length := by simp [iv]
theorem znB (l : List Int) (k : Nat) (h : k < l.length) : (iv l)[k]? = some (.int .i64 (l[k]'h)) := by simp [iv, h]
theorem IsRow.ints {w : World} {a : Option Addr} {len cap : Nat} {zs : List Int} (h : IsRow .i64 w a len cap zs) :
  ∃ l : List Int, l.length = len ∧ len ≤ cap ∧ Ints l ∧ Rd w 1 a len (iv l) := by
 obtain ⟨h1, h2, h3, h4⟩ := h.vals
 exact ⟨zs.take len, h2, h1, fun x hx => zi1 (h3 x hx), h4⟩
theorem zk7 {P : Program} {f : FuncId} {args : List AV} {us : List Value} {x : Value} {w : World} (h : zaq P f args [] (.r (.v x)) []) (hr : AV.reps (fun _ => undef) (fun _ => False) w args us) : Calls P f us.toArray w fun e w' => e = .returned x ∧ Below w.heap.size w w' := by
 refine (h w (fun _ => undef) (fun _ => False) 0 us (fun x h => h.elim) (Nat.zero_le _) hr (fun i b h => by simp [numd] at h) (fun i j b c h => by simp [numd] at h)).mono fun e w' ⟨v, he, Z', A⟩ => ?_
 have h1 := A.out
 simp only [zaI, AV.unfr, AV.rep, RV.rep] at h1
 subst h1
 refine ⟨he, Go.Ab.Upto.to_below (A.upto.mono fun q _ h => ?_)⟩
 obtain ⟨i, o, hi, _⟩ := h
 simp [zaI, zbq] at hi
theorem zjO (B : Nat → Prop) (w : World) : ∀ l : List Int, RVs B w (nums .i64 l).flatten (iv l)
 | [] => .nil
 | x :: l => by
  rw [nums, List.map_cons, List.flatten_cons, iv, List.map_cons]
  exact .cons rfl (by rw [RV.rep]) (zjO B w l)
end Go.Proofs.YtpnbgalbdohfgaaGreatDoor
namespace Go.Proofs.YtpnbgalbdohfgaaGreatDoor
open Go.RowKit Go.Ab Go.Deep Go.ChangeShapes
def zfn (l : List (Int × Int)) : List Value := l.flatMap fun s => [.int .i64 s.1, .int .i64 s.2]
theorem zhs (a b : List (Int × Int)) : zfn (a ++ b) = zfn a ++ zfn b := by simp [zfn]
theorem zjW (l : List (Int × Int)) : ∀ u ∈ zfn l, u.oneCell' = true := by
 intro u hu
 simp only [zfn, List.mem_flatMap, List.mem_cons, List.not_mem_nil, or_false] at hu
 obtain ⟨b, _, rfl | rfl⟩ := hu <;> rfl
theorem zkL (l : List (Int × Int)) : (smps l).flatten = (zfn l).map RV.v := by
 induction l with
 | nil => rfl
 | cons a l ih =>
  rw [show a :: l = [a] ++ l from rfl, zbi, zhs, List.flatten_append, List.map_append, ih]
  rfl
theorem zjc {B : Nat → Prop} {w : World} {es : List (List RV)} {ad : Addr} {vs : List Value} (he : es.flatten = vs.map RV.v) (h1 : ∀ u ∈ vs, u.oneCell' = true) (h : ∀ j u, vs[j]? = some u → w.cell? (ad.add j) = some u) : RV.rows B w es ad 0 := by
 rw [RV.rows_flat, RV.row_iff]
 intro k c hk
 rw [he, List.getElem?_map, Option.map_eq_some_iff] at hk
 obtain ⟨u, hu, rfl⟩ := hk
 exact ⟨u, by rw [Nat.zero_add]; exact h k u hu, h1 u (List.mem_of_getElem? hu), by rw [RV.rep]⟩
theorem zlO (l : List (Int × Int)) : ∀ e ∈ smps l, e.length = 2 := by
 intro e he
 unfold smps at he
 rw [List.mem_map] at he
 obtain ⟨s, _, rfl⟩ := he
 rfl
def IsSmp (w : World) (a : Option Addr) (len cap : Nat) (zs : List (Int × Int)) : Prop :=
 (a = none ∧ len = 0 ∧ cap = 0 ∧ zs = []) ∨
 ∃ x, a = some x ∧ len ≤ cap ∧ cap ≤ maxLen ∧ zs.length = cap ∧ (∀ i, i < cap → w.cell? (x.add (i * 2)) = some (.int .i64 (zs.getD i (0, 0)).1) ∧ w.cell? (x.add (i * 2 + 1)) = some (.int .i64 (zs.getD i (0, 0)).2)) ∧ Smp zs
theorem open_smps {H : Type} {enc : TypeId × Value → H} {w : World} {fuel : Nat} {held : Bool} {a : Option Addr} {len cap : Nat} {x : DataW H × List MemPlace} (h : DataW.trod enc Tryz.prog w 0 (fun _ => true) held fuel 22 [.slice a len cap] = some x) :
  ∃ zs, IsSmp w a len cap zs ∧ (cap = 0 ∨ ∃ el sp, x.1 = .slice el sp ∧ el.length = len ∧ sp.length = cap - len) := by
 rcases open_slice_pairs Tryz.underlying22 Tryz.underlying47 (by kernel_rfl) rfl rfl (by kernel_rfl) (by kernel_rfl) h with ⟨hcs, _⟩ | ⟨ad, n, c, m, fu, V0, V1, D0, D1, P0, P1, hcs, _, hl, hm, hmm, hx, hc⟩
 ·simp at hcs
  obtain ⟨rfl, rfl, rfl⟩ := hcs
  exact ⟨[], .inl ⟨rfl, rfl, rfl, rfl⟩, .inl rfl⟩
 ·simp at hcs
  obtain ⟨rfl, rfl, rfl⟩ := hcs
  have hmc : m = cap := by simpa using hmm
  subst hmc
  have each : ∀ i, i < m → ∃ z : Int × Int, V0 i = .int .i64 z.1 ∧ V1 i = .int .i64 z.2 ∧ I64 z.1 ∧ I64 z.2 := fun i hi => by
   obtain ⟨_, _, h0, h1⟩ := hc i hi
   obtain ⟨a, ea, _, wa⟩ := DataW.trod_int Tryz.underlying2 h0
   obtain ⟨b, eb, _, wb⟩ := DataW.trod_int Tryz.underlying2 h1
   simp at ea eb
   exact ⟨(a, b), ea, eb, zi1 wa, zi1 wb⟩
  obtain ⟨q, hq⟩ := choose_lt each
  have hg : ∀ i, i < m → ((List.range m).map q).getD i (0, 0) = q i := fun i hi => by simp [hi]
  refine ⟨(List.range m).map q, .inr ⟨ad, rfl, hl, hm, by simp, fun i hi => ?_, fun i hi => ?_⟩, .inr ⟨_, _, congrArg Prod.fst hx, by simp, by simp⟩⟩
  ·rw [hg i hi, ← (hq i hi).1, ← (hq i hi).2.1]
   exact ⟨(hc i hi).1, (hc i hi).2.1⟩
  ·have hi' : i < m := by simpa using hi
   rw [hg i hi']
   exact (hq i hi').2.2
theorem zjV (l : List (Int × Int)) (j : Nat) (u : Value) (h : (zfn l)[j]? = some u) : ∃ i, i < l.length ∧ ((j = i * 2 ∧ u = .int .i64 (l.getD i (0, 0)).1) ∨ (j = i * 2 + 1 ∧ u = .int .i64 (l.getD i (0, 0)).2)) := by
 induction l generalizing j with
 | nil => simp [zfn] at h
 | cons s l ih =>
  rw [zfn, List.flatMap_cons, ← zfn] at h
  match j, h with
  | 0, h => exact ⟨0, by simp, .inl ⟨rfl, by simpa using h.symm⟩⟩
  | 1, h => exact ⟨0, by simp, .inr ⟨rfl, by simpa using h.symm⟩⟩
  | j + 2, h =>
   obtain ⟨i, hi, hd⟩ := ih j (by simpa using h)
   refine ⟨i + 1, by simpa using hi, ?_⟩
   rcases hd with ⟨rfl, rfl⟩ | ⟨rfl, rfl⟩
   ·exact .inl ⟨by omega, by simp⟩
   ·exact .inr ⟨by omega, by simp⟩
theorem IsSmp.take {w : World} {a : Option Addr} {len cap : Nat} {zs : List (Int × Int)} (h : IsSmp w a len cap zs) : len ≤ cap ∧ cap ≤ maxLen ∧ (zs.take len).length = len ∧ Smp (zs.take len) := by
 rcases h with ⟨rfl, rfl, rfl, rfl⟩ | ⟨x, rfl, h1, h2, h3, h4, h5⟩
 ·exact ⟨Nat.le_refl _, Nat.zero_le _, rfl, fun i hi => by simp at hi⟩
 ·have hl : (zs.take len).length = len := by rw [List.length_take]; omega
  refine ⟨h1, h2, hl, fun i hi => ?_⟩
  have e : (zs.take len).getD i (0, 0) = zs.getD i (0, 0) := by simp [List.getElem?_take, show i < len by omega]
  rw [e]
  exact h5 i (by omega)
theorem zjP {B : Nat → Prop} {w : World} {a : Option Addr} {len cap : Nat} {zs : List (Int × Int)} (h : IsSmp w a len cap zs) (hB : ∀ x z, w.cell? x = some (.int .i64 z) → ¬ B x.block) : RV.rep B w (.sl 2 (smps (zs.take len))) (.slice a len cap) := by
 obtain ⟨g1, g2, g3, g4⟩ := h.take
 rw [RV.rep, za8, g3]
 refine ⟨a, cap, rfl, g1, g2, zlO _, fun hne => ?_⟩
 have hpos : 0 < len := by
  rcases Nat.eq_zero_or_pos len with h0 | h0
  ·exact absurd (List.eq_nil_of_length_eq_zero (by rw [za8]; omega)) hne
  ·exact h0
 rcases h with ⟨rfl, rfl, rfl, rfl⟩ | ⟨x, rfl, h1, h2, h3, h4, h5⟩
 ·omega
 ·have hlt : x.block < w.heap.size := by
   have := block_lt_of_cell (h4 0 (by omega)).1
   rwa [za9] at this
  have hb := hB _ _ (h4 0 (by omega)).1
  rw [za9] at hb
  refine ⟨x, rfl, hlt, hb, zjc (zkL _) (zjW _) fun j u hj => ?_⟩
  obtain ⟨i, hi, hd⟩ := zjV _ j u hj
  have e : (zs.take len).getD i (0, 0) = zs.getD i (0, 0) := by simp [List.getElem?_take, show i < len by omega]
  rw [e] at hd
  rcases hd with ⟨rfl, rfl⟩ | ⟨rfl, rfl⟩
  ·exact (h4 i (by omega)).1
  ·exact (h4 i (by omega)).2
theorem zmn {B : Nat → Prop} {w : World} {A : Option Addr} {n c : Nat} {l : List Int} (h : Rd w 1 A n (iv l)) (hn : n ≤ c) (hc : c ≤ maxLen) (hB : ∀ x z, w.cell? x = some (.int .i64 z) → ¬ B x.block) : RV.rep B w (.sl 1 (nums .i64 l)) (.slice A n c) := by
 have hl : l.length = n := by have := h.1; rw [znC] at this; omega
 rw [RV.rep, za5]
 refine ⟨A, c, by rw [hl], by omega, hc, fun e he => by simp only [nums, List.mem_map] at he; obtain ⟨b, _, rfl⟩ := he; rfl, fun hne => ?_⟩
 have hpos : 0 < n := by
  rcases Nat.eq_zero_or_pos n with h0 | h0
  ·exact absurd (List.eq_nil_of_length_eq_zero (by rw [za5]; omega)) hne
  ·exact h0
 obtain ⟨ad, e, hcell⟩ := h.2 hpos
 have h0 := hcell 0 _ (znB l 0 (by omega))
 have hlt : ad.block < w.heap.size := by
  have := block_lt_of_cell h0
  rwa [za9] at this
 have hb := hB _ _ h0
 rw [za9] at hb
 refine ⟨ad, e, hlt, hb, ?_⟩
 rw [RV.rows_flat, RV.row_vals]
 exact ⟨iv l, zjO _ _ l, fun j v hj => by rw [Nat.zero_add]; exact hcell j v hj⟩
theorem zhm {P : Program} {f : FuncId} {args : List AV} {us : List Value} {x : Value} {w : World} {g : Nat} {o : Obj} (h : zaq P f args [.gl g o] (.r (.v x)) [some (.gl g o)]) (hg : w.heap[g]? = some o) (hr : AV.reps (fun _ => .pointer (some ⟨g, 0, none⟩)) (fun q => q = g) w args us) : Calls P f us.toArray w fun e w' => e = .returned x ∧ Below w.heap.size w w' := by
 have hlt : g < w.heap.size := zbM hg
 refine (h w (fun _ => .pointer (some ⟨g, 0, none⟩)) (fun q => q = g) 1 us (fun q h => h ▸ hlt) (Nat.le_refl _) hr (fun i b h => ?_) (fun i j b c h h' => ?_)).mono fun e w' ⟨v, he, Z', A⟩ => ?_
 ·simp only [numd, List.mem_cons, List.not_mem_nil, or_false, Prod.mk.injEq] at h
  obtain ⟨rfl, rfl⟩ := h
  exact ⟨⟨rfl, hg⟩, fun q hq => by simpa [blk] using hq.symm⟩
 ·simp only [numd, List.mem_cons, List.not_mem_nil, or_false, Prod.mk.injEq] at h h'
  exact fun hij => absurd (h.1.trans h'.1.symm) hij
 ·have h1 := A.out
  simp only [zaI, AV.unfr, AV.rep, RV.rep] at h1
  subst h1
  have h2 := A.up 0 (.gl g o) (by simp [zaI, zbq])
  refine ⟨he, ⟨A.upto.os, A.upto.tape, A.upto.output, A.upto.size, fun k hk => ?_⟩⟩
  by_cases hkg : k = g
  ·subst hkg; rw [h2.2, hg]
  ·refine A.upto.block k hk fun hm => hkg ?_
   obtain ⟨i, q, _, hb⟩ := hm
   simpa [blk] using hb.symm
end Go.Proofs.YtpnbgalbdohfgaaGreatDoor
