/- Texts of the second layer in one: Tq7 Tq8 Pi1 Pi2. -/
import Derived.Test.YtibedaeefnjjlaaGreatG38
import Derived.Test.YtibedaeefnjjlaaGreatG4
import Derived.Test.YtibedaeefnjjlaaGreatG36
import Derived.Test.YtibedaeefnjjlaaGreatG23
import Derived.Test.YtibedaeefnjjlaaGreatG7
import Derived.Test.YtibedaeefnjjlaaGreatG6
set_option maxHeartbeats 8000000
set_option maxRecDepth 100000
set_option linter.unusedVariables false
set_option linter.unusedSimpArgs false
namespace Go.Proofs.YtibedaeefnjjlaaGreat
open Go.RowKit Go.Ab
def inc (l : List Int) : Bool := allR (l.length - 1) fun j => decide (l.getD j 0 < l.getD (j + 1) 0)
def dst (a b : Int) : Int := if a < b then b - a else a - b
theorem znU (a b : Int) (h : I64 a) (h' : I64 b) (hab : a ≤ b) : IntKind.u64.wrap (IntKind.u64.wrap b - IntKind.u64.wrap a) = b - a := by
 unfold I64 at h h'
 rw [u64w, u64w, u64w]; omega
theorem zoU (a b : Int) (ha : I64 a) (hb0 : I64 b) : zan Tryz.prog 58 [.r (.v (.int .i64 a)), .r (.v (.int .i64 b))] [] (.r (.v (.int .u64 (dst a b)))) [] := by
 refine zap Tryz.func58 rfl (Nat.le_of_ble_eq_true rfl) rfl rfl ?_
 by_cases h : a < b
 ·have h1 := znU a b ha hb0 (by omega)
  have h2 : b - a = dst a b := (if_pos h).symm
  (repeat' (first | refine zaV ?_ | (refine zaU (fun hb => ?_) (fun hb => ?_) <;> (try (exfalso; omega))) | fail))
  all_goals exact ret1 [] (.int h2) rfl rfl rfl
 ·have h1 := znU b a hb0 ha (by omega)
  have h2 : a - b = dst a b := (if_neg h).symm
  (repeat' (first | refine zaV ?_ | (refine zaU (fun hb => ?_) (fun hb => ?_) <;> (try (exfalso; omega))) | fail))
  all_goals exact ret1 [] (.int h2) rfl rfl rfl
def Smp (l : List (Int × Int)) : Prop := ∀ i, i < l.length → I64 (l.getD i (0, 0)).1 ∧ I64 (l.getD i (0, 0)).2
def chkS (l : List (Int × Int)) : Int := if inc (l.map Prod.fst) then 0 else 7
end Go.Proofs.YtibedaeefnjjlaaGreat
namespace Go.Proofs.YtibedaeefnjjlaaGreat
open Go.RowKit Go.Ab Go.Wd
theorem zg5 (a b : Int) (hb : 0 < b) : (Int.tmod a b ≠ 0 → a < 0 → a / b = Int.tdiv a b - 1) ∧ (Int.tmod a b = 0 → a / b = Int.tdiv a b) ∧ (¬ a < 0 → a / b = Int.tdiv a b) := by
 have h1 := Int.mul_tdiv_add_tmod a b
 refine ⟨fun hr ha => ?_, fun hr => ?_, fun ha => (Int.tdiv_eq_ediv_of_nonneg (by omega)).symm⟩
 ·obtain ⟨n, rfl⟩ : ∃ n : Nat, a = -(n : Int) := ⟨a.natAbs, by omega⟩
  have h5 : Int.tmod (-(n : Int)) b = -((n : Int) % b) := by rw [Int.neg_tmod, Int.tmod_eq_emod_of_nonneg (by omega)]
  have h6 := Int.emod_nonneg (n : Int) (show b ≠ 0 by omega)
  have h7 := Int.emod_lt_of_pos (n : Int) hb
  have h8 : b * (Int.tdiv (-(n : Int)) b - 1) = b * Int.tdiv (-(n : Int)) b - b := by rw [Int.mul_sub]; omega
  have := (Int.ediv_emod_unique (a := -(n : Int)) (b := b) (r := Int.tmod (-(n : Int)) b + b) (q := Int.tdiv (-(n : Int)) b - 1) hb).2 ⟨by omega, by omega, by omega⟩
  exact this.1
 ·have := (Int.ediv_emod_unique (a := a) (b := b) (r := 0) (q := Int.tdiv a b) hb).2 ⟨by omega, by omega, by omega⟩
  exact this.1
theorem zjQ (a b : Int) (hb : 0 < b) (ha : I64 a) : I64 (a / b) ∧ I64 (Int.tdiv a b) ∧ (Int.tmod a b ≠ 0 → a < 0 → -9223372036854775808 ≤ Int.tdiv a b - 1) := by
 have hq : I64 (a / b) := by
  unfold I64 at *
  have e1 : a / b ≤ max a 0 := by
   rcases Int.lt_or_le a 0 with h | h
   ·have : a / b < 0 := Int.ediv_neg_of_neg_of_pos h hb
    omega
   ·have := Int.ediv_le_self b h
    omega
  have e2 : min a 0 ≤ a / b := by
   rcases Int.lt_or_le a 0 with h | h
   ·have : a ≤ a / b := by
     rw [Int.le_ediv_iff_mul_le hb]
     have : a * b ≤ a * 1 := Int.mul_le_mul_of_nonpos_left (by omega) (by omega)
     omega
    omega
   ·have := Int.ediv_nonneg h (Int.le_of_lt hb)
    omega
  omega
 obtain ⟨f1, f2, f3⟩ := zg5 a b hb
 have hm : a < 0 → Int.tdiv a b ≤ 0 := fun h => by
  obtain ⟨n, rfl⟩ : ∃ n : Nat, a = -(n : Int) := ⟨a.natAbs, by omega⟩
  rw [Int.neg_tdiv, Int.tdiv_eq_ediv_of_nonneg (by omega)]
  have := Int.ediv_nonneg (show (0 : Int) ≤ n by omega) (Int.le_of_lt hb)
  omega
 refine ⟨hq, ?_, fun h1 h2 => ?_⟩
 ·unfold I64 at *
  by_cases h : a < 0
  ·by_cases hr : Int.tmod a b = 0
   ·rw [← f2 hr]; exact hq
   ·have := f1 hr h
    have := hm h
    omega
  ·rw [← f3 h]; exact hq
 ·have := f1 h1 h2
  unfold I64 at hq
  omega
theorem zpR (a b : Int) (hb : 0 < b) : a / b * b ≤ a ∧ a < a / b * b + b := by
 have h2 := Int.mul_ediv_add_emod a b
 have h3 := Int.emod_nonneg a (show b ≠ 0 by omega)
 have h4 := Int.emod_lt_of_pos a hb
 rw [Int.mul_comm] at h2
 omega
theorem zmH (a b : Int) (ha : I64 a) (hb : 0 < b) : zan Tryz.prog 123 [.r (.v (.int .i64 a)), .r (.v (.int .i64 b))] [] (.tu [.r (.v (.int .i64 (a / b))), .r (.v (.bool true))]) [] := by
 obtain ⟨f1, f2, f3⟩ := zg5 a b hb
 obtain ⟨g1, g2, g3⟩ := zjQ a b hb ha
 obtain ⟨t, ht⟩ : ∃ t, Int.tdiv a b = t := ⟨_, rfl⟩
 obtain ⟨r, hrm⟩ : ∃ r, Int.tmod a b = r := ⟨_, rfl⟩
 have hq : IntKind.i64.wrap (Int.tdiv a b) = t := by rw [ht] at g2 ⊢; unfold I64 at g2; rw [IntKind.wrap_i64]; omega
 have hb0 : b ≠ 0 := by omega
 rw [hrm, ht] at f1
 rw [hrm, ht] at f2
 rw [ht] at f3 g2
 rw [hrm, ht] at g3
 generalize a / b = q at *
 refine zap Tryz.func123 rfl (Nat.le_of_ble_eq_true rfl) rfl rfl ?_
 by_cases hr : r = 0
 ·have hf := f2 hr
  clear f1 f2 f3 g1 g2 g3 ha ht
  subst hr hf
  (repeat' (first | refine zad ?_ | (refine zac (fun hb => ?_) (fun hb => ?_) <;> (try (exfalso; omega))) | fail))
  all_goals (first | (exfalso; omega) | exact ret2 [] (.int rfl) (.bool rfl) rfl rfl rfl rfl)
 ·by_cases ha0 : a < 0
  ·have hf := f1 hr ha0
   have hw : IntKind.i64.wrap (t - 1) = q := by have := g3 hr ha0; unfold I64 at g2; rw [IntKind.wrap_i64]; omega
   clear f1 f2 f3 g1 g2 g3 ha ht hf
   (repeat' (first | refine zad ?_ | (refine zac (fun hb => ?_) (fun hb => ?_) <;> (try (exfalso; omega))) | fail))
   all_goals (first | (exfalso; omega) | exact ret2 [] (.int rfl) (.bool rfl) rfl rfl rfl rfl | (cases hb1 : decide (a < 0) <;> simp_all))
  ·have hf := f3 ha0
   clear f1 f2 f3 g1 g2 g3 ha ht
   subst hf
   (repeat' (first | refine zad ?_ | (refine zac (fun hb => ?_) (fun hb => ?_) <;> (try (exfalso; omega))) | fail))
   all_goals (first | (exfalso; omega) | exact ret2 [] (.int rfl) (.bool rfl) rfl rfl rfl rfl)
def zcx (e : Int) : Int := if e < 1 then 1 else e
theorem zhO (e : Int) : 0 < zcx e := by unfold zcx; split <;> omega
theorem zq4 (e : Int) : zan Tryz.prog 91 [.r (.v (.int .i64 e))] [] (.r (.v (.int .i64 (zcx e)))) [] := by
 have h : (if (1 : Int) > e then 1 else e) = zcx e := rfl
 refine zap Tryz.func91 rfl (Nat.le_of_ble_eq_true rfl) rfl rfl ?_
 (repeat' (first | refine zad ?_ | (refine zac (fun hb => ?_) (fun hb => ?_) <;> (try (exfalso; omega))) | fail))
 all_goals exact ret1 [] (.int h) rfl rfl rfl
def keyE (v e : Int) : Int := v / zcx e
theorem zrI (v e : Int) (hv : I64 v) : zan Tryz.prog 88 [.r (.v (.int .i64 v)), .r (.v (.int .i64 e))] [] (.r (.v (.int .i64 (keyE v e)))) [] := by
 have c1 := zq4 e
 have c2 := zmH v (zcx e) hv (zhO e)
 refine zap Tryz.func88 rfl (Nat.le_of_ble_eq_true rfl) rfl rfl ?_
 (repeat' (first | refine zad ?_ | (refine is_f 91 ?_; refine zaa (c1) ?_) | (refine is_f 123 ?_; refine zaa (c2) ?_) | (refine zac (fun hb => ?_) (fun hb => ?_) <;> (try (exfalso; omega))) | fail))
 all_goals exact ret1 [] (.int rfl) rfl rfl rfl
theorem zsO (k e : Int) (hk : I64 k) (he : I64 e) : zan Tryz.prog 57 [.r (.v (.int .i64 k)), .r (.v (.int .i64 e))] [] (wz (k * zcx e)) [] := by
 have c1 := zq4 e
 have hu : I64 (zcx e) := by unfold I64 zcx at *; split <;> omega
 have o1 := zhY k hk
 have o2 := zhY (zcx e) hu
 have hk1 : k.natAbs < N127 := by unfold I64 at hk; unfold N127; omega
 have hu1 : (zcx e).natAbs < N127 := by unfold I64 at hu; unfold N127; omega
 have cM := zhA k (zcx e) (zaR hk1) (zaR hu1) (zdr hk1 hu1)
 generalize k * zcx e = z at *
 generalize zcx e = u at *
 refine zap Tryz.func57 rfl (Nat.le_of_ble_eq_true rfl) rfl rfl ?_
 (repeat' (first | refine zad ?_ | (refine is_f 91 ?_; refine zaa (c1) ?_) | (refine is_f 21 ?_; refine zaa (o1) ?_) | (refine is_f 21 ?_; refine zaa (o2) ?_) | (refine is_f 43 ?_; refine zaa (cM) ?_) | (refine zac (fun hb => ?_) (fun hb => ?_) <;> (try (exfalso; omega))) | fail))
 all_goals exact zbO [] (Rt.wz z) rfl rfl rfl rfl (zak rfl) rfl
theorem zhB (t : Int) (h : 0 ≤ t ∧ t ≤ 4611686018427387904) : zan Tryz.prog 51 [.r (.v (.int .i64 t))] [] (.r (.v (.bool true))) [] := by
 refine zap Tryz.func51 rfl (Nat.le_of_ble_eq_true rfl) rfl rfl ?_
 (repeat' (first | refine zad ?_ | (refine zac (fun hb => ?_) (fun hb => ?_) <;> (try (exfalso; omega))) | fail))
 all_goals (first | (exfalso; omega) | exact ret1 [] (.bool rfl) rfl rfl rfl)
theorem zlZ (m : Int) (d : Nat) (hd : 0 < d) (hm : m.natAbs < N127) (hd2 : d < N127) : VR (mkQ m d).1 (mkQ m d).2 := by
 obtain ⟨h1, h2, h3, h4, h5⟩ := zhj m d hd
 exact ⟨h2, by omega, by omega, h5⟩
theorem ztX : wz (((73786976294838206464 : Nat)) : Int) = .ag [.r (.v (.bool false)), .r (.v (.int .u64 0)), .r (.v (.int .u64 4)), .r (.v (.int .u64 0)), .r (.v (.int .u64 0))] := by
 have e0 : (73786976294838206464 % B64 : Nat) = 0 := by decide
 have e1 : (73786976294838206464 / B64 % B64 : Nat) = 4 := by decide
 have e2 : (73786976294838206464 / B64 / B64 % B64 : Nat) = 0 := by decide
 have e3 : (73786976294838206464 / B64 / B64 / B64 % B64 : Nat) = 0 := by decide
 rw [zat]
 unfold wd
 rw [e0, e1, e2, e3]
 rfl
def zcn : List AV := vsA (cnVs false 0 0 0 0)
def thA (base v e : Int) (dt : Nat) : St := ⟨[(1, .r (.v (.int .i64 v))), (2, .r (.v (.int .i64 e))), (3, .r (.v (.int .u64 (dt : Int)))), (4, .pt 0 0), (8, .pt 1 0)], [(0, some (.var 36 (zaM (wz base)))), (1, some (.var 40 zcn))], 2⟩
def thB (lo hi : Int) (dt : Nat) : St := ⟨[(3, .r (.v (.int .u64 (dt : Int)))), (8, .pt 0 0), (14, .pt 1 0), (16, .pt 2 0)], [(0, some (.var 40 zcn)), (1, some (.var 36 (zaM (wz lo)))), (2, some (.var 36 (zaM (wz hi))))], 3⟩
theorem zlj (base v e : Int) (dt : Nat) (hb : base.natAbs < 73786976294838206464) (hv : I64 v) (he : 0 ≤ e ∧ e ≤ 4611686018427387904) (hd : 0 < dt) (hd2 : dt < B64) :
  zan Tryz.prog 56 [wz base, .r (.v (.int .i64 v)), .r (.v (.int .i64 e)), .r (.v (.int .u64 (dt : Int)))] [] (.tu [cn false (mkQ (v - base - e) dt).1 (mkQ (v - base - e) dt).2 (mkQ (v - base + e) dt).1 (mkQ (v - base + e) dt).2, .r (.v (.bool true))]) [] := by
 have hI : I64 e := by unfold I64; omega
 have w4 : ∀ z : Int, z.natAbs < 170141183460469231731687303715884105728 → W4 z := fun z hz => zaR (by unfold N127; omega)
 unfold I64 at hv
 have hdN : dt < N127 := zdS hd2
 have hd4 : dt < B64 ^ 4 := zaR hdN
 have v1 := zcz base (w4 base (by omega))
 have cC := ze5 ((base.natAbs : Nat) : Int) ((73786976294838206464 : Nat) : Int) (by rw [Int.natAbs_natCast]; exact w4 base (by omega)) (w4 _ (by decide))
 have hc : cmpZ ((base.natAbs : Nat) : Int) ((73786976294838206464 : Nat) : Int) = -1 := by unfold cmpZ; rw [if_pos (by omega)]
 rw [hc, ztX] at cC
 have cT := zhB e he
 have o1 := zhY v hv
 have o2 := zhY e hI
 have s1 := zoR v base (w4 v (by omega)) (w4 base (by omega)) (w4 _ (by omega))
 have s2 := zoR (v - base) e (w4 _ (by omega)) (w4 e (by omega)) (w4 _ (by omega))
 have s3 := zmb (v - base) e (w4 _ (by omega)) (w4 e (by omega)) (w4 _ (by omega))
 have oU := zqW dt hd2
 have q1 := zlZ (v - base - e) dt hd (by unfold N127; omega) hdN
 have q2 := zlZ (v - base + e) dt hd (by unfold N127; omega) hdN
 have m1 := zoj (v - base - e) dt (w4 _ (by omega)) hd4 (by omega) q1
 have m2 := zoj (v - base + e) dt (w4 _ (by omega)) hd4 (by omega) q2
 clear q1 q2 w4 hdN hd4 hb hc hI
 generalize (mkQ (v - base - e) dt).1 = p at *
 generalize (mkQ (v - base - e) dt).2 = q at *
 generalize (mkQ (v - base + e) dt).1 = r at *
 generalize (mkQ (v - base + e) dt).2 = s at *
 generalize v - base - e = lo at *
 generalize v - base + e = hi at *
 generalize v - base = d at *
 rw [zat] at cC
 refine zap Tryz.func56 rfl (Nat.le_of_ble_eq_true rfl) rfl rfl ?_
 (repeat' (first | (first | refine zaH 6 ?_ | refine zaz 6 ?_) | refine za6 ?_ | refine zaG ?_ | (refine is_f 45 ?_; refine zah (v1) ?_) | (refine is_f 44 ?_; refine zah (cC) ?_) | (refine is_f 51 ?_; refine zah (cT) ?_) | (refine zac (fun hb => ?_) (fun hb => ?_) <;> (try (exfalso; omega))) | fail))
 all_goals (first | (exfalso; omega) | skip)
 refine halt ?_
 refine zbp (T := thA base v e dt) (by (refine Le.mk [(0,0),(1,1)] [] zaj zaC zav zal)) ?_
 (repeat' (first | (first | refine zaH 9 ?_ | refine zaz 9 ?_) | refine za6 ?_ | refine zaG ?_ | (refine is_f 21 ?_; refine zah (o1) ?_) | (refine is_f 21 ?_; refine zah (o2) ?_) | (refine is_f 89 ?_; refine zah (s1) ?_) | (refine is_f 89 ?_; refine zah (s2) ?_) | (refine is_f 90 ?_; refine zah (s3) ?_) | (refine zac (fun hb => ?_) (fun hb => ?_) <;> (try (exfalso; omega))) | fail))
 refine halt ?_
 refine zbp (T := thB lo hi dt) (by (refine Le.mk [(0,1),(1,3),(2,4)] [] zaj zaC zav zal)) ?_
 (repeat' (first | refine zai ?_ | (refine is_f 84 ?_; refine zah (oU) ?_) | (refine is_f 22 ?_; refine zah (m1) ?_) | (refine is_f 22 ?_; refine zah (m2) ?_) | (refine zac (fun hb => ?_) (fun hb => ?_) <;> (try (exfalso; omega))) | fail))
 all_goals exact zbb [] (Rt.cn false p q r s) (.bool rfl) rfl rfl rfl rfl rfl (zak rfl) rfl
end Go.Proofs.YtibedaeefnjjlaaGreat
