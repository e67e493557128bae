/- Texts of the second layer in one: Wg3 Wg4. -/
import Derived.Test.YtpnbgalbdohfgaaGreatDoorG14
import Derived.Laws.BitsAllLaws
set_option maxHeartbeats 8000000
set_option maxRecDepth 100000
set_option linter.unusedVariables false
set_option linter.unusedSimpArgs false
namespace Go.Proofs.YtpnbgalbdohfgaaGreatDoor
open Go.RowKit Go.Ab Go.Wd
def upL (m i : Nat) : List Nat := (List.range 4).map fun p => if p < i then wo m p else 0
theorem zkZ (m i : Nat) : (upL m i).length = 4 := by simp [upL]
theorem zk1 (m i : Nat) (h : i < 4) : (upL m i).set i (wo m i) = upL m (i + 1) := by
 apply List.ext_getElem?
 intro k
 unfold upL
 rcases Nat.lt_trichotomy k i with hk | hk | hk
 ·simp [List.getElem?_set, show ¬ i = k by omega, List.getElem?_range, show k < 4 by omega, hk, show k < i + 1 by omega]
 ·subst hk
  simp [List.getElem?_set, List.getElem?_range, h]
 ·by_cases h4 : k < 4
  ·simp [List.getElem?_set, show ¬ i = k by omega, List.getElem?_range, h4, show ¬ k < i by omega, show ¬ k < i + 1 by omega]
  ·simp [List.getElem?_set, show ¬ i = k by omega, List.getElem?_range, h4]
theorem ziX (m : Nat) : upL m 4 = ws m 4 := by rw [ws4]; rfl
theorem zk0 (m w : Nat) (hw : w ≤ 4) (h : ∀ p, p < w → wo m p = 0) : upL m w = [0, 0, 0, 0] := by
 have e : ∀ p, (if p < w then wo m p else 0) = 0 := fun p => by split
                                                                · exact h p (by assumption)
                                                                · rfl
 unfold upL
 simp only [e]
 rfl
theorem zjb (k : IntKind) (z : Int) : zaM (.r (.v (.int k z))) = [.r (.v (.int k z))] := rfl
theorem znS (l : List Nat) (i v : Nat) (h : i < l.length) : setA (wv l) (0 + i * 1) [.r (.v (.int .u64 (v : Int)))] = wv (l.set i v) := by
 rw [Nat.mul_one, Nat.zero_add]; exact zeY l _ _ h
theorem ze9 (l : List Nat) (i v : Nat) (h : i < l.length) : Nat.ble (0 + i * 1 + 1) (setA (wv l) (0 + i * 1) (zaM (.r (.v (.int .u64 (v : Int)))))).length = true := by
 rw [zjb, znS l i v h, Nat.ble_eq, zeX, List.length_set, Nat.mul_one, Nat.zero_add]; exact h
def lfS (a l : List Nat) (w r i : Nat) : St := ⟨[(2, .pt 0 0), (4, .pt 1 0), (5, .r (.v (.int .i64 (w : Int)))), (6, .r (.v (.int .i64 (r : Int)))), (7, .r (.v (.int .i64 (i : Int))))], [(0, some (.var 24 (wv a))), (1, some (.var 24 (wv l)))], 2⟩
theorem zmF (a l : List Nat) (w r i : Nat) : za7 ⟨0, zcq []⟩ (lfS a l w r i) (rho []) [] = true := by
 have hid : ∀ T l, (Blk.var T (wv l)).ids = [] := fun T l => by rw [Blk.ids, zbG]
 unfold za7 lfS; simp only [List.all_cons, List.all_nil, hid]; rfl
theorem zcu (a r : Nat) (hr : r < 64) : IntKind.u64.wrap ((a : Int) * 2 ^ (min (Int.toNat (r : Int)) IntKind.u64.bits)) = ((a * 2 ^ r % B64 : Nat) : Int) := by
 have e : min (Int.toNat (r : Int)) IntKind.u64.bits = r := by rw [Int.toNat_natCast]; exact Nat.min_eq_left (by show r ≤ 64; omega)
 rw [e, IntKind.wrap_u64]
 have : (a : Int) * 2 ^ r = ((a * 2 ^ r : Nat) : Int) := by simp
 rw [this]
 unfold B64
 omega
theorem zda (a s : Nat) (hs : s ≤ 64) : Int.fdiv (a : Int) (2 ^ (min (Int.toNat (s : Int)) IntKind.u64.bits)) = ((a / 2 ^ s : Nat) : Int) := by
 have e : min (Int.toNat (s : Int)) IntKind.u64.bits = s := by rw [Int.toNat_natCast]; exact Nat.min_eq_left hs
 rw [e]
 have : (2 : Int) ^ s = ((2 ^ s : Nat) : Int) := by simp
 rw [this, Int.fdiv_eq_ediv_of_nonneg _ (Int.natCast_nonneg _)]
 simp
theorem zeT (a b k : Nat) (ha : a % 2 ^ k = 0) (hb : b < 2 ^ k) (h : a + b < B64) : bits .or .u64 (a : Int) (b : Int) = ((a + b : Nat) : Int) := by
 unfold B64 at h
 rw [u64_or_nat _ _ (by omega) (by omega), zhy a b k ha hb]
theorem znF (n w r : Nat) (hn : n < B64 ^ 4) (hw : w < 4) (hr : r < 64) (hm : n * 2 ^ (64 * w + r) < B64 ^ 4) : zaq Tryz.prog 67 [w4 n, .r (.v (.int .i64 ((64 * w + r : Nat) : Int)))] [] (w4 (n * 2 ^ (64 * w + r))) [] := by
 have hL := fun i hi => zjB n w r i hi
 have h0 := znk n w r hr
 have hS := fun j => zn2 n w r j hr
 generalize n * 2 ^ (64 * w + r) = m at *
 have hq : IntKind.i64.wrap (Int.tdiv ((64 * w + r : Nat) : Int) 64) = (w : Int) := by rw [IntKind.wrap_i64, Int.tdiv_eq_ediv_of_nonneg (by omega)]; omega
 have hrem : Int.tmod ((64 * w + r : Nat) : Int) 64 = (r : Int) := by rw [Int.tmod_eq_emod_of_nonneg (by omega)]; omega
 refine zaw Tryz.func67 rfl (Nat.le_of_ble_eq_true rfl) rfl rfl ?_
 generalize 64 * w + r = k at *
 have hwa := zcC 4 n
 (repeat' (first | refine zae ?_ | (refine zab (fun hb => ?_) (fun hb => ?_) <;> (try (exfalso; omega))) | fail))
 refine zap (fun x : Nat × List Nat => lfS (ws n 4) x.2 w r (w + x.1)) (fun x => w + x.1 ≤ 4 ∧ x.2 = upL m (w + x.1)) (fun x => 4 - x.1) (0, [0, 0, 0, 0]) ⟨by show w + 0 ≤ 4; omega, (zk0 m w (by omega) hL).symm⟩ (by (refine Le.mk [] [] zai zal zak zah)) fun x hx => ?_
 obtain ⟨j, l⟩ := x
 obtain ⟨hx1, hx2⟩ := hx
 dsimp only at hx1 hx2
 change awp _ _ _ _ _ (lfS (ws n 4) l w r (w + j))
 have hll : l.length = 4 := by rw [hx2]; exact zkZ _ _
 rcases Nat.lt_or_ge (w + j) 4 with hi | hi
 ·have hset := zk1 m (w + j) hi
  rw [← hx2] at hset
  have hinc : IntKind.i64.wrap (((w + j : Nat) : Int) + 1) = ((w + (j + 1) : Nat) : Int) := zbg (w + j) (by omega)
  have hsub : IntKind.i64.wrap (((w + j : Nat) : Int) - (w : Int)) = (j : Int) := by rw [IntKind.wrap_i64]; omega
  have gj : (wv (ws n 4))[0 + j * 1]? = some (.r (.v (.int .u64 (wo n j : Nat)))) := by
   rw [show 0 + j * 1 = j by omega, zev (by omega)]
   have : (ws n 4).getD j 0 = wo n j := by
    rw [ws4]
    have : j = 0 ∨ j = 1 ∨ j = 2 ∨ j = 3 := by omega
    rcases this with rfl | rfl | rfl | rfl <;> rfl
   rw [this]
  have c1 := zcu (wo n j) r hr
  have hlt := zde n j
  have hik : w + j < 4 := hi
  have hlen1 : Nat.ble (0 + (w + j) * 1 + 1) (wv l).length = true := by rw [Nat.ble_eq, zeX]; omega
  rcases Nat.eq_zero_or_pos j with h00 | hjp
  ·subst h00
   rw [← h0] at c1
   have hE : setA (wv l) (0 + (w + 0) * 1) [.r (.v (.int .u64 ((wo m w : Nat) : Int)))] = wv (upL m (w + 0 + 1)) := by
    rw [← hset, show 0 + (w + 0) * 1 = w + 0 by omega]; exact zeY l _ _ (by omega)
   have hnum := zmF (ws n 4) (upL m (w + 0 + 1)) w r (w + (0 + 1))
   (repeat' (first | refine zae ?_ | (refine zab (fun hb => ?_) (fun hb => ?_) <;> (try (exfalso; omega))) | fail))
   all_goals (first | (exfalso; omega) | exact ⟨(0 + 1, upL m (w + 0 + 1)), ⟨by show w + (0 + 1) ≤ 4; omega, rfl⟩, by show Le _ _ (lfS (ws n 4) (upL m (w + 0 + 1)) w r (w + (0 + 1))); simp only [zaM]; rw [hE]; (refine Le.mk [] [] zai zal zak zah), by show 4 - (0 + 1) < 4 - 0; omega⟩)
  ·obtain ⟨s, hs⟩ : ∃ s, s = 64 - r := ⟨_, rfl⟩
   have hsr : IntKind.i64.wrap (64 - (r : Int)) = (s : Int) := by rw [IntKind.wrap_i64]; omega
   obtain ⟨l0, l1, l2, l3, rfl⟩ : ∃ l0 l1 l2 l3, l = [l0, l1, l2, l3] := by
    match l, hll with
    | [l0, l1, l2, l3], _ => exact ⟨l0, l1, l2, l3, rfl⟩
   have hcase : (w = 0 ∧ j = 1) ∨ (w = 0 ∧ j = 2) ∨ (w = 0 ∧ j = 3) ∨ (w = 1 ∧ j = 1) ∨ (w = 1 ∧ j = 2) ∨ (w = 2 ∧ j = 1) := by omega
   clear gj c1 hlt hlen1 hinc hsub hq hrem hx1 hx2 hL h0 hi hik hjp hw
   rw [ws4] at hwa ⊢
   rcases hcase with ⟨rfl, rfl⟩ | ⟨rfl, rfl⟩ | ⟨rfl, rfl⟩ | ⟨rfl, rfl⟩ | ⟨rfl, rfl⟩ | ⟨rfl, rfl⟩
   ·have hr0 := hS 0
    rw [← hs] at hr0
    obtain ⟨s1, s2, s3⟩ : wo m 1 = wo n 1 * 2 ^ r % B64 + wo n 0 / 2 ^ s ∧ wo n 1 * 2 ^ r % B64 % 2 ^ r = 0 ∧ wo n 0 / 2 ^ s < 2 ^ r := hr0
    have c1 := zcu (wo n 1) r hr
    have c2 := zda (wo n 0) s (by omega)
    have hor := zeT (wo n 1 * 2 ^ r % B64) (wo n 0 / 2 ^ s) r s2 s3 (by rw [← s1]; exact zde _ _)
    rw [← s1] at hor
    have hr1 : r = 0 → wo n 1 * 2 ^ r % B64 = wo m 1 := by
     intro h
     have : wo n 0 / 2 ^ s = 0 := by
      rw [show s = 64 by omega, ← za0]
      exact Nat.div_eq_of_lt (zde n 0)
     omega
    clear s1 s2 s3 hS
    generalize wo n 1 * 2 ^ r % B64 = x1 at *
    generalize wo n 0 / 2 ^ s = x2 at *
    by_cases hr00 : r = 0
    ·have hr1 := hr1 hr00
     subst hr1
     clear hor c2
     (repeat' (first | refine zae ?_ | (refine zab (fun hb => ?_) (fun hb => ?_) <;> (try (exfalso; omega))) | fail))
     all_goals (first | (exfalso; omega) | exact ⟨(1 + 1, [l0, l1, l2, l3].set 1 (wo m 1)), ⟨by show 0 + (1 + 1) ≤ 4; omega, hset⟩, by show Le _ _ (lfS _ ([l0, l1, l2, l3].set 1 (wo m 1)) 0 r (0 + (1 + 1))); (refine Le.mk [] [] zai zal zak zah), by show 4 - (1 + 1) < 4 - 1; omega⟩)
    ·clear hr1
     (repeat' (first | refine zae ?_ | (refine zab (fun hb => ?_) (fun hb => ?_) <;> (try (exfalso; omega))) | fail))
     all_goals (first | (exfalso; omega) | exact ⟨(1 + 1, [l0, l1, l2, l3].set 1 (wo m 1)), ⟨by show 0 + (1 + 1) ≤ 4; omega, hset⟩, by show Le _ _ (lfS _ ([l0, l1, l2, l3].set 1 (wo m 1)) 0 r (0 + (1 + 1))); (refine Le.mk [] [] zai zal zak zah), by show 4 - (1 + 1) < 4 - 1; omega⟩)
   ·have hr0 := hS 1
    rw [← hs] at hr0
    obtain ⟨s1, s2, s3⟩ : wo m 2 = wo n 2 * 2 ^ r % B64 + wo n 1 / 2 ^ s ∧ wo n 2 * 2 ^ r % B64 % 2 ^ r = 0 ∧ wo n 1 / 2 ^ s < 2 ^ r := hr0
    have c1 := zcu (wo n 2) r hr
    have c2 := zda (wo n 1) s (by omega)
    have hor := zeT (wo n 2 * 2 ^ r % B64) (wo n 1 / 2 ^ s) r s2 s3 (by rw [← s1]; exact zde _ _)
    rw [← s1] at hor
    have hr1 : r = 0 → wo n 2 * 2 ^ r % B64 = wo m 2 := by
     intro h
     have : wo n 1 / 2 ^ s = 0 := by
      rw [show s = 64 by omega, ← za0]
      exact Nat.div_eq_of_lt (zde n 1)
     omega
    clear s1 s2 s3 hS
    generalize wo n 2 * 2 ^ r % B64 = x1 at *
    generalize wo n 1 / 2 ^ s = x2 at *
    by_cases hr00 : r = 0
    ·have hr1 := hr1 hr00
     subst hr1
     clear hor c2
     (repeat' (first | refine zae ?_ | (refine zab (fun hb => ?_) (fun hb => ?_) <;> (try (exfalso; omega))) | fail))
     all_goals (first | (exfalso; omega) | exact ⟨(2 + 1, [l0, l1, l2, l3].set 2 (wo m 2)), ⟨by show 0 + (2 + 1) ≤ 4; omega, hset⟩, by show Le _ _ (lfS _ ([l0, l1, l2, l3].set 2 (wo m 2)) 0 r (0 + (2 + 1))); (refine Le.mk [] [] zai zal zak zah), by show 4 - (2 + 1) < 4 - 2; omega⟩)
    ·clear hr1
     (repeat' (first | refine zae ?_ | (refine zab (fun hb => ?_) (fun hb => ?_) <;> (try (exfalso; omega))) | fail))
     all_goals (first | (exfalso; omega) | exact ⟨(2 + 1, [l0, l1, l2, l3].set 2 (wo m 2)), ⟨by show 0 + (2 + 1) ≤ 4; omega, hset⟩, by show Le _ _ (lfS _ ([l0, l1, l2, l3].set 2 (wo m 2)) 0 r (0 + (2 + 1))); (refine Le.mk [] [] zai zal zak zah), by show 4 - (2 + 1) < 4 - 2; omega⟩)
   ·have hr0 := hS 2
    rw [← hs] at hr0
    obtain ⟨s1, s2, s3⟩ : wo m 3 = wo n 3 * 2 ^ r % B64 + wo n 2 / 2 ^ s ∧ wo n 3 * 2 ^ r % B64 % 2 ^ r = 0 ∧ wo n 2 / 2 ^ s < 2 ^ r := hr0
    have c1 := zcu (wo n 3) r hr
    have c2 := zda (wo n 2) s (by omega)
    have hor := zeT (wo n 3 * 2 ^ r % B64) (wo n 2 / 2 ^ s) r s2 s3 (by rw [← s1]; exact zde _ _)
    rw [← s1] at hor
    have hr1 : r = 0 → wo n 3 * 2 ^ r % B64 = wo m 3 := by
     intro h
     have : wo n 2 / 2 ^ s = 0 := by
      rw [show s = 64 by omega, ← za0]
      exact Nat.div_eq_of_lt (zde n 2)
     omega
    clear s1 s2 s3 hS
    generalize wo n 3 * 2 ^ r % B64 = x1 at *
    generalize wo n 2 / 2 ^ s = x2 at *
    by_cases hr00 : r = 0
    ·have hr1 := hr1 hr00
     subst hr1
     clear hor c2
     (repeat' (first | refine zae ?_ | (refine zab (fun hb => ?_) (fun hb => ?_) <;> (try (exfalso; omega))) | fail))
     all_goals (first | (exfalso; omega) | exact ⟨(3 + 1, [l0, l1, l2, l3].set 3 (wo m 3)), ⟨by show 0 + (3 + 1) ≤ 4; omega, hset⟩, by show Le _ _ (lfS _ ([l0, l1, l2, l3].set 3 (wo m 3)) 0 r (0 + (3 + 1))); (refine Le.mk [] [] zai zal zak zah), by show 4 - (3 + 1) < 4 - 3; omega⟩)
    ·clear hr1
     (repeat' (first | refine zae ?_ | (refine zab (fun hb => ?_) (fun hb => ?_) <;> (try (exfalso; omega))) | fail))
     all_goals (first | (exfalso; omega) | exact ⟨(3 + 1, [l0, l1, l2, l3].set 3 (wo m 3)), ⟨by show 0 + (3 + 1) ≤ 4; omega, hset⟩, by show Le _ _ (lfS _ ([l0, l1, l2, l3].set 3 (wo m 3)) 0 r (0 + (3 + 1))); (refine Le.mk [] [] zai zal zak zah), by show 4 - (3 + 1) < 4 - 3; omega⟩)
   ·have hr0 := hS 0
    rw [← hs] at hr0
    obtain ⟨s1, s2, s3⟩ : wo m 2 = wo n 1 * 2 ^ r % B64 + wo n 0 / 2 ^ s ∧ wo n 1 * 2 ^ r % B64 % 2 ^ r = 0 ∧ wo n 0 / 2 ^ s < 2 ^ r := hr0
    have c1 := zcu (wo n 1) r hr
    have c2 := zda (wo n 0) s (by omega)
    have hor := zeT (wo n 1 * 2 ^ r % B64) (wo n 0 / 2 ^ s) r s2 s3 (by rw [← s1]; exact zde _ _)
    rw [← s1] at hor
    have hr1 : r = 0 → wo n 1 * 2 ^ r % B64 = wo m 2 := by
     intro h
     have : wo n 0 / 2 ^ s = 0 := by
      rw [show s = 64 by omega, ← za0]
      exact Nat.div_eq_of_lt (zde n 0)
     omega
    clear s1 s2 s3 hS
    generalize wo n 1 * 2 ^ r % B64 = x1 at *
    generalize wo n 0 / 2 ^ s = x2 at *
    by_cases hr00 : r = 0
    ·have hr1 := hr1 hr00
     subst hr1
     clear hor c2
     (repeat' (first | refine zae ?_ | (refine zab (fun hb => ?_) (fun hb => ?_) <;> (try (exfalso; omega))) | fail))
     all_goals (first | (exfalso; omega) | exact ⟨(1 + 1, [l0, l1, l2, l3].set 2 (wo m 2)), ⟨by show 1 + (1 + 1) ≤ 4; omega, hset⟩, by show Le _ _ (lfS _ ([l0, l1, l2, l3].set 2 (wo m 2)) 1 r (1 + (1 + 1))); (refine Le.mk [] [] zai zal zak zah), by show 4 - (1 + 1) < 4 - 1; omega⟩)
    ·clear hr1
     (repeat' (first | refine zae ?_ | (refine zab (fun hb => ?_) (fun hb => ?_) <;> (try (exfalso; omega))) | fail))
     all_goals (first | (exfalso; omega) | exact ⟨(1 + 1, [l0, l1, l2, l3].set 2 (wo m 2)), ⟨by show 1 + (1 + 1) ≤ 4; omega, hset⟩, by show Le _ _ (lfS _ ([l0, l1, l2, l3].set 2 (wo m 2)) 1 r (1 + (1 + 1))); (refine Le.mk [] [] zai zal zak zah), by show 4 - (1 + 1) < 4 - 1; omega⟩)
   ·have hr0 := hS 1
    rw [← hs] at hr0
    obtain ⟨s1, s2, s3⟩ : wo m 3 = wo n 2 * 2 ^ r % B64 + wo n 1 / 2 ^ s ∧ wo n 2 * 2 ^ r % B64 % 2 ^ r = 0 ∧ wo n 1 / 2 ^ s < 2 ^ r := hr0
    have c1 := zcu (wo n 2) r hr
    have c2 := zda (wo n 1) s (by omega)
    have hor := zeT (wo n 2 * 2 ^ r % B64) (wo n 1 / 2 ^ s) r s2 s3 (by rw [← s1]; exact zde _ _)
    rw [← s1] at hor
    have hr1 : r = 0 → wo n 2 * 2 ^ r % B64 = wo m 3 := by
     intro h
     have : wo n 1 / 2 ^ s = 0 := by
      rw [show s = 64 by omega, ← za0]
      exact Nat.div_eq_of_lt (zde n 1)
     omega
    clear s1 s2 s3 hS
    generalize wo n 2 * 2 ^ r % B64 = x1 at *
    generalize wo n 1 / 2 ^ s = x2 at *
    by_cases hr00 : r = 0
    ·have hr1 := hr1 hr00
     subst hr1
     clear hor c2
     (repeat' (first | refine zae ?_ | (refine zab (fun hb => ?_) (fun hb => ?_) <;> (try (exfalso; omega))) | fail))
     all_goals (first | (exfalso; omega) | exact ⟨(2 + 1, [l0, l1, l2, l3].set 3 (wo m 3)), ⟨by show 1 + (2 + 1) ≤ 4; omega, hset⟩, by show Le _ _ (lfS _ ([l0, l1, l2, l3].set 3 (wo m 3)) 1 r (1 + (2 + 1))); (refine Le.mk [] [] zai zal zak zah), by show 4 - (2 + 1) < 4 - 2; omega⟩)
    ·clear hr1
     (repeat' (first | refine zae ?_ | (refine zab (fun hb => ?_) (fun hb => ?_) <;> (try (exfalso; omega))) | fail))
     all_goals (first | (exfalso; omega) | exact ⟨(2 + 1, [l0, l1, l2, l3].set 3 (wo m 3)), ⟨by show 1 + (2 + 1) ≤ 4; omega, hset⟩, by show Le _ _ (lfS _ ([l0, l1, l2, l3].set 3 (wo m 3)) 1 r (1 + (2 + 1))); (refine Le.mk [] [] zai zal zak zah), by show 4 - (2 + 1) < 4 - 2; omega⟩)
   ·have hr0 := hS 0
    rw [← hs] at hr0
    obtain ⟨s1, s2, s3⟩ : wo m 3 = wo n 1 * 2 ^ r % B64 + wo n 0 / 2 ^ s ∧ wo n 1 * 2 ^ r % B64 % 2 ^ r = 0 ∧ wo n 0 / 2 ^ s < 2 ^ r := hr0
    have c1 := zcu (wo n 1) r hr
    have c2 := zda (wo n 0) s (by omega)
    have hor := zeT (wo n 1 * 2 ^ r % B64) (wo n 0 / 2 ^ s) r s2 s3 (by rw [← s1]; exact zde _ _)
    rw [← s1] at hor
    have hr1 : r = 0 → wo n 1 * 2 ^ r % B64 = wo m 3 := by
     intro h
     have : wo n 0 / 2 ^ s = 0 := by
      rw [show s = 64 by omega, ← za0]
      exact Nat.div_eq_of_lt (zde n 0)
     omega
    clear s1 s2 s3 hS
    generalize wo n 1 * 2 ^ r % B64 = x1 at *
    generalize wo n 0 / 2 ^ s = x2 at *
    by_cases hr00 : r = 0
    ·have hr1 := hr1 hr00
     subst hr1
     clear hor c2
     (repeat' (first | refine zae ?_ | (refine zab (fun hb => ?_) (fun hb => ?_) <;> (try (exfalso; omega))) | fail))
     all_goals (first | (exfalso; omega) | exact ⟨(1 + 1, [l0, l1, l2, l3].set 3 (wo m 3)), ⟨by show 2 + (1 + 1) ≤ 4; omega, hset⟩, by show Le _ _ (lfS _ ([l0, l1, l2, l3].set 3 (wo m 3)) 2 r (2 + (1 + 1))); (refine Le.mk [] [] zai zal zak zah), by show 4 - (1 + 1) < 4 - 1; omega⟩)
    ·clear hr1
     (repeat' (first | refine zae ?_ | (refine zab (fun hb => ?_) (fun hb => ?_) <;> (try (exfalso; omega))) | fail))
     all_goals (first | (exfalso; omega) | exact ⟨(1 + 1, [l0, l1, l2, l3].set 3 (wo m 3)), ⟨by show 2 + (1 + 1) ≤ 4; omega, hset⟩, by show Le _ _ (lfS _ ([l0, l1, l2, l3].set 3 (wo m 3)) 2 r (2 + (1 + 1))); (refine Le.mk [] [] zai zal zak zah), by show 4 - (1 + 1) < 4 - 1; omega⟩)
 ·have hi4 : w + j = 4 := by omega
  rw [hi4] at hx2 ⊢
  rw [ziX] at hx2
  subst hx2
  (repeat' (first | refine zae ?_ | (refine zab (fun hb => ?_) (fun hb => ?_) <;> (try (exfalso; omega))) | fail))
  all_goals (first | (exfalso; omega) | exact zcL [] (Rt.w4 m) rfl rfl rfl rfl (zan rfl) rfl)
theorem zi5 (n j : Nat) (h : j < 4) : (ws n 4).getD j 0 = wo n j := by
 rw [ws4]
 have : j = 0 ∨ j = 1 ∨ j = 2 ∨ j = 3 := by omega
 rcases this with rfl | rfl | rfl | rfl <;> rfl
theorem zn4 (n j : Nat) (h : j < 4) : (wv (ws n 4))[0 + j * 1]? = some (.r (.v (.int .u64 (wo n j : Nat)))) := by
 rw [show 0 + j * 1 = j by omega, zev (by rw [zcC]; exact h), zi5 n j h]
theorem zh1 (a b k : Nat) (hb : b % 2 ^ k = 0) (ha : a < 2 ^ k) (h : a + b < B64) : bits .or .u64 (a : Int) (b : Int) = ((a + b : Nat) : Int) := by
 unfold B64 at h
 rw [u64_or_nat _ _ (by omega) (by omega), Nat.or_comm, zhy b a k hb ha, Nat.add_comm]
theorem zfa (a : Nat) : Int.fdiv (a : Int) (2 ^ (min (Int.toNat 1) IntKind.u64.bits)) = ((a / 2 : Nat) : Int) := by
 rw [show min (Int.toNat 1) IntKind.u64.bits = 1 from rfl, Int.fdiv_eq_ediv_of_nonneg _ (by omega)]
 omega
theorem zfN (a : Nat) : IntKind.u64.wrap ((a : Int) * 2 ^ (min (Int.toNat 63) IntKind.u64.bits)) = ((a % 2 * 9223372036854775808 : Nat) : Int) := by
 rw [show min (Int.toNat 63) IntKind.u64.bits = 63 from rfl, show (2 : Int) ^ 63 = 9223372036854775808 from rfl, IntKind.wrap_u64]
 omega
def hvS (a l : List Nat) (i : Nat) : St := ⟨[(1, .pt 0 0), (2, .pt 1 0), (4, .r (.v (.int .i64 (i : Int))))], [(0, some (.var 24 (wv a))), (1, some (.var 24 (wv l)))], 2⟩
theorem zmE (a l : List Nat) (i : Nat) : za7 ⟨0, zcq []⟩ (hvS a l i) (rho []) [] = true := by
 have hid : ∀ T l, (Blk.var T (wv l)).ids = [] := fun T l => by rw [Blk.ids, zbG]
 unfold za7 hvS; simp only [List.all_cons, List.all_nil, hid]; rfl
theorem zlc (n : Nat) (hn : n < B64 ^ 4) : zaq Tryz.prog 70 [w4 n] [] (w4 (n / 2)) [] := by
 refine zaw Tryz.func70 rfl (Nat.le_of_ble_eq_true rfl) rfl rfl ?_
 have hH := znj n
 have h4 : wo n 4 = 0 := zhd hn
 generalize n / 2 = m at *
 have hwa := zcC 4 n
 (repeat' (first | refine zae ?_ | (refine zab (fun hb => ?_) (fun hb => ?_) <;> (try (exfalso; omega))) | fail))
 refine zap (fun x : Nat × List Nat => hvS (ws n 4) x.2 x.1) (fun x => x.1 ≤ 4 ∧ x.2 = upL m x.1) (fun x => 4 - x.1) (0, [0, 0, 0, 0]) ⟨by omega, (zk0 m 0 (by omega) (fun p hp => by omega)).symm⟩ (by (refine Le.mk [] [] zai zal zak zah)) fun x hx => ?_
 obtain ⟨i, l⟩ := x
 obtain ⟨hx1, hx2⟩ := hx
 dsimp only at hx1 hx2
 change awp _ _ _ _ _ (hvS (ws n 4) l i)
 have hll : l.length = 4 := by rw [hx2]; exact zkZ _ _
 rcases Nat.lt_or_ge i 4 with hi | hi
 ·have hset := zk1 m i hi
  rw [← hx2] at hset
  have hinc : IntKind.i64.wrap ((i : Int) + 1) = ((i + 1 : Nat) : Int) := zbg i (by omega)
  have gi := zn4 n i hi
  have c1 := zfa (wo n i)
  have hE1 : setA (wv l) (0 + i * 1) [.r (.v (.int .u64 ((wo n i / 2 : Nat) : Int)))] = wv (l.set i (wo n i / 2)) := by
   rw [show 0 + i * 1 = i by omega]; exact zeY l _ _ (by omega)
  have hlen1 : Nat.ble (0 + i * 1 + 1) (wv l).length = true := by rw [Nat.ble_eq, zeX]; omega
  have hHi := hH i
  have hb := zde n i
  by_cases h3 : i < 3
  ·obtain ⟨l0, l1, l2, l3, rfl⟩ : ∃ l0 l1 l2 l3, l = [l0, l1, l2, l3] := by
    match l, hll with
    | [l0, l1, l2, l3], _ => exact ⟨l0, l1, l2, l3, rfl⟩
   have hcase : i = 0 ∨ i = 1 ∨ i = 2 := by omega
   clear gi c1 hE1 hlen1 hb hHi hinc hx1 hx2 hi h3
   rw [ws4] at hwa ⊢
   rcases hcase with rfl | rfl | rfl
   ·have hHi : wo m 0 = wo n 0 / 2 + wo n 1 % 2 * 9223372036854775808 := hH 0
    have hb := zde n 0
    have c1 := zfa (wo n 0)
    have c2 := zfN (wo n 1)
    have hor := zh1 (wo n 0 / 2) (wo n 1 % 2 * 9223372036854775808) 63 (by rw [show (2 : Nat) ^ 63 = 9223372036854775808 from rfl]; omega) (by rw [show (2 : Nat) ^ 63 = 9223372036854775808 from rfl]; unfold B64 at hb; omega) (by unfold B64 at *; omega)
    rw [← hHi] at hor
    clear hHi hH
    generalize wo n 0 / 2 = x1 at *
    generalize wo n 1 % 2 * 9223372036854775808 = x2 at *
    (repeat' (first | refine zae ?_ | (refine zab (fun hb => ?_) (fun hb => ?_) <;> (try (exfalso; omega))) | fail))
    all_goals (first | (exfalso; omega) | exact ⟨(0 + 1, [l0, l1, l2, l3].set 0 (wo m 0)), ⟨by show 0 + 1 ≤ 4; omega, hset⟩, by show Le _ _ (hvS _ ([l0, l1, l2, l3].set 0 (wo m 0)) (0 + 1)); (refine Le.mk [] [] zai zal zak zah), by show 4 - (0 + 1) < 4 - 0; omega⟩)
   ·have hHi : wo m 1 = wo n 1 / 2 + wo n 2 % 2 * 9223372036854775808 := hH 1
    have hb := zde n 1
    have c1 := zfa (wo n 1)
    have c2 := zfN (wo n 2)
    have hor := zh1 (wo n 1 / 2) (wo n 2 % 2 * 9223372036854775808) 63 (by rw [show (2 : Nat) ^ 63 = 9223372036854775808 from rfl]; omega) (by rw [show (2 : Nat) ^ 63 = 9223372036854775808 from rfl]; unfold B64 at hb; omega) (by unfold B64 at *; omega)
    rw [← hHi] at hor
    clear hHi hH
    generalize wo n 1 / 2 = x1 at *
    generalize wo n 2 % 2 * 9223372036854775808 = x2 at *
    (repeat' (first | refine zae ?_ | (refine zab (fun hb => ?_) (fun hb => ?_) <;> (try (exfalso; omega))) | fail))
    all_goals (first | (exfalso; omega) | exact ⟨(1 + 1, [l0, l1, l2, l3].set 1 (wo m 1)), ⟨by show 1 + 1 ≤ 4; omega, hset⟩, by show Le _ _ (hvS _ ([l0, l1, l2, l3].set 1 (wo m 1)) (1 + 1)); (refine Le.mk [] [] zai zal zak zah), by show 4 - (1 + 1) < 4 - 1; omega⟩)
   ·have hHi : wo m 2 = wo n 2 / 2 + wo n 3 % 2 * 9223372036854775808 := hH 2
    have hb := zde n 2
    have c1 := zfa (wo n 2)
    have c2 := zfN (wo n 3)
    have hor := zh1 (wo n 2 / 2) (wo n 3 % 2 * 9223372036854775808) 63 (by rw [show (2 : Nat) ^ 63 = 9223372036854775808 from rfl]; omega) (by rw [show (2 : Nat) ^ 63 = 9223372036854775808 from rfl]; unfold B64 at hb; omega) (by unfold B64 at *; omega)
    rw [← hHi] at hor
    clear hHi hH
    generalize wo n 2 / 2 = x1 at *
    generalize wo n 3 % 2 * 9223372036854775808 = x2 at *
    (repeat' (first | refine zae ?_ | (refine zab (fun hb => ?_) (fun hb => ?_) <;> (try (exfalso; omega))) | fail))
    all_goals (first | (exfalso; omega) | exact ⟨(2 + 1, [l0, l1, l2, l3].set 2 (wo m 2)), ⟨by show 2 + 1 ≤ 4; omega, hset⟩, by show Le _ _ (hvS _ ([l0, l1, l2, l3].set 2 (wo m 2)) (2 + 1)); (refine Le.mk [] [] zai zal zak zah), by show 4 - (2 + 1) < 4 - 2; omega⟩)
  ·have hi3 : i = 3 := by omega
   subst hi3
   rw [h4] at hHi
   have e : wo m 3 = wo n 3 / 2 := by omega
   rw [e] at hset
   rw [hset] at hE1
   have hnum := zmE (ws n 4) (upL m (3 + 1)) (3 + 1)
   clear hset hHi hH e
   generalize wo n 3 / 2 = x1 at *
   (repeat' (first | refine zae ?_ | (refine zab (fun hb => ?_) (fun hb => ?_) <;> (try (exfalso; omega))) | fail))
   all_goals (first | (exfalso; omega) | exact ⟨(3 + 1, upL m (3 + 1)), ⟨by show 3 + 1 ≤ 4; omega, rfl⟩, by show Le _ _ (hvS (ws n 4) (upL m (3 + 1)) (3 + 1)); simp only [zaM]; rw [hE1]; (refine Le.mk [] [] zai zal zak zah), by show 4 - (3 + 1) < 4 - 3; omega⟩)
 ·have hi4 : i = 4 := by omega
  subst hi4
  rw [ziX] at hx2
  subst hx2
  (repeat' (first | refine zae ?_ | (refine zab (fun hb => ?_) (fun hb => ?_) <;> (try (exfalso; omega))) | fail))
  all_goals (first | (exfalso; omega) | exact zcL [] (Rt.w4 m) rfl rfl rfl rfl (zan rfl) rfl)
end Go.Proofs.YtpnbgalbdohfgaaGreatDoor
