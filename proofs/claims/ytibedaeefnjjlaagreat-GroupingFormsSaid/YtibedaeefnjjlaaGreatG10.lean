/- Texts of the second layer in one: Wd9 Wd10 Wg1 Wg0. -/
import Derived.Test.YtibedaeefnjjlaaGreatG9
import Derived.Shelf.Spec.BitsCarry
import Derived.Lib.BitFns
import Derived.Lib.ItoaNum
set_option maxHeartbeats 2000000
set_option maxRecDepth 100000
set_option linter.unusedVariables false
set_option linter.unusedSimpArgs false
namespace Go.Proofs.YtibedaeefnjjlaaGreat
open Go.RowKit Go.Ab Go.Wd
def moO (m n i : Nat) (l : List Nat) : St := ⟨[(3, .pt 1 0), (4, .pt 2 0), (6, .pt 3 0), (16, .ag (wv (ws m 4))), (17, .r (.v (.int .i64 (i : Int))))], [(1, some (.var 34 (wv (ws n 4)))), (2, some (.var 34 (wv [0, 0, 0, 0]))), (3, some (.var 195 (wv l)))], 4⟩
def moI (m n i x k c : Nat) (l : List Nat) : St := ⟨[(3, .pt 1 0), (4, .pt 2 0), (6, .pt 3 0), (7, .r (.v (.int .i64 (i : Int)))), (8, .r (.v (.int .u64 (x : Int)))), (9, .r (.v (.int .u64 (c : Int)))), (16, .ag (wv (ws m 4))), (17, .r (.v (.int .i64 (i : Int)))), (21, .ag (wv (ws n 4))), (22, .r (.v (.int .i64 (k : Int))))], [(1, some (.var 34 (wv (ws n 4)))), (2, some (.var 34 (wv [0, 0, 0, 0]))), (3, some (.var 195 (wv l)))], 4⟩
def moE (l : List Nat) : St := ⟨[(4, .pt 2 0), (6, .pt 3 0), (17, .r (.v (.int .i64 4)))], [(2, some (.var 34 (wv [0, 0, 0, 0]))), (3, some (.var 195 (wv l)))], 4⟩
theorem zpZ (m n i : Nat) (l : List Nat) : zbv ⟨0, zcp []⟩ (moO m n i l) (rho []) [] = true := by
 have hid : ∀ T l, (Blk.var T (wv l)).ids = [] := fun T l => by rw [Blk.ids, zct]
 have hag : ∀ l, (AV.ag (wv l)).ids = [] := fun l => by rw [AV.ids, zct]
 unfold zbv moO; simp only [List.all_cons, List.all_nil, hid, hag]; rfl
theorem zl1 (m n i x k c : Nat) (l : List Nat) : zbv ⟨0, zcp []⟩ (moI m n i x k c l) (rho []) [] = true := by
 have hid : ∀ T l, (Blk.var T (wv l)).ids = [] := fun T l => by rw [Blk.ids, zct]
 have hag : ∀ l, (AV.ag (wv l)).ids = [] := fun l => by rw [AV.ids, zct]
 unfold zbv moI; simp only [List.all_cons, List.all_nil, hid, hag]; rfl
theorem zl0 (m n : Nat) (hm : m < B64 ^ 4) (hn : n < B64 ^ 4) (hmn : m * n < B64 ^ 4) : zan Tryz.prog 159 [w4 m, w4 n] [] (.tu [w4 (m * n), .r (.v (.bool true))]) [] := by
 have hla := zbV 4 m
 have hlb := zbV 4 n
 have hwa := zdp 4 m
 have hwb := zdp 4 n
 obtain ⟨ml1, ml2, ml3⟩ := zoo (ws m 4) (ws n 4) 8 hwa hwb (by omega)
 rw [zcX 4 m hm, zcX 4 n hn] at ml3
 have hR : mOut (ws m 4) (ws n 4) 4 0 (List.replicate 8 0) = ws (m * n) 8 := by
  have e := ziE _ ml1
  rw [ml2, ml3, hla] at e
  exact e.symm
 clear ml1 ml2 ml3
 refine zap Tryz.func159 rfl (Nat.le_of_ble_eq_true rfl) rfl rfl ?_
 (repeat' (first | refine zad ?_ | (refine zac (fun hb => ?_) (fun hb => ?_) <;> (try (exfalso; omega))) | fail))
 refine zas (fun x : Nat × List Nat => moO m n x.1 x.2) (fun x => x.1 ≤ 4 ∧ x.2.length = 8 ∧ Wds x.2 ∧ mOut (ws m 4) (ws n 4) (4 - x.1) x.1 x.2 = ws (m * n) 8) (fun x => 4 - x.1) (0, List.replicate 8 0) ⟨by omega, rfl, fun a ha => by rw [List.eq_of_mem_replicate ha]; decide, hR⟩ (by (refine Le.mk [] [] zaj zao zaq zal)) fun x hx => ?_
 obtain ⟨i, l⟩ := x
 obtain ⟨hx1, hx2, hx3, hx4⟩ := hx
 dsimp only at hx1 hx2 hx3 hx4
 change awp _ _ _ _ _ (moO m n i l)
 rcases Nat.lt_or_ge i 4 with hi | hi
 ·have hx0 := hwa.get i
  have ga : (wv (ws m 4))[i]? = some (.r (.v (.int .u64 ((ws m 4).getD i 0 : Nat)))) := zf6 (by omega)
  obtain ⟨j, hj⟩ : ∃ j, 4 - i = j + 1 := ⟨4 - i - 1, by omega⟩
  have hj2 : j = 4 - (i + 1) := by omega
  rw [hj, mOut, hlb] at hx4
  subst hj2
  generalize (ws m 4).getD i 0 = x at *
  (repeat' (first | refine zad ?_ | (refine zac (fun hb => ?_) (fun hb => ?_) <;> (try (exfalso; omega))) | fail))
  refine zas (fun y : Nat × Nat × List Nat => moI m n i x y.1 y.2.1 y.2.2) (fun y => y.1 ≤ 4 ∧ y.2.2.length = 8 ∧ Wds y.2.2 ∧ y.2.1 < B64 ∧ mIn x (ws n 4) i (4 - y.1) y.1 y.2.1 y.2.2 = mIn x (ws n 4) i 4 0 0 l) (fun y => 4 - y.1) (0, 0, l) ⟨by omega, hx2, hx3, by show 0 < B64; decide, rfl⟩ (by have hnum := zl1 m n i x 0 0 l; (refine Le.mk [] [] zaj zao zaq zal)) fun y hy => ?_
  obtain ⟨k, c, q⟩ := y
  obtain ⟨hy1, hy2, hy3, hy4, hy5⟩ := hy
  dsimp only at hy1 hy2 hy3 hy4 hy5
  change awp _ _ _ _ _ (moI m n i x k c q)
  rcases Nat.lt_or_ge k 4 with hk | hk
  ·have hy0 := hwb.get k
   have gb : (wv (ws n 4))[k]? = some (.r (.v (.int .u64 ((ws n 4).getD k 0 : Nat)))) := zf6 (by omega)
   have gq : (wv q)[0 + (i + k) * 1]? = some (.r (.v (.int .u64 (q.getD (i + k) 0 : Nat)))) := by rw [show 0 + (i + k) * 1 = i + k by omega]; exact zf6 (by omega)
   have hq0 := hy3.get (i + k)
   obtain ⟨r, hr⟩ : ∃ r, 4 - k = r + 1 := ⟨4 - k - 1, by omega⟩
   have hr2 : r = 4 - (k + 1) := by omega
   rw [hr, mIn] at hy5
   subst hr2
   have sik := zds i k (by omega)
   have cM := zon x ((ws n 4).getD k 0) hx0 hy0
   generalize (ws n 4).getD k 0 = y at *
   generalize q.getD (i + k) 0 = s at *
   obtain ⟨r1, r2, r3, r4⟩ := zmk (zhU hx0 hy0) hq0 hy4
   rw [Nat.add_comm (x * y % B64) s] at r1 r2 r3
   have a1 := zdv (x * y / B64) ((s + x * y % B64) / B64) r3
   have a2 := zdv (x * y / B64 + (s + x * y % B64) / B64) (((s + x * y % B64) % B64 + c) / B64) (by rw [r2]; exact r4)
   rw [r2] at a2
   have hE : setA (wv q) (0 + (i + k) * 1) [.r (.v (.int .u64 ((((s + x * y % B64) % B64 + c) % B64 : Nat) : Int)))] = wv (q.set (i + k) ((x * y + s + c) % B64)) := by
    rw [r1, show 0 + (i + k) * 1 = i + k by omega]; exact zgA q _ _ (by omega)
   have hlen : Nat.ble (0 + (i + k) * 1 + 1) (wv q).length = true := by rw [Nat.ble_eq, zgz]; omega
   have hr5 : (x * y + s + c) % B64 < B64 := by unfold B64; omega
   have hnum := zl1 m n i x (k + 1) ((x * y + s + c) / B64) (q.set (i + k) ((x * y + s + c) % B64))
   have hik : i + k < 8 := by omega
   clear r1 r2
   (repeat' (first | refine zad ?_ | (refine is_f 116 ?_; refine zaa (cM) ?_) | ((refine is_f 117 ?_; refine zag rfl zab (zl3 rfl rfl rfl) ?_); try dsimp only [AV.unfr, AV.unfrs, frsL, zbg, rdOf, @List.length_cons Blk, @List.length_nil Blk, @List.nil_append (Nat × Option Blk), @List.cons_append (Nat × Option Blk), @List.nil_append Blk, @List.cons_append Blk, Nat.add_zero, Nat.zero_add, Nat.reduceAdd]) | (refine zac (fun hb => ?_) (fun hb => ?_) <;> (try (exfalso; omega))) | fail))
   all_goals (first | (exfalso; omega) | exact ⟨(k + 1, (x * y + s + c) / B64, q.set (i + k) ((x * y + s + c) % B64)), ⟨hk, by rw [List.length_set]; exact hy2, hy3.set _ hr5, r4, hy5⟩, by show Le _ _ (moI m n i x (k + 1) ((x * y + s + c) / B64) (q.set (i + k) ((x * y + s + c) % B64))); simp only [zaM]; rw [hE]; (refine Le.mk [] [] zaj zao zaq zal), by show 4 - (k + 1) < 4 - k; omega⟩)
  ·have hke : 4 - k = 0 := by omega
   have hkk : k = 4 := by omega
   subst hkk
   rw [hke, mIn] at hy5
   rw [← hy5] at hx4
   dsimp only at hx4
   have sib : IntKind.i64.wrap ((i : Int) + 4) = ((i + 4 : Nat) : Int) := by rw [IntKind.wrap_i64]; omega
   have hE : setA (wv q) (0 + (i + 4) * 1) [.r (.v (.int .u64 (c : Int)))] = wv (q.set (i + 4) c) := by
    rw [show 0 + (i + 4) * 1 = i + 4 by omega]; exact zgA q _ _ (by omega)
   have hlen : Nat.ble (0 + (i + 4) * 1 + 1) (wv q).length = true := by rw [Nat.ble_eq, zgz]; omega
   have hnum := zpZ m n (i + 1) (q.set (i + 4) c)
   have hik : i + 4 < 8 := by omega
   (repeat' (first | refine zad ?_ | (refine zac (fun hb => ?_) (fun hb => ?_) <;> (try (exfalso; omega))) | fail))
   all_goals (first | (exfalso; omega) | exact ⟨(i + 1, q.set (i + 4) c), ⟨hi, by rw [List.length_set]; exact hy2, hy3.set _ hy4, hx4⟩, by show Le _ _ (moO m n (i + 1) (q.set (i + 4) c)); simp only [zaM]; rw [hE]; (refine Le.mk [] [] zaj zao zaq zal), by show 4 - (i + 1) < 4 - i; omega⟩)
 ·have hie : 4 - i = 0 := by omega
  rw [hie, mOut] at hx4
  subst hx4
  have hB : B64 ^ 4 = 115792089237316195423570985008687907853269984665640564039457584007913129639936 := by decide
  rw [hB] at hmn
  generalize m * n = p at *
  have hz : p / B64 / B64 / B64 / B64 = 0 := by unfold B64; omega
  have hi4 : i = 4 := by omega
  subst hi4
  have h8 : ws p 8 = [p % B64, p / B64 % B64, p / B64 / B64 % B64, p / B64 / B64 / B64 % B64, 0, 0, 0, 0] := by
   show [p % B64, p / B64 % B64, p / B64 / B64 % B64, p / B64 / B64 / B64 % B64, p / B64 / B64 / B64 / B64 % B64, p / B64 / B64 / B64 / B64 / B64 % B64, p / B64 / B64 / B64 / B64 / B64 / B64 % B64, p / B64 / B64 / B64 / B64 / B64 / B64 / B64 % B64] = _
   rw [hz]; rfl
  rw [h8]
  have hW : w4 p = .ag [.r (.v (.int .u64 ((p % B64 : Nat) : Int))), .r (.v (.int .u64 ((p / B64 % B64 : Nat) : Int))), .r (.v (.int .u64 ((p / B64 / B64 % B64 : Nat) : Int))), .r (.v (.int .u64 ((p / B64 / B64 / B64 % B64 : Nat) : Int)))] := rfl
  rw [hW]
  clear hW h8 hz hmn hB
  refine zbp (T := moE [p % B64, p / B64 % B64, p / B64 / B64 % B64, p / B64 / B64 / B64 % B64, 0, 0, 0, 0]) (by (refine Le.mk [] [] zaj zao zaq zal)) ?_
  generalize p % B64 = r0
  generalize p / B64 % B64 = r1
  generalize p / B64 / B64 % B64 = r2
  generalize p / B64 / B64 / B64 % B64 = r3
  (repeat' (first | refine zad ?_ | (refine zac (fun hb => ?_) (fun hb => ?_) <;> (try (exfalso; omega))) | fail))
  all_goals (first | (exfalso; omega) | exact absurd rfl hb | exact zbb [] (.ag _ _ _ (Rt.agR [.v (.int .u64 (r0 : Int)), .v (.int .u64 (r1 : Int)), .v (.int .u64 (r2 : Int)), .v (.int .u64 (r3 : Int))])) (.bool rfl) rfl rfl rfl rfl rfl (zak rfl) rfl)
theorem zfg : B64 ^ 4 = 115792089237316195423570985008687907853269984665640564039457584007913129639936 := by decide
theorem zn9 (x : Nat) : zan Tryz.prog 165 [.r (.v (.int .u64 (x : Int)))] [] (.r (.v (.bool false))) [] := by
 refine zap Tryz.func165 rfl (Nat.le_of_ble_eq_true rfl) rfl rfl ?_
 (repeat' (first | refine zad ?_ | (refine zac (fun hb => ?_) (fun hb => ?_) <;> (try (exfalso; omega))) | fail))
 all_goals (first | (exfalso; omega) | exact ret1 [] (.bool rfl) rfl rfl rfl)
theorem zlA (x y : Nat) : zan Tryz.prog 160 [.r (.v (.int .u64 (x : Int))), .r (.v (.int .u64 (y : Int)))] [] (.r (.v (.int .i64 (cmpN x y)))) [] := by
 have c1 : x < y → (-1 : Int) = cmpN x y := fun h => by unfold cmpN; rw [if_pos h]
 have c2 : y < x → (1 : Int) = cmpN x y := fun h => by unfold cmpN; rw [if_neg (by omega), if_pos h]
 have c3 : ¬ x < y → ¬ y < x → (0 : Int) = cmpN x y := fun h g => by unfold cmpN; rw [if_neg h, if_neg g]
 generalize cmpN x y = z at *
 refine zap Tryz.func160 rfl (Nat.le_of_ble_eq_true rfl) rfl rfl ?_
 (repeat' (first | refine zad ?_ | (refine is_f 165 ?_; refine zaa (zn9 x) ?_) | (refine is_f 165 ?_; refine zaa (zn9 y) ?_) | (refine zac (fun hb => ?_) (fun hb => ?_) <;> (try (exfalso; omega))) | fail))
 all_goals (first | (exfalso; omega) | exact ret1 [] (.int (c1 (by omega))) rfl rfl rfl | exact ret1 [] (.int (c2 (by omega))) rfl rfl rfl | exact ret1 [] (.int (c3 (by omega) (by omega))) rfl rfl rfl)
def orL : List Int → Int
 | [] => 0
 | a :: l => if a ≠ 0 then a else orL l
theorem zp2 (l : List Int) (i : Nat) (h : i < l.length) : orL (l.drop i) = if l.getD i 0 ≠ 0 then l.getD i 0 else orL (l.drop (i + 1)) := by
 rw [List.drop_eq_getElem_cons h, orL]
 simp [h]
def orS (l : List Int) (i : Nat) : St := ⟨[(3, .r (.v (.int .i64 0))), (6, .r (.sl 1 (nums .i64 l))), (7, .r (.v (.int .i64 (l.length : Int)))), (8, .r (.v (.int .i64 (i : Int))))], [], 0⟩
theorem zkH (l : List Int) (hl : l.length ≤ 1000) : zan Tryz.prog 68 [.r (.sl 1 (nums .i64 l))] [] (.r (.v (.int .i64 (orL l)))) [] := by
 refine zap Tryz.func68 rfl (Nat.le_of_ble_eq_true rfl) rfl rfl ?_
 have hll : (nums .i64 l).length = l.length := zbz _ l
 (repeat' (first | refine zad ?_ | (refine zac (fun hb => ?_) (fun hb => ?_) <;> (try (exfalso; omega))) | fail))
 refine zas (orS l) (fun i => i ≤ l.length ∧ orL (l.drop i) = orL l) (fun i => l.length - i) 0 ⟨Nat.zero_le _, rfl⟩ (by (refine Le.mk [] [] zaj zao zaq zal)) fun i hx => ?_
 obtain ⟨hi, hv⟩ := hx
 rcases Nat.lt_or_ge i l.length with h | h
 ·rw [zp2 l i h] at hv
  have e1 : ¬ l.getD i 0 = 0 → l.getD i 0 = orL l := fun h => by rw [if_pos h] at hv; exact hv
  have e2 : ¬ ¬ l.getD i 0 = 0 → orL (l.drop (i + 1)) = orL l := fun h => by rw [if_neg h] at hv; exact hv
  have hw : IntKind.i64.wrap ((i : Int) + 1) = ((i + 1 : Nat) : Int) := zaT i (by omega)
  (repeat' (first | refine zad ?_ | (refine zac (fun hb => ?_) (fun hb => ?_) <;> (try (exfalso; omega))) | fail))
  all_goals (first | (exfalso; omega) | exact ret1 [] (.int (e1 hb)) rfl rfl rfl | exact ⟨i + 1, ⟨h, e2 hb⟩, by (refine Le.mk [] [] zaj zao zaq zal), by show l.length - (i + 1) < l.length - i; omega⟩)
 ·have : l.drop i = [] := List.drop_eq_nil_of_le h
  rw [this, orL] at hv
  rw [← hv]
  (repeat' (first | refine zad ?_ | (refine zac (fun hb => ?_) (fun hb => ?_) <;> (try (exfalso; omega))) | fail))
  all_goals (first | (exfalso; omega) | exact ret1 [] (.int rfl) rfl rfl rfl)
theorem cmp4 (m n : Nat) (hm : m < B64 ^ 4) (hn : n < B64 ^ 4) : orL [cmpN (m / B64 / B64 / B64 % B64) (n / B64 / B64 / B64 % B64), cmpN (m / B64 / B64 % B64) (n / B64 / B64 % B64), cmpN (m / B64 % B64) (n / B64 % B64), cmpN (m % B64) (n % B64)] = cmpN m n := by
 have hm4 : m / B64 / B64 / B64 / B64 = 0 := by rw [zfg] at hm; unfold B64; omega
 have hn4 : n / B64 / B64 / B64 / B64 = 0 := by rw [zfg] at hn; unfold B64; omega
 have key : ∀ a b x y : Nat, x < B64 → y < B64 → cmpN (x + B64 * a) (y + B64 * b) = if cmpN a b ≠ 0 then cmpN a b else cmpN x y := by
  intro a b x y hx hy
  have n1 : (-1 : Int) ≠ 0 := by decide
  have n2 : (1 : Int) ≠ 0 := by decide
  have n3 : ¬ (0 : Int) ≠ 0 := by simp
  clear hm hn hm4 hn4
  unfold B64 at *
  unfold cmpN
  rcases Nat.lt_trichotomy a b with h | h | h
  ·have g : x + 18446744073709551616 * a < y + 18446744073709551616 * b := by omega
   rw [if_pos g, if_pos h, if_pos n1]
  ·subst h
   rw [if_neg (Nat.lt_irrefl a), if_neg (Nat.lt_irrefl a), if_neg n3]
   rcases Nat.lt_trichotomy x y with h | h | h
   ·have g : x + 18446744073709551616 * a < y + 18446744073709551616 * a := by omega
    rw [if_pos g, if_pos h]
   ·subst h; rw [if_neg (Nat.lt_irrefl _), if_neg (Nat.lt_irrefl _), if_neg (Nat.lt_irrefl _), if_neg (Nat.lt_irrefl _)]
   ·have g : y + 18446744073709551616 * a < x + 18446744073709551616 * a := by omega
    rw [if_neg (Nat.lt_asymm g), if_pos g, if_neg (Nat.lt_asymm h), if_pos h]
  ·have g : y + 18446744073709551616 * b < x + 18446744073709551616 * a := by omega
   rw [if_neg (Nat.lt_asymm g), if_pos g, if_neg (Nat.lt_asymm h), if_pos h, if_pos n2]
 have hp : ∀ x : Nat, x % B64 < B64 := fun x => Nat.mod_lt _ (by decide)
 have e : ∀ x : Nat, x = x % B64 + B64 * (x / B64) := fun x => (Nat.mod_add_div x B64).symm
 have k1 := key (m / B64) (n / B64) (m % B64) (n % B64) (hp _) (hp _)
 have k2 := key (m / B64 / B64) (n / B64 / B64) (m / B64 % B64) (n / B64 % B64) (hp _) (hp _)
 have k3 := key (m / B64 / B64 / B64) (n / B64 / B64 / B64) (m / B64 / B64 % B64) (n / B64 / B64 % B64) (hp _) (hp _)
 have k4 := key (m / B64 / B64 / B64 / B64) (n / B64 / B64 / B64 / B64) (m / B64 / B64 / B64 % B64) (n / B64 / B64 / B64 % B64) (hp _) (hp _)
 rw [← e, ← e] at k1 k2 k3 k4
 rw [hm4, hn4] at k4
 have k5 : cmpN 0 0 = 0 := by decide
 rw [k5, if_neg (by simp)] at k4
 simp only [orL, ← k4]
 rw [k1, k2, k3]
 clear k1 k2 k3 k4 key e
 generalize cmpN (m / B64 / B64 / B64) (n / B64 / B64 / B64) = z3
 generalize cmpN (m / B64 / B64 % B64) (n / B64 / B64 % B64) = z2
 generalize cmpN (m / B64 % B64) (n / B64 % B64) = z1
 generalize cmpN (m % B64) (n % B64) = z0
 by_cases h3 : z3 = 0 <;> by_cases h2 : z2 = 0 <;> by_cases h1 : z1 = 0 <;> by_cases h0 : z0 = 0 <;> simp [h3, h2, h1, h0]
theorem zjF (m n : Nat) (hm : m < B64 ^ 4) (hn : n < B64 ^ 4) : zan Tryz.prog 150 [w4 m, w4 n] [] (.r (.v (.int .i64 (cmpN m n)))) [] := by
 rw [← cmp4 m n hm hn]
 refine zap Tryz.func150 rfl (Nat.le_of_ble_eq_true rfl) rfl rfl ?_
 have c3 := zlA (m / B64 / B64 / B64 % B64) (n / B64 / B64 / B64 % B64)
 have c2 := zlA (m / B64 / B64 % B64) (n / B64 / B64 % B64)
 have c1 := zlA (m / B64 % B64) (n / B64 % B64)
 have c0 := zlA (m % B64) (n % B64)
 unfold w4
 generalize m / B64 / B64 / B64 % B64 = x3 at *
 generalize n / B64 / B64 / B64 % B64 = y3 at *
 generalize m / B64 / B64 % B64 = x2 at *
 generalize n / B64 / B64 % B64 = y2 at *
 generalize m / B64 % B64 = x1 at *
 generalize n / B64 % B64 = y1 at *
 generalize m % B64 = x0 at *
 generalize n % B64 = y0 at *
 generalize cmpN x3 y3 = z3 at *
 generalize cmpN x2 y2 = z2 at *
 generalize cmpN x1 y1 = z1 at *
 generalize cmpN x0 y0 = z0 at *
 have cO := zkH [z3, z2, z1, z0] (by simp)
 generalize orL [z3, z2, z1, z0] = r at *
 have hE : [[.v (.int .i64 z3)], [.v (.int .i64 z2)], [.v (.int .i64 z1)], [.v (.int .i64 z0)]] = nums .i64 [z3, z2, z1, z0] := rfl
 (repeat' (first | refine zad ?_ | (refine is_f 160 ?_; refine zaa (c3) ?_) | (refine is_f 160 ?_; refine zaa (c2) ?_) | (refine is_f 160 ?_; refine zaa (c1) ?_) | (refine is_f 160 ?_; refine zaa (c0) ?_) | (refine is_f 68 ?_; refine zjd (cO) ?_) | (refine zac (fun hb => ?_) (fun hb => ?_) <;> (try (exfalso; omega))) | fail))
 all_goals (first | (exfalso; omega) | exact ret1 [] (.int rfl) rfl rfl rfl)
end Go.Proofs.YtibedaeefnjjlaaGreat
namespace Go.Wd
open Go
def wo (n i : Nat) : Nat := n / B64 ^ i % B64
theorem zdB (n i : Nat) : wo n i < B64 := Nat.mod_lt _ (by decide)
theorem wo0 (n : Nat) : wo n 0 = n % B64 := by unfold wo; rw [Nat.pow_zero, Nat.div_one]
theorem wo1 (n : Nat) : wo n 1 = n / B64 % B64 := by unfold wo; rw [Nat.pow_one]
theorem wo2 (n : Nat) : wo n 2 = n / B64 / B64 % B64 := by unfold wo; rw [Nat.pow_succ, Nat.pow_one, Nat.div_div_eq_div_mul]
theorem wo3 (n : Nat) : wo n 3 = n / B64 / B64 / B64 % B64 := by unfold wo; rw [Nat.pow_succ, Nat.pow_succ, Nat.pow_one, Nat.div_div_eq_div_mul, Nat.div_div_eq_div_mul, Nat.mul_assoc]
theorem ws4 (n : Nat) : ws n 4 = [wo n 0, wo n 1, wo n 2, wo n 3] := by rw [wo0, wo1, wo2, wo3]; rfl
theorem zaQ : B64 = 2 ^ 64 := by decide
theorem zem {n i : Nat} (h : n < B64 ^ i) : wo n i = 0 := by unfold wo; rw [Nat.div_eq_of_lt h]; rfl
theorem zsK (n w r : Nat) (hr : r < 64) : wo (n * 2 ^ (64 * w + r)) w = wo n 0 * 2 ^ r % B64 := by
 have e : n * 2 ^ (64 * w + r) = n * 2 ^ r * B64 ^ w := by rw [Nat.pow_add, Nat.pow_mul, ← zaQ, Nat.mul_assoc, Nat.mul_comm (B64 ^ w)]
 have hp : 0 < B64 ^ w := Nat.pow_pos (by decide)
 unfold wo
 rw [e, Nat.mul_div_cancel _ hp, Nat.pow_zero, Nat.div_one, Nat.mod_mul_mod]
theorem zne (n w r i : Nat) (hi : i < w) : wo (n * 2 ^ (64 * w + r)) i = 0 := by
 obtain ⟨d, rfl⟩ : ∃ d, w = i + 1 + d := ⟨w - (i + 1), by omega⟩
 have e : n * 2 ^ (64 * (i + 1 + d) + r) = (n * 2 ^ r * B64 ^ d * B64) * B64 ^ i := by
  rw [Nat.pow_add, Nat.pow_mul, ← zaQ, Nat.pow_add, Nat.pow_succ]
  simp only [Nat.mul_assoc, Nat.mul_comm, Nat.mul_left_comm]
 have hp : 0 < B64 ^ i := Nat.pow_pos (by decide)
 unfold wo
 rw [e, Nat.mul_div_cancel _ hp, Nat.mul_mod_left]
theorem zqn (h r : Nat) (hr : r ≤ 64) : h / 2 ^ (64 - r) % B64 = h / B64 % B64 * 2 ^ r % B64 + h % B64 / 2 ^ (64 - r) ∧ h / B64 % B64 * 2 ^ r % B64 % 2 ^ r = 0 ∧ h % B64 / 2 ^ (64 - r) < 2 ^ r := by
 obtain ⟨s, hs⟩ : ∃ s, s = 64 - r := ⟨_, rfl⟩
 have hb : B64 = 2 ^ s * 2 ^ r := by rw [zaQ, ← Nat.pow_add]; congr 1; omega
 rw [← hs]
 have hps : 0 < 2 ^ s := Nat.pow_pos (by decide)
 have hpr : 0 < 2 ^ r := Nat.pow_pos (by decide)
 generalize 2 ^ s = S at *
 generalize 2 ^ r = R at *
 clear hs
 have hlt : h % B64 / S < R := by
  rw [Nat.div_lt_iff_lt_mul hps, Nat.mul_comm, ← hb]
  exact Nat.mod_lt _ (by decide)
 have hm : h / B64 % B64 * R % B64 = R * (h / B64 % S) := by
  rw [Nat.mul_comm, hb, Nat.mul_comm S R, Nat.mul_mod_mul_left, Nat.mod_mul_left_mod]
 refine ⟨?_, by rw [hm, Nat.mul_mod_right], hlt⟩
 have hd : h / S = R * (h / B64) + h % B64 / S := by
  have e := Nat.mod_add_div h B64
  have : h = h % B64 + S * (R * (h / B64)) := by
   rw [← Nat.mul_assoc, ← hb]; exact e.symm
  have e2 : h / S = (h % B64 + S * (R * (h / B64))) / S := by rw [← this]
  rw [e2, Nat.add_mul_div_left _ _ hps, Nat.add_comm]
 rw [hd, hm]
 have hq := Nat.mod_add_div (h / B64) S
 have hc : h / B64 % S < S := Nat.mod_lt _ hps
 generalize h / B64 % S = c at *
 generalize h / B64 / S = q at *
 generalize h % B64 / S = e at *
 rw [← hq, Nat.mul_add, hb]
 have e1 : R * c + R * (S * q) + e = (R * c + e) + S * R * q := by
  have : R * (S * q) = S * R * q := by rw [← Nat.mul_assoc, Nat.mul_comm R S]
  omega
 rw [e1, Nat.add_mul_mod_self_left]
 refine Nat.mod_eq_of_lt ?_
 have h3 : R * (c + 1) ≤ R * S := Nat.mul_le_mul (Nat.le_refl _) hc
 rw [Nat.mul_comm S R]
 rw [Nat.mul_add] at h3
 omega
theorem ztO (n w r j : Nat) (hr : r < 64) : wo (n * 2 ^ (64 * w + r)) (w + (j + 1)) = wo n (j + 1) * 2 ^ r % B64 + wo n j / 2 ^ (64 - r) ∧ wo n (j + 1) * 2 ^ r % B64 % 2 ^ r = 0 ∧ wo n j / 2 ^ (64 - r) < 2 ^ r := by
 have e : n * 2 ^ (64 * w + r) / B64 ^ (w + (j + 1)) = n / B64 ^ j / 2 ^ (64 - r) := by
  have e1 : n * 2 ^ (64 * w + r) = n * (2 ^ r * B64 ^ w) := by rw [Nat.pow_add, Nat.pow_mul, ← zaQ, Nat.mul_comm (B64 ^ w)]
  have e2 : B64 ^ (w + (j + 1)) = B64 ^ j * 2 ^ (64 - r) * (2 ^ r * B64 ^ w) := by
   have hb : B64 = 2 ^ (64 - r) * 2 ^ r := by rw [zaQ, ← Nat.pow_add]; congr 1; omega
   rw [Nat.pow_add, Nat.pow_succ]
   conv => lhs; rw [show B64 ^ w * (B64 ^ j * B64) = B64 ^ w * (B64 ^ j * (2 ^ (64 - r) * 2 ^ r)) by rw [← hb]]
   simp only [Nat.mul_assoc, Nat.mul_comm, Nat.mul_left_comm]
  rw [e1, e2, Nat.mul_div_mul_right _ _ (Nat.mul_pos (Nat.pow_pos (by decide)) (Nat.pow_pos (by decide))), Nat.div_div_eq_div_mul]
 have h := zqn (n / B64 ^ j) r (by omega)
 have e3 : n / B64 ^ (j + 1) = n / B64 ^ j / B64 := by rw [Nat.pow_succ, Nat.div_div_eq_div_mul]
 unfold wo
 rw [e, e3]
 exact h
theorem zj0 (a b k : Nat) (ha : a % 2 ^ k = 0) (hb : b < 2 ^ k) : a ||| b = a + b := by
 have e : a = 2 ^ k * (a / 2 ^ k) := by
  have := Nat.mod_add_div a (2 ^ k)
  omega
 rw [e, ← Nat.two_pow_add_eq_or_of_lt hb]
theorem zpx (n i : Nat) : wo (n / 2) i = wo n i / 2 + wo n (i + 1) % 2 * 9223372036854775808 := by
 have e : n / 2 / B64 ^ i = n / B64 ^ i / 2 := by rw [Nat.div_div_eq_div_mul, Nat.div_div_eq_div_mul, Nat.mul_comm]
 unfold wo
 rw [e, Nat.pow_succ, ← Nat.div_div_eq_div_mul]
 unfold B64
 omega
def bl (n : Nat) : Nat := if n = 0 then 0 else n.log2 + 1
theorem ziJ (n : Nat) : n < 2 ^ bl n := by
 unfold bl
 split
 ·rename_i h; subst h; decide
 ·exact Nat.lt_log2_self
theorem zjC (n : Nat) (h : n ≠ 0) : 2 ^ (bl n - 1) ≤ n := by
 unfold bl
 rw [if_neg h]
 exact Nat.log2_self_le h
theorem zg0 {n : Nat} (h : n ≠ 0) : 0 < bl n := by unfold bl; rw [if_neg h]; omega
theorem znr (n k : Nat) (h1 : 2 ^ k ≤ n) (h2 : n < 2 ^ (k + 1)) : bl n = k + 1 := by
 have hn : n ≠ 0 := by have : 0 < 2 ^ k := Nat.pow_pos (by decide); omega
 have a1 := ziJ n
 have a2 := zjC n hn
 have a3 := zg0 hn
 rcases Nat.lt_trichotomy (bl n) (k + 1) with h | h | h
 ·have : 2 ^ bl n ≤ 2 ^ k := Nat.pow_le_pow_right (by decide) (by omega)
  omega
 ·exact h
 ·have : 2 ^ (k + 1) ≤ 2 ^ (bl n - 1) := Nat.pow_le_pow_right (by decide) (by omega)
  omega
theorem zqD (x : Nat) (h : x < B64) : Lib.bitLen x = bl x := by
 by_cases h0 : x = 0
 ·subst h0; rfl
 ·obtain ⟨b1, b2, b3⟩ := Lib.bitLenAux_bounds 64 x (by rw [← zaQ]; exact h) h0
  have := znr x (Lib.bitLenAux 64 x - 1) b2 (by rw [Nat.sub_add_cancel b1]; exact b3)
  rw [this]
  show Lib.bitLenAux 64 x = _
  omega
theorem zrh (a b : Nat) (ha : a < B64) (hb : b ≠ 0) : bl (a + B64 * b) = 64 + bl b := by
 have h1 := ziJ b
 have h2 := zjC b hb
 have h3 := zg0 hb
 have e : 64 + bl b = (64 + (bl b - 1)) + 1 := by omega
 rw [e]
 refine znr _ _ ?_ ?_
 ·rw [Nat.pow_add, ← zaQ]
  have := Nat.mul_le_mul (Nat.le_refl B64) h2
  omega
 ·rw [← e, Nat.pow_add, ← zaQ]
  have := Nat.mul_le_mul (Nat.le_refl B64) (show b + 1 ≤ 2 ^ bl b from h1)
  rw [Nat.mul_add] at this
  omega
theorem zce {n k : Nat} (h : n < 2 ^ k) : bl n ≤ k := by
 by_cases h0 : n = 0
 ·subst h0; unfold bl; rw [if_pos rfl]; omega
 ·rcases Nat.lt_or_ge k (bl n) with h1 | h1
  ·have := zjC n h0
   have : 2 ^ k ≤ 2 ^ (bl n - 1) := Nat.pow_le_pow_right (by decide) (by omega)
   omega
  ·exact h1
end Go.Wd
