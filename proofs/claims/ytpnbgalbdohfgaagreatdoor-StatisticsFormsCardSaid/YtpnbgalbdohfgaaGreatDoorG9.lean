/- Texts of the second layer in one: Wd7 Wd8 Wd9. -/
import Derived.Test.YtpnbgalbdohfgaaGreatDoorG8
set_option maxHeartbeats 2000000
set_option maxRecDepth 100000
set_option linter.unusedVariables false
set_option linter.unusedSimpArgs false
namespace Go.Proofs.YtpnbgalbdohfgaaGreatDoor
open Go.RowKit Go.Ab Go.Wd
instance zn7 : EqAr Tryz.prog 24 := ⟨by kernel_rfl⟩
def w4 (n : Nat) : AV := .ag [.r (.v (.int .u64 ((n % B64 : Nat) : Int))), .r (.v (.int .u64 ((n / B64 % B64 : Nat) : Int))), .r (.v (.int .u64 ((n / B64 / B64 % B64 : Nat) : Int))), .r (.v (.int .u64 ((n / B64 / B64 / B64 % B64 : Nat) : Int)))]
theorem Rt.w4 {H : Nat → Option Blk} {L : Nat} {G : List Nat} (n : Nat) : Rt H L G (Go.Proofs.YtpnbgalbdohfgaaGreatDoor.w4 n) (Go.Proofs.YtpnbgalbdohfgaaGreatDoor.w4 n) [] := .ag _ _ _ (Rt.agR [.v (.int .u64 ((n % B64 : Nat) : Int)), .v (.int .u64 ((n / B64 % B64 : Nat) : Int)), .v (.int .u64 ((n / B64 / B64 % B64 : Nat) : Int)), .v (.int .u64 ((n / B64 / B64 / B64 % B64 : Nat) : Int))])
theorem four (l : List Nat) (h : l.length = 4) (hw : Wds l) : l = ws (val l) 4 := by
 have := zi6 l hw
 rw [h] at this
 exact this.symm
def adG (a b : List Nat) : Nat → Nat → Nat → List Nat → Nat × List Nat
 | 0, _, c, l => (c, l)
 | j + 1, i, c, l => adG a b j (i + 1) ((a.getD i 0 + b.getD i 0 + c) / B64) (l.set i ((a.getD i 0 + b.getD i 0 + c) % B64))
theorem zcd (a : List Nat) (i : Nat) (h : i < a.length) : val (a.take (i + 1)) = val (a.take i) + B64 ^ i * a.getD i 0 := by
 rw [List.take_succ_eq_append_getElem h, zcg, List.length_take, Nat.min_eq_left (Nat.le_of_lt h)]
 simp [val, h]
theorem zjD (a b : List Nat) (ha : Wds a) (hb : Wds b) (hl : a.length = b.length) : ∀ (j i c : Nat) (l : List Nat), j + i = a.length → l.length = a.length → Wds l → c ≤ 1 → (∀ p, i ≤ p → l.getD p 0 = 0) → val l + B64 ^ i * c = val (a.take i) + val (b.take i) →
  Wds (adG a b j i c l).2 ∧ (adG a b j i c l).2.length = a.length ∧ (adG a b j i c l).1 ≤ 1 ∧ val (adG a b j i c l).2 + B64 ^ a.length * (adG a b j i c l).1 = val a + val b
 | 0, i, c, l, hj, hll, hw, hc, hz, hv => by
  have : i = a.length := by omega
  subst this
  rw [List.take_length, hl, List.take_length, ← hl] at hv
  exact ⟨hw, hll, hc, hv⟩
 | j + 1, i, c, l, hj, hll, hw, hc, hz, hv => by
  have h1 := ha.get i
  have h2 := hb.get i
  have hvs := zdp l i ((a.getD i 0 + b.getD i 0 + c) % B64) (by omega)
  rw [hz i (Nat.le_refl _), Nat.mul_zero, Nat.add_zero] at hvs
  have e1 := zcd a i (by omega)
  have e2 := zcd b i (by omega)
  rw [adG]
  refine zjD a b ha hb hl j (i + 1) _ _ (by omega) (by rw [List.length_set]; exact hll) (hw.set i (by unfold B64; omega)) (by unfold B64 at *; omega) (fun p hp => ?_) ?_
  ·have : i ≠ p := by omega
   have e := hz p (by omega)
   simpa [List.getD_eq_getElem?_getD, List.getElem?_set, this] using e
  ·rw [hvs, e1, e2, Nat.pow_succ]
   have hm := Nat.mod_add_div (a.getD i 0 + b.getD i 0 + c) B64
   generalize (a.getD i 0 + b.getD i 0 + c) % B64 = r at *
   generalize (a.getD i 0 + b.getD i 0 + c) / B64 = q at *
   generalize a.getD i 0 = x at *
   generalize b.getD i 0 = y at *
   generalize B64 ^ i = M at *
   have e3 : M * (r + B64 * q) = M * (x + y + c) := by rw [hm]
   rw [Nat.mul_add, ← Nat.mul_assoc, Nat.mul_add, Nat.mul_add] at e3
   omega
def adS (a b : List Nat) (i c : Nat) (l : List Nat) : St := ⟨[(2, .pt 0 0), (3, .pt 1 0), (4, .pt 2 0), (5, .r (.v (.int .u64 (c : Int)))), (7, .r (.v (.int .i64 (i : Int))))], [(0, some (.var 24 (wv a))), (1, some (.var 24 (wv b))), (2, some (.var 24 (wv l)))], 3⟩
theorem zgP (a b : List Nat) (i c : Nat) (l : List Nat) : za7 ⟨0, zcq []⟩ (adS a b i c l) (rho []) [] = true := by
 have hid : ∀ T l, (Blk.var T (wv l)).ids = [] := fun T l => by rw [Blk.ids, zbG]
 unfold za7 adS; simp only [List.all_cons, List.all_nil, hid]; rfl
theorem zn5 (m n : Nat) (hm : m < B64 ^ 4) (hn : n < B64 ^ 4) (hmn : m + n < B64 ^ 4) : zaq Tryz.prog 84 [w4 m, w4 n] [] (.tu [w4 (m + n), .r (.v (.int .u64 0))]) [] := by
 have hla := zcC 4 m
 have hlb := zcC 4 n
 have hwa := zdM 4 m
 have hwb := zdM 4 n
 have hva := zdL 4 m hm
 have hvb := zdL 4 n hn
 refine zaw Tryz.func84 rfl (Nat.le_of_ble_eq_true rfl) rfl rfl ?_
 (repeat' (first | refine zae ?_ | (refine zab (fun hb => ?_) (fun hb => ?_) <;> (try (exfalso; omega))) | fail))
 obtain ⟨g1, g2, g3, g4⟩ := zjD (ws m 4) (ws n 4) hwa hwb (by rw [hla, hlb]) 4 0 0 [0, 0, 0, 0] (by rw [hla]) (by rw [hla]; rfl) (fun a ha => by simp at ha; subst ha; decide) (by omega) (fun p _ => by rcases p with _ | _ | _ | _ | p <;> rfl) (by simp [val])
 have hfin : adG (ws m 4) (ws n 4) 4 0 0 [0, 0, 0, 0] = (0, ws (m + n) 4) := by
  generalize adG (ws m 4) (ws n 4) 4 0 0 [0, 0, 0, 0] = R at *
  obtain ⟨c, l⟩ := R
  dsimp only at *
  rw [hva, hvb, hla] at g4
  have hc : c = 0 := by
   rcases Nat.eq_zero_or_pos c with h | h
   ·exact h
   ·have : B64 ^ 4 * 1 ≤ B64 ^ 4 * c := Nat.mul_le_mul (Nat.le_refl _) h
    omega
  subst hc
  have e := four l (by rw [g2, hla]) g1
  rw [Nat.mul_zero, Nat.add_zero] at g4
  rw [g4] at e
  rw [e]
 refine zap (fun x : Nat × Nat × List Nat => adS (ws m 4) (ws n 4) x.1 x.2.1 x.2.2) (fun x => x.1 ≤ 4 ∧ x.2.2.length = 4 ∧ x.2.1 ≤ 1 ∧ adG (ws m 4) (ws n 4) (4 - x.1) x.1 x.2.1 x.2.2 = (0, ws (m + n) 4)) (fun x => 4 - x.1) (0, 0, [0, 0, 0, 0]) ⟨by omega, rfl, by show 0 ≤ 1; omega, hfin⟩ (by (refine Le.mk [] [] zai zal zak zah)) fun x hx => ?_
 obtain ⟨i, c, l⟩ := x
 obtain ⟨hx1, hx2, hx3, hx4⟩ := hx
 dsimp only at hx1 hx2 hx3 hx4
 change awp _ _ _ _ _ (adS (ws m 4) (ws n 4) i c l)
 rcases Nat.lt_or_ge i 4 with hi | hi
 ·obtain ⟨j, hj⟩ : ∃ j, 4 - i = j + 1 := ⟨4 - i - 1, by omega⟩
  have hj2 : j = 4 - (i + 1) := by omega
  rw [hj, adG] at hx4
  subst hj2
  have ga : (wv (ws m 4))[0 + i * 1]? = some (.r (.v (.int .u64 ((ws m 4).getD i 0 : Nat)))) := by rw [show 0 + i * 1 = i by omega]; exact zev (by omega)
  have gb : (wv (ws n 4))[0 + i * 1]? = some (.r (.v (.int .u64 ((ws n 4).getD i 0 : Nat)))) := by rw [show 0 + i * 1 = i by omega]; exact zev (by omega)
  have hxa := hwa.get i
  have hxb := hwb.get i
  generalize ws m 4 = a at *
  generalize ws n 4 = b at *
  have hc1 : (a.getD i 0 + b.getD i 0 + c) / B64 ≤ 1 := by unfold B64 at *; omega
  generalize a.getD i 0 = x at *
  generalize b.getD i 0 = y at *
  have key : ∀ i0, i = i0 → IntKind.i64.wrap ((i0 : Int) + 1) = ((i0 + 1 : Nat) : Int) := fun i0 h => zbg i0 (by omega)
  obtain ⟨l0, l1, l2, l3, rfl⟩ : ∃ l0 l1 l2 l3, l = [l0, l1, l2, l3] := by
   match l, hx2 with
   | [l0, l1, l2, l3], _ => exact ⟨l0, l1, l2, l3, rfl⟩
  have hcase : i = 0 ∨ i = 1 ∨ i = 2 ∨ i = 3 := by omega
  rcases hcase with rfl | rfl | rfl | rfl
  ·have hnum := zgP a b (0 + 1) ((x + y + c) / B64) ([l0, l1, l2, l3].set 0 ((x + y + c) % B64))
   (repeat' (first | refine zae ?_ | ((refine is_f 83 ?_; refine zag rfl zaa (zc5 rfl rfl rfl hx3) ?_); try dsimp only [AV.unfr, AV.unfrs, frsL, zaO, rdOf, @List.length_cons Blk, @List.length_nil Blk, @List.nil_append (Nat × Option Blk), @List.cons_append (Nat × Option Blk), @List.nil_append Blk, @List.cons_append Blk, Nat.add_zero, Nat.zero_add, Nat.reduceAdd]) | (refine zab (fun hb => ?_) (fun hb => ?_) <;> (try (exfalso; omega))) | fail))
   all_goals (first | (exfalso; omega) | exact ⟨(0 + 1, (x + y + c) / B64, [l0, l1, l2, l3].set 0 ((x + y + c) % B64)), ⟨by show 0 + 1 ≤ 4; omega, rfl, hc1, hx4⟩, by show Le _ _ (adS a b (0 + 1) ((x + y + c) / B64) ([l0, l1, l2, l3].set 0 ((x + y + c) % B64))); (refine Le.mk [] [] zai zal zak zah), by show 4 - (0 + 1) < 4 - 0; omega⟩)
  ·have hnum := zgP a b (1 + 1) ((x + y + c) / B64) ([l0, l1, l2, l3].set 1 ((x + y + c) % B64))
   (repeat' (first | refine zae ?_ | ((refine is_f 83 ?_; refine zag rfl zaa (zc5 rfl rfl rfl hx3) ?_); try dsimp only [AV.unfr, AV.unfrs, frsL, zaO, rdOf, @List.length_cons Blk, @List.length_nil Blk, @List.nil_append (Nat × Option Blk), @List.cons_append (Nat × Option Blk), @List.nil_append Blk, @List.cons_append Blk, Nat.add_zero, Nat.zero_add, Nat.reduceAdd]) | (refine zab (fun hb => ?_) (fun hb => ?_) <;> (try (exfalso; omega))) | fail))
   all_goals (first | (exfalso; omega) | exact ⟨(1 + 1, (x + y + c) / B64, [l0, l1, l2, l3].set 1 ((x + y + c) % B64)), ⟨by show 1 + 1 ≤ 4; omega, rfl, hc1, hx4⟩, by show Le _ _ (adS a b (1 + 1) ((x + y + c) / B64) ([l0, l1, l2, l3].set 1 ((x + y + c) % B64))); (refine Le.mk [] [] zai zal zak zah), by show 4 - (1 + 1) < 4 - 1; omega⟩)
  ·have hnum := zgP a b (2 + 1) ((x + y + c) / B64) ([l0, l1, l2, l3].set 2 ((x + y + c) % B64))
   (repeat' (first | refine zae ?_ | ((refine is_f 83 ?_; refine zag rfl zaa (zc5 rfl rfl rfl hx3) ?_); try dsimp only [AV.unfr, AV.unfrs, frsL, zaO, rdOf, @List.length_cons Blk, @List.length_nil Blk, @List.nil_append (Nat × Option Blk), @List.cons_append (Nat × Option Blk), @List.nil_append Blk, @List.cons_append Blk, Nat.add_zero, Nat.zero_add, Nat.reduceAdd]) | (refine zab (fun hb => ?_) (fun hb => ?_) <;> (try (exfalso; omega))) | fail))
   all_goals (first | (exfalso; omega) | exact ⟨(2 + 1, (x + y + c) / B64, [l0, l1, l2, l3].set 2 ((x + y + c) % B64)), ⟨by show 2 + 1 ≤ 4; omega, rfl, hc1, hx4⟩, by show Le _ _ (adS a b (2 + 1) ((x + y + c) / B64) ([l0, l1, l2, l3].set 2 ((x + y + c) % B64))); (refine Le.mk [] [] zai zal zak zah), by show 4 - (2 + 1) < 4 - 2; omega⟩)
  ·have hnum := zgP a b (3 + 1) ((x + y + c) / B64) ([l0, l1, l2, l3].set 3 ((x + y + c) % B64))
   (repeat' (first | refine zae ?_ | ((refine is_f 83 ?_; refine zag rfl zaa (zc5 rfl rfl rfl hx3) ?_); try dsimp only [AV.unfr, AV.unfrs, frsL, zaO, rdOf, @List.length_cons Blk, @List.length_nil Blk, @List.nil_append (Nat × Option Blk), @List.cons_append (Nat × Option Blk), @List.nil_append Blk, @List.cons_append Blk, Nat.add_zero, Nat.zero_add, Nat.reduceAdd]) | (refine zab (fun hb => ?_) (fun hb => ?_) <;> (try (exfalso; omega))) | fail))
   all_goals (first | (exfalso; omega) | exact ⟨(3 + 1, (x + y + c) / B64, [l0, l1, l2, l3].set 3 ((x + y + c) % B64)), ⟨by show 3 + 1 ≤ 4; omega, rfl, hc1, hx4⟩, by show Le _ _ (adS a b (3 + 1) ((x + y + c) / B64) ([l0, l1, l2, l3].set 3 ((x + y + c) % B64))); (refine Le.mk [] [] zai zal zak zah), by show 4 - (3 + 1) < 4 - 3; omega⟩)
 ·have hie : 4 - i = 0 := by omega
  rw [hie, adG] at hx4
  injection hx4 with h1 h2
  subst h1 h2
  (repeat' (first | refine zae ?_ | (refine zab (fun hb => ?_) (fun hb => ?_) <;> (try (exfalso; omega))) | fail))
  all_goals (first | (exfalso; omega) | exact zcc [] (Rt.w4 (m + n)) (.int rfl) rfl rfl rfl rfl rfl (zan rfl) rfl)
def moO (m n i : Nat) (l : List Nat) : St := ⟨[(3, .pt 1 0), (4, .pt 2 0), (6, .pt 3 0), (16, .ag (wv (ws m 4))), (17, .r (.v (.int .i64 (i : Int))))], [(1, some (.var 24 (wv (ws n 4)))), (2, some (.var 24 (wv [0, 0, 0, 0]))), (3, some (.var 114 (wv l)))], 4⟩
def moI (m n i x k c : Nat) (l : List Nat) : St := ⟨[(3, .pt 1 0), (4, .pt 2 0), (6, .pt 3 0), (7, .r (.v (.int .i64 (i : Int)))), (8, .r (.v (.int .u64 (x : Int)))), (9, .r (.v (.int .u64 (c : Int)))), (16, .ag (wv (ws m 4))), (17, .r (.v (.int .i64 (i : Int)))), (21, .ag (wv (ws n 4))), (22, .r (.v (.int .i64 (k : Int))))], [(1, some (.var 24 (wv (ws n 4)))), (2, some (.var 24 (wv [0, 0, 0, 0]))), (3, some (.var 114 (wv l)))], 4⟩
def moE (l : List Nat) : St := ⟨[(4, .pt 2 0), (6, .pt 3 0), (17, .r (.v (.int .i64 4)))], [(2, some (.var 24 (wv [0, 0, 0, 0]))), (3, some (.var 114 (wv l)))], 4⟩
theorem zlm (m n i : Nat) (l : List Nat) : za7 ⟨0, zcq []⟩ (moO m n i l) (rho []) [] = true := by
 have hid : ∀ T l, (Blk.var T (wv l)).ids = [] := fun T l => by rw [Blk.ids, zbG]
 have hag : ∀ l, (AV.ag (wv l)).ids = [] := fun l => by rw [AV.ids, zbG]
 unfold za7 moO; simp only [List.all_cons, List.all_nil, hid, hag]; rfl
theorem ziJ (m n i x k c : Nat) (l : List Nat) : za7 ⟨0, zcq []⟩ (moI m n i x k c l) (rho []) [] = true := by
 have hid : ∀ T l, (Blk.var T (wv l)).ids = [] := fun T l => by rw [Blk.ids, zbG]
 have hag : ∀ l, (AV.ag (wv l)).ids = [] := fun l => by rw [AV.ids, zbG]
 unfold za7 moI; simp only [List.all_cons, List.all_nil, hid, hag]; rfl
theorem znI (m n : Nat) (hm : m < B64 ^ 4) (hn : n < B64 ^ 4) (hmn : m * n < B64 ^ 4) : zaq Tryz.prog 52 [w4 m, w4 n] [] (.tu [w4 (m * n), .r (.v (.bool true))]) [] := by
 have hla := zcC 4 m
 have hlb := zcC 4 n
 have hwa := zdM 4 m
 have hwb := zdM 4 n
 obtain ⟨ml1, ml2, ml3⟩ := zkb (ws m 4) (ws n 4) 8 hwa hwb (by omega)
 rw [zdL 4 m hm, zdL 4 n hn] at ml3
 have hR : mOut (ws m 4) (ws n 4) 4 0 (List.replicate 8 0) = ws (m * n) 8 := by
  have e := zi6 _ ml1
  rw [ml2, ml3, hla] at e
  exact e.symm
 clear ml1 ml2 ml3
 refine zaw Tryz.func52 rfl (Nat.le_of_ble_eq_true rfl) rfl rfl ?_
 (repeat' (first | refine zae ?_ | (refine zab (fun hb => ?_) (fun hb => ?_) <;> (try (exfalso; omega))) | fail))
 refine zap (fun x : Nat × List Nat => moO m n x.1 x.2) (fun x => x.1 ≤ 4 ∧ x.2.length = 8 ∧ Wds x.2 ∧ mOut (ws m 4) (ws n 4) (4 - x.1) x.1 x.2 = ws (m * n) 8) (fun x => 4 - x.1) (0, List.replicate 8 0) ⟨by omega, rfl, fun a ha => by rw [List.eq_of_mem_replicate ha]; decide, hR⟩ (by (refine Le.mk [] [] zai zal zak zah)) fun x hx => ?_
 obtain ⟨i, l⟩ := x
 obtain ⟨hx1, hx2, hx3, hx4⟩ := hx
 dsimp only at hx1 hx2 hx3 hx4
 change awp _ _ _ _ _ (moO m n i l)
 rcases Nat.lt_or_ge i 4 with hi | hi
 ·have hx0 := hwa.get i
  have ga : (wv (ws m 4))[i]? = some (.r (.v (.int .u64 ((ws m 4).getD i 0 : Nat)))) := zev (by omega)
  obtain ⟨j, hj⟩ : ∃ j, 4 - i = j + 1 := ⟨4 - i - 1, by omega⟩
  have hj2 : j = 4 - (i + 1) := by omega
  rw [hj, mOut, hlb] at hx4
  subst hj2
  generalize (ws m 4).getD i 0 = x at *
  (repeat' (first | refine zae ?_ | (refine zab (fun hb => ?_) (fun hb => ?_) <;> (try (exfalso; omega))) | fail))
  refine zap (fun y : Nat × Nat × List Nat => moI m n i x y.1 y.2.1 y.2.2) (fun y => y.1 ≤ 4 ∧ y.2.2.length = 8 ∧ Wds y.2.2 ∧ y.2.1 < B64 ∧ mIn x (ws n 4) i (4 - y.1) y.1 y.2.1 y.2.2 = mIn x (ws n 4) i 4 0 0 l) (fun y => 4 - y.1) (0, 0, l) ⟨by omega, hx2, hx3, by show 0 < B64; decide, rfl⟩ (by have hnum := ziJ m n i x 0 0 l; (refine Le.mk [] [] zai zal zak zah)) fun y hy => ?_
  obtain ⟨k, c, q⟩ := y
  obtain ⟨hy1, hy2, hy3, hy4, hy5⟩ := hy
  dsimp only at hy1 hy2 hy3 hy4 hy5
  change awp _ _ _ _ _ (moI m n i x k c q)
  rcases Nat.lt_or_ge k 4 with hk | hk
  ·have hy0 := hwb.get k
   have gb : (wv (ws n 4))[k]? = some (.r (.v (.int .u64 ((ws n 4).getD k 0 : Nat)))) := zev (by omega)
   have gq : (wv q)[0 + (i + k) * 1]? = some (.r (.v (.int .u64 (q.getD (i + k) 0 : Nat)))) := by rw [show 0 + (i + k) * 1 = i + k by omega]; exact zev (by omega)
   have hq0 := hy3.get (i + k)
   obtain ⟨r, hr⟩ : ∃ r, 4 - k = r + 1 := ⟨4 - k - 1, by omega⟩
   have hr2 : r = 4 - (k + 1) := by omega
   rw [hr, mIn] at hy5
   subst hr2
   have sik := zeh i k (by omega)
   have cM := zka x ((ws n 4).getD k 0) hx0 hy0
   generalize (ws n 4).getD k 0 = y at *
   generalize q.getD (i + k) 0 = s at *
   obtain ⟨r1, r2, r3, r4⟩ := ziQ (zf1 hx0 hy0) hq0 hy4
   rw [Nat.add_comm (x * y % B64) s] at r1 r2 r3
   have a1 := zcB (x * y / B64) ((s + x * y % B64) / B64) r3
   have a2 := zcB (x * y / B64 + (s + x * y % B64) / B64) (((s + x * y % B64) % B64 + c) / B64) (by rw [r2]; exact r4)
   rw [r2] at a2
   have hE : setA (wv q) (0 + (i + k) * 1) [.r (.v (.int .u64 ((((s + x * y % B64) % B64 + c) % B64 : Nat) : Int)))] = wv (q.set (i + k) ((x * y + s + c) % B64)) := by
    rw [r1, show 0 + (i + k) * 1 = i + k by omega]; exact zeY q _ _ (by omega)
   have hlen : Nat.ble (0 + (i + k) * 1 + 1) (wv q).length = true := by rw [Nat.ble_eq, zeX]; omega
   have hr5 : (x * y + s + c) % B64 < B64 := by unfold B64; omega
   have hnum := ziJ m n i x (k + 1) ((x * y + s + c) / B64) (q.set (i + k) ((x * y + s + c) % B64))
   have hik : i + k < 8 := by omega
   clear r1 r2
   (repeat' (first | refine zae ?_ | (refine is_f 82 ?_; refine zaf (cM) ?_) | ((refine is_f 83 ?_; refine zag rfl zaa (ziK rfl rfl rfl) ?_); try dsimp only [AV.unfr, AV.unfrs, frsL, zaO, rdOf, @List.length_cons Blk, @List.length_nil Blk, @List.nil_append (Nat × Option Blk), @List.cons_append (Nat × Option Blk), @List.nil_append Blk, @List.cons_append Blk, Nat.add_zero, Nat.zero_add, Nat.reduceAdd]) | (refine zab (fun hb => ?_) (fun hb => ?_) <;> (try (exfalso; omega))) | fail))
   all_goals (first | (exfalso; omega) | exact ⟨(k + 1, (x * y + s + c) / B64, q.set (i + k) ((x * y + s + c) % B64)), ⟨hk, by rw [List.length_set]; exact hy2, hy3.set _ hr5, r4, hy5⟩, by show Le _ _ (moI m n i x (k + 1) ((x * y + s + c) / B64) (q.set (i + k) ((x * y + s + c) % B64))); simp only [zaM]; rw [hE]; (refine Le.mk [] [] zai zal zak zah), by show 4 - (k + 1) < 4 - k; omega⟩)
  ·have hke : 4 - k = 0 := by omega
   have hkk : k = 4 := by omega
   subst hkk
   rw [hke, mIn] at hy5
   rw [← hy5] at hx4
   dsimp only at hx4
   have sib : IntKind.i64.wrap ((i : Int) + 4) = ((i + 4 : Nat) : Int) := by rw [IntKind.wrap_i64]; omega
   have hE : setA (wv q) (0 + (i + 4) * 1) [.r (.v (.int .u64 (c : Int)))] = wv (q.set (i + 4) c) := by
    rw [show 0 + (i + 4) * 1 = i + 4 by omega]; exact zeY q _ _ (by omega)
   have hlen : Nat.ble (0 + (i + 4) * 1 + 1) (wv q).length = true := by rw [Nat.ble_eq, zeX]; omega
   have hnum := zlm m n (i + 1) (q.set (i + 4) c)
   have hik : i + 4 < 8 := by omega
   (repeat' (first | refine zae ?_ | (refine zab (fun hb => ?_) (fun hb => ?_) <;> (try (exfalso; omega))) | fail))
   all_goals (first | (exfalso; omega) | exact ⟨(i + 1, q.set (i + 4) c), ⟨hi, by rw [List.length_set]; exact hy2, hy3.set _ hy4, hx4⟩, by show Le _ _ (moO m n (i + 1) (q.set (i + 4) c)); simp only [zaM]; rw [hE]; (refine Le.mk [] [] zai zal zak zah), by show 4 - (i + 1) < 4 - i; omega⟩)
 ·have hie : 4 - i = 0 := by omega
  rw [hie, mOut] at hx4
  subst hx4
  have hB : B64 ^ 4 = 115792089237316195423570985008687907853269984665640564039457584007913129639936 := by decide
  rw [hB] at hmn
  generalize m * n = p at *
  have hz : p / B64 / B64 / B64 / B64 = 0 := by unfold B64; omega
  have hi4 : i = 4 := by omega
  subst hi4
  have h8 : ws p 8 = [p % B64, p / B64 % B64, p / B64 / B64 % B64, p / B64 / B64 / B64 % B64, 0, 0, 0, 0] := by
   show [p % B64, p / B64 % B64, p / B64 / B64 % B64, p / B64 / B64 / B64 % B64, p / B64 / B64 / B64 / B64 % B64, p / B64 / B64 / B64 / B64 / B64 % B64, p / B64 / B64 / B64 / B64 / B64 / B64 % B64, p / B64 / B64 / B64 / B64 / B64 / B64 / B64 % B64] = _
   rw [hz]; rfl
  rw [h8]
  have hW : w4 p = .ag [.r (.v (.int .u64 ((p % B64 : Nat) : Int))), .r (.v (.int .u64 ((p / B64 % B64 : Nat) : Int))), .r (.v (.int .u64 ((p / B64 / B64 % B64 : Nat) : Int))), .r (.v (.int .u64 ((p / B64 / B64 / B64 % B64 : Nat) : Int)))] := rfl
  rw [hW]
  clear hW h8 hz hmn hB
  refine zci (T := moE [p % B64, p / B64 % B64, p / B64 / B64 % B64, p / B64 / B64 / B64 % B64, 0, 0, 0, 0]) (by (refine Le.mk [] [] zai zal zak zah)) ?_
  generalize p % B64 = r0
  generalize p / B64 % B64 = r1
  generalize p / B64 / B64 % B64 = r2
  generalize p / B64 / B64 / B64 % B64 = r3
  (repeat' (first | refine zae ?_ | (refine zab (fun hb => ?_) (fun hb => ?_) <;> (try (exfalso; omega))) | fail))
  all_goals (first | (exfalso; omega) | exact absurd rfl hb | exact zcc [] (.ag _ _ _ (Rt.agR [.v (.int .u64 (r0 : Int)), .v (.int .u64 (r1 : Int)), .v (.int .u64 (r2 : Int)), .v (.int .u64 (r3 : Int))])) (.bool rfl) rfl rfl rfl rfl rfl (zan rfl) rfl)
end Go.Proofs.YtpnbgalbdohfgaaGreatDoor
