/- Texts of the second layer in one: Wg5 Wr3 Wr5 Wg6 Wg7. -/
import Derived.Test.YtpnbgalbdohfgaaGreatDoorG15
import Derived.Test.YtpnbgalbdohfgaaGreatDoorG5
import Derived.Test.YtpnbgalbdohfgaaGreatDoorSh
import Derived.Test.YtpnbgalbdohfgaaGreatDoorG14
set_option maxHeartbeats 8000000
set_option maxRecDepth 100000
set_option linter.unusedVariables false
set_option linter.unusedSimpArgs false
namespace Go.Proofs.YtpnbgalbdohfgaaGreatDoor
open Go.RowKit Go.Ab Go.Wd
theorem zlZ : ∀ (i x : Nat), x / B64 ^ i ≠ 0 → bl x = 64 * i + bl (x / B64 ^ i)
 | 0, x, h => by rw [Nat.pow_zero, Nat.div_one]; omega
 | i + 1, x, h => by
  have e : x / B64 ^ (i + 1) = x / B64 / B64 ^ i := by rw [Nat.pow_succ, Nat.div_div_eq_div_mul, Nat.mul_comm]
  rw [e] at h ⊢
  have h0 : x / B64 ≠ 0 := fun h' => by rw [h', Nat.zero_div] at h; exact h rfl
  have ih := zlZ i (x / B64) h
  have hw := zmj (x % B64) (x / B64) (Nat.mod_lt _ (by decide)) h0
  rw [Nat.mod_add_div] at hw
  omega
theorem zn3 {x i : Nat} (h : x < B64 ^ (i + 1)) : wo x i = x / B64 ^ i := by
 unfold wo
 refine Nat.mod_eq_of_lt ?_
 rw [Nat.div_lt_iff_lt_mul (Nat.pow_pos (by decide)), Nat.mul_comm]
 rwa [Nat.pow_succ] at h
theorem zdX {f : FuncId} {x u : Value} (h : ∀ w, Calls Tryz.prog f #[x] w fun e w' => e = .returned u ∧ w' = w) : zaq Tryz.prog f [.r (.v x)] [] (.r (.v u)) [] := by
 intro w Z M k us hM hk hargs _ _
 simp only [AV.reps, AV.rep, RV.rep] at hargs
 obtain ⟨_, _, rfl, rfl, rfl⟩ := hargs
 exact (h w).mono fun e w' ⟨he, hw⟩ => ⟨u, he, Z, fun _ _ => rfl, by simp only [zaI, AV.unfr, AV.rep, RV.rep], fun i b h => by simp [zaI, zbq] at h, fun j b h => by simp [zaI, AV.unfr] at h, fun j j' x h => by simp [zaI, AV.unfr] at h, fun j x h => by simp [zaI, AV.unfr] at h, hw ▸ Go.Ab.Upto.refl _⟩
theorem znG (x : Nat) (h : x < B64) : zaq Tryz.prog 92 [.r (.v (.int .u64 (x : Int)))] [] (.r (.v (.int .i64 ((bl x : Nat) : Int)))) [] := by
 rw [← zlY x h]
 refine zdX fun w => ?_
 have := Tryz.bits_Len64 (x : Int) w (by omega) (by unfold B64 at h; omega)
 rwa [Int.toNat_natCast] at this
def lgS (n : Nat) (z : Int) : St := ⟨[(1, .pt 0 0), (3, .r (.v (.int .i64 z)))], [(0, some (.var 24 (wv (ws n 4))))], 1⟩
theorem zmG (n : Nat) (z : Int) : za7 ⟨0, zcq []⟩ (lgS n z) (rho []) [] = true := by
 have hid : ∀ T l, (Blk.var T (wv l)).ids = [] := fun T l => by rw [Blk.ids, zbG]
 unfold za7 lgS; simp only [List.all_cons, List.all_nil, hid]; rfl
theorem zl3 (n : Nat) (hn : n < B64 ^ 4) : zaq Tryz.prog 66 [w4 n] [] (.r (.v (.int .i64 ((bl n : Nat) : Int)))) [] := by
 refine zaw Tryz.func66 rfl (Nat.le_of_ble_eq_true rfl) rfl rfl ?_
 (repeat' (first | refine zae ?_ | (refine zab (fun hb => ?_) (fun hb => ?_) <;> (try (exfalso; omega))) | fail))
 refine zap (fun x : Nat × Int => lgS n x.2) (fun x => x.1 ≤ 4 ∧ x.2 = (x.1 : Int) - 1 ∧ n < B64 ^ x.1) (fun x => x.1) (4, 3) ⟨by omega, by show (3 : Int) = ((4 : Nat) : Int) - 1; omega, hn⟩ (by (refine Le.mk [] [] zai zal zak zah)) fun x hx => ?_
 obtain ⟨t, z⟩ := x
 obtain ⟨hx1, hx2, hx3⟩ := hx
 dsimp only at hx1 hx2 hx3
 change awp _ _ _ _ _ (lgS n z)
 rcases Nat.eq_zero_or_pos t with h0 | hp
 ·subst h0
  have hz : z = -1 := by omega
  subst hz
  have hn0 : n = 0 := by rw [Nat.pow_zero] at hx3; omega
  have hbl0 : (0 : Int) = ((bl n : Nat) : Int) := by subst hn0; rfl
  (repeat' (first | refine zae ?_ | (refine zab (fun hb => ?_) (fun hb => ?_) <;> (try (exfalso; omega))) | fail))
  all_goals (first | (exfalso; omega) | exact ret1 [] (.int hbl0) rfl rfl rfl)
 ·obtain ⟨i, rfl⟩ : ∃ i, t = i + 1 := ⟨t - 1, by omega⟩
  have hz : z = (i : Int) := by omega
  subst hz
  have gi := zn4 n i (by omega)
  have hti := zn3 hx3
  have hwl := zde n i
  have hdec : IntKind.i64.wrap ((i : Int) - 1) = (i : Int) - 1 := by rw [IntKind.wrap_i64]; omega
  have h64 : IntKind.i64.wrap (64 * (i : Int)) = ((64 * i : Nat) : Int) := by rw [IntKind.wrap_i64]; omega
  have hlow : ¬ ¬ ((wo n i : Nat) : Int) = 0 → n < B64 ^ i := by
   intro h
   have h2 : n / B64 ^ i = 0 := by omega
   exact (Nat.div_eq_zero_iff.1 h2).resolve_left (by have : 0 < B64 ^ i := Nat.pow_pos (by decide); omega)
  have hbl : ¬ ((wo n i : Nat) : Int) = 0 → 64 * i + bl (wo n i) = bl n := by
   intro h
   rw [hti]
   exact (zlZ i n (by rw [← hti]; omega)).symm
  have hb64 : bl (wo n i) ≤ 64 := zcN (by rw [← za0]; exact hwl)
  have cL := znG (wo n i) hwl
  have hadd : IntKind.i64.wrap (((64 * i : Nat) : Int) + ((bl (wo n i) : Nat) : Int)) = ((64 * i + bl (wo n i) : Nat) : Int) := zeh _ _ (by omega)
  have hnum := zmG n ((i : Int) - 1)
  clear hti
  generalize bl (wo n i) = y at *
  generalize wo n i = x at *
  (repeat' (first | refine zae ?_ | (refine is_f 92 ?_; refine zaf (cL) ?_) | (refine zab (fun hb => ?_) (fun hb => ?_) <;> (try (exfalso; omega))) | fail))
  all_goals (first | (exfalso; omega) | exact ret1 [] (.int (by rw [hbl (by assumption)])) rfl rfl rfl | exact ⟨(i, (i : Int) - 1), ⟨by show i ≤ 4; omega, rfl, hlow (by assumption)⟩, by show Le _ _ (lgS n ((i : Int) - 1)); (refine Le.mk [] [] zai zal zak zah), by show i < i + 1; omega⟩)
end Go.Proofs.YtpnbgalbdohfgaaGreatDoor
namespace Go.Ab
open Go.RowKit
end Go.Ab
namespace Go.Proofs.YtpnbgalbdohfgaaGreatDoor
open Go.RowKit Go.Ab Go.Wd
theorem zlS (a b : Nat) (ha : a < B64) : IntKind.u64.wrap (Int.tdiv (a : Int) (b : Int)) = ((a / b : Nat) : Int) := by
 have h : Int.tdiv (a : Int) (b : Int) = ((a / b : Nat) : Int) := by rw [Int.tdiv_eq_ediv_of_nonneg (by omega)]; simp
 have h2 : a / b ≤ a := Nat.div_le_self _ _
 rw [h]
 generalize a / b = q at *
 rw [IntKind.wrap_u64]; unfold B64 at ha; omega
theorem zlT (a b : Nat) : Int.tmod (a : Int) (b : Int) = ((a % b : Nat) : Int) := by
 rw [Int.tmod_eq_emod_of_nonneg (by omega)]; simp
theorem zla (x y : Nat) (hx : x < B64) (hy : y < B64) (hy0 : y ≠ 0) : zaq Tryz.prog 76 [.r (.v (.int .u64 0)), .r (.v (.int .u64 (x : Int))), .r (.v (.int .u64 (y : Int)))] [] (.tu [.r (.v (.int .u64 ((x / y : Nat) : Int))), .r (.v (.int .u64 ((x % y : Nat) : Int)))]) [] := by
 have h1 := zlS x y hx
 have h2 := zlT x y
 have hy1 : (y : Int) ≠ 0 := by omega
 generalize x / y = q at *
 generalize x % y = r at *
 refine zaw Tryz.func76 rfl (Nat.le_of_ble_eq_true rfl) rfl rfl ?_
 (repeat' (first | refine zae ?_ | (refine zab (fun hb => ?_) (fun hb => ?_) <;> (try (exfalso; omega))) | fail))
 all_goals (first | (exfalso; omega) | exact ret2 [] (.int rfl) (.int rfl) rfl rfl rfl rfl)
theorem zkV {x : Nat} (h : x ≠ 0) (hx : x < B64) : tw x = [x] := by
 rw [zeq h, Nat.mod_eq_of_lt hx, Nat.div_eq_of_lt hx, zb7]
theorem zlQ (x : Nat) (hx : x < B64) : trim [x] = tw x := by
 rw [zdb [x] (fun a ha => by simp at ha; subst ha; exact hx)]
 simp [val]
theorem znf (Q j s : Nat) (hs : s < 64) (hj : j < 4) (h0 : Q % 2 ^ (64 * j + s + 1) = 0) (hQ : Q < B64 ^ 4) :
  wo Q j % 2 ^ (s + 1) = 0 ∧ wo Q j + 2 ^ s < B64 ∧ (ws Q 4).set j (wo Q j + 2 ^ s) = ws (Q + 2 ^ (64 * j + s)) 4 := by
 have hm : wo Q j % 2 ^ (s + 1) = 0 := by
  obtain ⟨q, hq⟩ : ∃ q, Q = 2 ^ (64 * j + s + 1) * q := ⟨Q / 2 ^ (64 * j + s + 1), by have := Nat.mod_add_div Q (2 ^ (64 * j + s + 1)); omega⟩
  have e : Q / B64 ^ j = 2 ^ (s + 1) * q := by
   rw [hq, show 64 * j + s + 1 = 64 * j + (s + 1) by omega, Nat.pow_add, Nat.pow_mul, ← za0, Nat.mul_assoc, Nat.mul_div_cancel_left _ (Nat.pow_pos (by decide))]
  unfold wo
  rw [e]
  have hb : B64 = 2 ^ (s + 1) * 2 ^ (63 - s) := by rw [za0, ← Nat.pow_add]; congr 1; omega
  rw [hb, Nat.mul_mod_mul_left, Nat.mul_mod_right]
 have hlt : wo Q j + 2 ^ s < B64 := by
  have h1 := zde Q j
  obtain ⟨q, hq⟩ : ∃ q, wo Q j = 2 ^ (s + 1) * q := ⟨wo Q j / 2 ^ (s + 1), by have := Nat.mod_add_div (wo Q j) (2 ^ (s + 1)); omega⟩
  have hb : B64 = 2 ^ (s + 1) * 2 ^ (63 - s) := by rw [za0, ← Nat.pow_add]; congr 1; omega
  rw [hq] at h1 ⊢
  have h2 : q < 2 ^ (63 - s) := by
   rw [hb] at h1
   exact Nat.lt_of_mul_lt_mul_left h1
  have h3 : 2 ^ (s + 1) * (q + 1) ≤ 2 ^ (s + 1) * 2 ^ (63 - s) := Nat.mul_le_mul (Nat.le_refl _) h2
  rw [← hb, Nat.mul_add] at h3
  have h4 : 2 ^ (s + 1) = 2 * 2 ^ s := by rw [Nat.pow_succ, Nat.mul_comm]
  have h5 : 0 < 2 ^ s := Nat.pow_pos (by decide)
  omega
 refine ⟨hm, hlt, ?_⟩
 have hw : Wds ((ws Q 4).set j (wo Q j + 2 ^ s)) := (zdM 4 Q).set j hlt
 have hv := zdp (ws Q 4) j (wo Q j + 2 ^ s) (by rw [zcC]; exact hj)
 rw [zi5 Q j hj, zdL 4 Q hQ, Nat.mul_add] at hv
 have e := four _ (by rw [List.length_set, zcC]) hw
 have hval : val ((ws Q 4).set j (wo Q j + 2 ^ s)) = Q + 2 ^ (64 * j + s) := by
  have : B64 ^ j * 2 ^ s = 2 ^ (64 * j + s) := by rw [Nat.pow_add, Nat.pow_mul, ← za0]
  omega
 rw [hval] at e
 exact e
def dvS (n A : Nat) (l : List Nat) (D : Nat) (z : Int) : St := ⟨[(2, .pt 0 0), (3, .pt 1 0), (4, .pt 2 0), (5, .pt 3 0), (6, .r (.v (.int .i64 z))), (7, .pt 4 0)], [(0, some (.var 24 (wv (ws A 4)))), (1, some (.var 24 (wv (ws n 4)))), (2, some (.var 24 (wv l))), (3, some (.var 24 (wv [0, 0, 0, 0]))), (4, some (.var 24 (wv (ws D 4))))], 5⟩
theorem zmD (n A : Nat) (l : List Nat) (D : Nat) (z : Int) : za7 ⟨0, zcq []⟩ (dvS n A l D z) (rho [(0,0),(1,1),(2,2),(3,3),(4,4)]) [] = true := by
 have hid : ∀ T l, (Blk.var T (wv l)).ids = [] := fun T l => by rw [Blk.ids, zbG]
 unfold za7 dvS; simp only [List.all_cons, List.all_nil, hid]; rfl
theorem zmH (s : Nat) (hs : s < 64) : IntKind.u64.wrap (1 * 2 ^ (min (Int.toNat (s : Int)) IntKind.u64.bits)) = ((2 ^ s : Nat) : Int) := by
 have h := zcu 1 s hs
 rw [Nat.one_mul, Nat.mod_eq_of_lt (by rw [za0]; exact Nat.pow_lt_pow_right (by decide) hs)] at h
 exact h
theorem znw (m n : Nat) (hm : m < B64 ^ 4) (hn : n < B64 ^ 4) (hn0 : n ≠ 0) : zaq Tryz.prog 44 [w4 m, w4 n] [] (.tu [w4 (m / n), w4 (m % n)]) [] := by
 have c1 := zl3 m hm
 have c2 := zl3 n hn
 have hB : B64 ^ 4 = 2 ^ 256 := by decide
 have hbm : bl m ≤ 256 := zcN (by rw [← hB]; exact hm)
 have hbn : bl n ≤ 256 := zcN (by rw [← hB]; exact hn)
 have hbn0 := zis hn0
 refine zaw Tryz.func44 rfl (Nat.le_of_ble_eq_true rfl) rfl rfl ?_
 rcases Nat.lt_or_ge (bl m) (bl n) with hlt | hge
 ·have hmn : m < n := by
   rcases Nat.lt_or_ge m n with h | h
   ·exact h
   ·have h1 := zja m
    have h2 := zi9 n hn0
    have : 2 ^ bl m ≤ 2 ^ (bl n - 1) := Nat.pow_le_pow_right (by decide) (by omega)
    omega
  rw [Nat.div_eq_of_lt hmn, Nat.mod_eq_of_lt hmn]
  have hw : IntKind.i64.wrap (((bl m : Nat) : Int) - ((bl n : Nat) : Int)) = ((bl m : Nat) : Int) - ((bl n : Nat) : Int) := by rw [IntKind.wrap_i64]; omega
  generalize bl m = a at *
  generalize bl n = b at *
  (repeat' (first | (first | refine zbm 4 ?_ | refine za4 4 ?_) | refine zdG ?_ | refine zbp ?_ | (refine is_f 66 ?_; refine zaf (c1) ?_) | (refine is_f 66 ?_; refine zaf (c2) ?_) | (refine zab (fun hb => ?_) (fun hb => ?_) <;> (try (exfalso; omega))) | fail))
  all_goals (first | (exfalso; omega) | exact zl7 [] (Rt.w4 0) (Rt.w4 m) rfl rfl rfl rfl rfl rfl rfl (zan rfl) rfl)
 ·obtain ⟨k, hk⟩ : ∃ k, bl m = bl n + k := ⟨bl m - bl n, by omega⟩
  have hD : n * 2 ^ k < B64 ^ 4 := by
   have h1 := zja n
   have : n * 2 ^ k < 2 ^ bl n * 2 ^ k := Nat.mul_lt_mul_of_pos_right h1 (Nat.pow_pos (by decide))
   rw [← Nat.pow_add, ← hk] at this
   have h3 : 2 ^ bl m ≤ 2 ^ 256 := Nat.pow_le_pow_right (by decide) hbm
   rw [hB]; omega
  have hM : m < n * 2 ^ (k + 1) := by
   have h1 := zja m
   have h2 := zi9 n hn0
   have h3 : 2 ^ (bl n - 1) * 2 ^ (k + 1) ≤ n * 2 ^ (k + 1) := Nat.mul_le_mul h2 (Nat.le_refl _)
   rw [← Nat.pow_add, show bl n - 1 + (k + 1) = bl m by omega] at h3
   omega
  have hk4 : k / 64 < 4 := by omega
  have ek : 64 * (k / 64) + k % 64 = k := by omega
  have cL := znF n (k / 64) (k % 64) hn hk4 (by omega) (by rw [ek]; exact hD)
  rw [ek] at cL
  have hw : IntKind.i64.wrap (((bl m : Nat) : Int) - ((bl n : Nat) : Int)) = (k : Int) := by rw [IntKind.wrap_i64]; omega
  have hk256 : k < 256 := by omega
  generalize bl m = a at *
  generalize bl n = b at *
  (repeat' (first | refine zae ?_ | (refine is_f 66 ?_; refine zaf (c1) ?_) | (refine is_f 66 ?_; refine zaf (c2) ?_) | (refine is_f 67 ?_; refine zaf (cL) ?_) | (refine zab (fun hb => ?_) (fun hb => ?_) <;> (try (exfalso; omega))) | fail))
  all_goals (first | (exfalso; omega) | skip)
  refine zci (T := dvS n m [0, 0, 0, 0] (n * 2 ^ k) (k : Int)) (by (refine Le.mk [(0,0),(1,1),(2,2),(3,3),(4,4)] [] zai zal zak zah)) ?_
  clear c1 c2 cL hw ek hk4
  refine zap (fun x : Nat × Nat × Nat × List Nat × Nat × Int => dvS n x.2.1 x.2.2.2.1 x.2.2.2.2.1 x.2.2.2.2.2) (fun x => x.1 ≤ k + 1 ∧ m = x.2.2.1 * n + x.2.1 ∧ x.2.1 < n * 2 ^ x.1 ∧ x.2.2.1 % 2 ^ x.1 = 0 ∧ x.2.2.2.1 = ws x.2.2.1 4 ∧ x.2.2.2.2.1 = n * 2 ^ x.1 / 2 ∧ x.2.2.2.2.2 = (x.1 : Int) - 1) (fun x => x.1) (k + 1, m, 0, [0, 0, 0, 0], n * 2 ^ k, (k : Int)) ⟨Nat.le_refl _, by show m = 0 * n + m; omega, hM, by show 0 % _ = 0; exact Nat.zero_mod _, by show [0, 0, 0, 0] = ws 0 4; decide, by show n * 2 ^ k = n * 2 ^ (k + 1) / 2; rw [Nat.pow_succ, ← Nat.mul_assoc, Nat.mul_div_cancel _ (by decide)], by show (k : Int) = ((k + 1 : Nat) : Int) - 1; omega⟩ (by (refine Le.mk [(0,0),(1,1),(2,2),(3,3),(4,4)] [] zai zal zak zah)) fun x hx => ?_
  obtain ⟨t, A, Q, l, D, z⟩ := x
  obtain ⟨hx1, hx2, hx3, hx4, hx5, hx6, hx7⟩ := hx
  dsimp only at hx1 hx2 hx3 hx4 hx5 hx6 hx7
  change awp _ _ _ _ _ (dvS n A l D z)
  rcases Nat.eq_zero_or_pos t with h0 | hp
  ·subst h0
   have hz : z = -1 := by omega
   subst hz hx5
   rw [Nat.pow_zero, Nat.mul_one] at hx3
   have e1 : m / n = Q := by rw [hx2, Nat.mul_comm, Nat.mul_add_div (by omega), Nat.div_eq_of_lt hx3, Nat.add_zero]
   have e2 : m % n = A := by rw [hx2, Nat.mul_comm, Nat.mul_add_mod, Nat.mod_eq_of_lt hx3]
   rw [e1, e2]
   clear hx2 hx4 hx6 e1 e2
   (repeat' (first | refine zae ?_ | (refine zab (fun hb => ?_) (fun hb => ?_) <;> (try (exfalso; omega))) | fail))
   all_goals (first | (exfalso; omega) | exact zl7 [] (Rt.w4 Q) (Rt.w4 A) rfl rfl rfl rfl rfl rfl rfl (zan rfl) rfl)
  ·obtain ⟨i, rfl⟩ : ∃ i, t = i + 1 := ⟨t - 1, by omega⟩
   have hz : z = (i : Int) := by omega
   have hD1 : D = n * 2 ^ i := by rw [hx6, Nat.pow_succ, ← Nat.mul_assoc, Nat.mul_div_cancel _ (by decide)]
   have hDB : D < B64 ^ 4 := by
    have : n * 2 ^ i ≤ n * 2 ^ k := Nat.mul_le_mul (Nat.le_refl _) (Nat.pow_le_pow_right (by decide) (by omega))
    omega
   have hAB : A < B64 ^ 4 := by omega
   have hQB : Q < B64 ^ 4 := by
    have : Q * 1 ≤ Q * n := Nat.mul_le_mul (Nat.le_refl _) (by omega)
    omega
   have hDh : D / 2 = n * 2 ^ i / 2 := by rw [hD1]
   have hdec : IntKind.i64.wrap ((i : Int) - 1) = (i : Int) - 1 := by rw [IntKind.wrap_i64]; omega
   have hdd : n * 2 ^ (i + 1) = D + D := by rw [hD1, Nat.pow_succ, ← Nat.mul_assoc]; omega
   have cC := znu A D hAB hDB
   have cH := zlc D hDB
   subst hz
   by_cases hge2 : D ≤ A
   ·have hcmp : 0 ≤ cmpN A D := by unfold cmpN; rw [if_neg (by omega)]; split <;> omega
    have cS := zod A D hAB hDB hge2
    obtain ⟨j, s, hs, hi⟩ : ∃ j s, s < 64 ∧ i = 64 * j + s := ⟨i / 64, i % 64, by omega, by omega⟩
    have hj : j < 4 := by omega
    obtain ⟨b1, b2, b3⟩ := znf Q j s hs hj (by rw [← hi]; exact hx4) hQB
    have hor := zeT (wo Q j) (2 ^ s) (s + 1) b1 (by rw [Nat.pow_succ]; have : 0 < 2 ^ s := Nat.pow_pos (by decide); omega) b2
    have hsh := zmH s hs
    have hq : IntKind.i64.wrap (Int.tdiv (i : Int) 64) = (j : Int) := by rw [IntKind.wrap_i64, Int.tdiv_eq_ediv_of_nonneg (by omega)]; omega
    have hrem : Int.tmod (i : Int) 64 = (s : Int) := by rw [Int.tmod_eq_emod_of_nonneg (by omega)]; omega
    have hm2 : m = (Q + 2 ^ i) * n + (A - D) := by
     have : (Q + 2 ^ i) * n = Q * n + D := by rw [Nat.add_mul, hD1, Nat.mul_comm (2 ^ i)]
     omega
    have hA2 : A - D < n * 2 ^ i := by omega
    have hQ2 : (Q + 2 ^ i) % 2 ^ i = 0 := by
     have : Q % 2 ^ i = 0 := by
      have := Nat.mod_mod_of_dvd Q (Nat.pow_dvd_pow 2 (Nat.le_succ i))
      rw [← this, hx4, Nat.zero_mod]
     rw [Nat.add_mod_right, this]
    rw [← hi] at b3
    generalize cmpN A D = e at *
    generalize A - D = A' at *
    generalize D / 2 = D' at *
    generalize Q + 2 ^ i = Q' at *
    clear b1 b2 hx2 hx3 hx4 hx6 hD1 hDB hAB hQB hdd hge2 hM hD hn hm hB
    rw [hx5, ws4 Q]
    rw [ws4 Q] at b3
    clear hx5
    clear hi
    generalize 2 ^ s = p at *
    have hcase : j = 0 ∨ j = 1 ∨ j = 2 ∨ j = 3 := by omega
    rcases hcase with rfl | rfl | rfl | rfl
    ·generalize wo Q 0 = q0 at *
     generalize wo Q 1 = q1 at *
     generalize wo Q 2 = q2 at *
     generalize wo Q 3 = q3 at *
     (repeat' (first | refine zae ?_ | (refine is_f 68 ?_; refine zaf (cC) ?_) | (refine is_f 69 ?_; refine zaf (cS) ?_) | (refine is_f 70 ?_; refine zaf (cH) ?_) | (refine zab (fun hb => ?_) (fun hb => ?_) <;> (try (exfalso; omega))) | fail))
     all_goals (first | (exfalso; omega) | exact ⟨(i, A', Q', [q0, q1, q2, q3].set 0 (q0 + p), D', (i : Int) - 1), ⟨by show i ≤ k + 1; omega, hm2, hA2, hQ2, b3, hDh, rfl⟩, by show Le _ _ (dvS n A' ([q0, q1, q2, q3].set 0 (q0 + p)) D' ((i : Int) - 1)); (refine Le.mk [(0,0),(1,1),(2,2),(3,3),(4,4)] [] zai zal zak zah), by show i < i + 1; omega⟩)
    ·generalize wo Q 0 = q0 at *
     generalize wo Q 1 = q1 at *
     generalize wo Q 2 = q2 at *
     generalize wo Q 3 = q3 at *
     (repeat' (first | refine zae ?_ | (refine is_f 68 ?_; refine zaf (cC) ?_) | (refine is_f 69 ?_; refine zaf (cS) ?_) | (refine is_f 70 ?_; refine zaf (cH) ?_) | (refine zab (fun hb => ?_) (fun hb => ?_) <;> (try (exfalso; omega))) | fail))
     all_goals (first | (exfalso; omega) | exact ⟨(i, A', Q', [q0, q1, q2, q3].set 1 (q1 + p), D', (i : Int) - 1), ⟨by show i ≤ k + 1; omega, hm2, hA2, hQ2, b3, hDh, rfl⟩, by show Le _ _ (dvS n A' ([q0, q1, q2, q3].set 1 (q1 + p)) D' ((i : Int) - 1)); (refine Le.mk [(0,0),(1,1),(2,2),(3,3),(4,4)] [] zai zal zak zah), by show i < i + 1; omega⟩)
    ·generalize wo Q 0 = q0 at *
     generalize wo Q 1 = q1 at *
     generalize wo Q 2 = q2 at *
     generalize wo Q 3 = q3 at *
     (repeat' (first | refine zae ?_ | (refine is_f 68 ?_; refine zaf (cC) ?_) | (refine is_f 69 ?_; refine zaf (cS) ?_) | (refine is_f 70 ?_; refine zaf (cH) ?_) | (refine zab (fun hb => ?_) (fun hb => ?_) <;> (try (exfalso; omega))) | fail))
     all_goals (first | (exfalso; omega) | exact ⟨(i, A', Q', [q0, q1, q2, q3].set 2 (q2 + p), D', (i : Int) - 1), ⟨by show i ≤ k + 1; omega, hm2, hA2, hQ2, b3, hDh, rfl⟩, by show Le _ _ (dvS n A' ([q0, q1, q2, q3].set 2 (q2 + p)) D' ((i : Int) - 1)); (refine Le.mk [(0,0),(1,1),(2,2),(3,3),(4,4)] [] zai zal zak zah), by show i < i + 1; omega⟩)
    ·generalize wo Q 0 = q0 at *
     generalize wo Q 1 = q1 at *
     generalize wo Q 2 = q2 at *
     generalize wo Q 3 = q3 at *
     (repeat' (first | refine zae ?_ | (refine is_f 68 ?_; refine zaf (cC) ?_) | (refine is_f 69 ?_; refine zaf (cS) ?_) | (refine is_f 70 ?_; refine zaf (cH) ?_) | (refine zab (fun hb => ?_) (fun hb => ?_) <;> (try (exfalso; omega))) | fail))
     all_goals (first | (exfalso; omega) | exact ⟨(i, A', Q', [q0, q1, q2, q3].set 3 (q3 + p), D', (i : Int) - 1), ⟨by show i ≤ k + 1; omega, hm2, hA2, hQ2, b3, hDh, rfl⟩, by show Le _ _ (dvS n A' ([q0, q1, q2, q3].set 3 (q3 + p)) D' ((i : Int) - 1)); (refine Le.mk [(0,0),(1,1),(2,2),(3,3),(4,4)] [] zai zal zak zah), by show i < i + 1; omega⟩)
   ·have hcmp : ¬ 0 ≤ cmpN A D := by unfold cmpN; rw [if_pos (by omega)]; omega
    have hQ2 : Q % 2 ^ i = 0 := by
     have := Nat.mod_mod_of_dvd Q (Nat.pow_dvd_pow 2 (Nat.le_succ i))
     rw [← this, hx4, Nat.zero_mod]
    have hA2 : A < n * 2 ^ i := by omega
    generalize cmpN A D = e at *
    generalize D / 2 = D' at *
    clear hx4 hx6 hD1 hDB hAB hQB hdd hM hD hn hm hB hx3
    have hnum := zmD n A l D' ((i : Int) - 1)
    (repeat' (first | refine zae ?_ | (refine is_f 68 ?_; refine zaf (cC) ?_) | (refine is_f 70 ?_; refine zaf (cH) ?_) | (refine zab (fun hb => ?_) (fun hb => ?_) <;> (try (exfalso; omega))) | fail))
    all_goals (first | (exfalso; omega) | exact ⟨(i, A, Q, l, D', (i : Int) - 1), ⟨by show i ≤ k + 1; omega, hx2, hA2, hQ2, hx5, hDh, rfl⟩, by show Le _ _ (dvS n A l D' ((i : Int) - 1)); (refine Le.mk [(0,0),(1,1),(2,2),(3,3),(4,4)] [] zai zal zak zah), by show i < i + 1; omega⟩)
def zb (b : Bool) (n : Nat) : Int := if b then -(n : Int) else (n : Int)
def wz (z : Int) : AV := wd (decide (z < 0)) z.natAbs
def cmpZ (x y : Int) : Int := if x < y then -1 else if y < x then 1 else 0
def sgZ (x : Int) : Int := if x < 0 then -1 else if x = 0 then 0 else 1
theorem zk3 (b : Bool) (n : Nat) : wz (zb b n) = wd (b && decide (n ≠ 0)) n := by
 unfold wz zb
 cases b with
 | false =>
  have : decide ((n : Int) < 0) = false := decide_eq_false (by omega)
  simp [this]
 | true =>
  by_cases h : n = 0
  ·subst h; rfl
  ·have : decide (-(n : Int) < 0) = true := decide_eq_true (by omega)
   have h2 : decide (n ≠ 0) = true := decide_eq_true h
   rw [if_pos rfl, this, h2, Int.natAbs_neg, Int.natAbs_natCast]; rfl
theorem zaR (n : Nat) : wz (n : Int) = wd false n := by
 have := zk3 false n
 simpa [zb] using this
theorem zbd (n : Nat) (h : n ≠ 0) : wz (-(n : Int)) = wd true n := by
 have := zk3 true n
 simpa [zb, h] using this
theorem Rt.wz {H : Nat → Option Blk} {L : Nat} {G : List Nat} (z : Int) : Rt H L G (Go.Proofs.YtpnbgalbdohfgaaGreatDoor.wz z) (Go.Proofs.YtpnbgalbdohfgaaGreatDoor.wz z) [] := Rt.wd _ _
theorem eqw4 (n : Nat) (hn : n < B64 ^ 4) : eqA [.r (.v (.int .u64 ((n % B64 : Nat) : Int))), .r (.v (.int .u64 ((n / B64 % B64 : Nat) : Int))), .r (.v (.int .u64 ((n / B64 / B64 % B64 : Nat) : Int))), .r (.v (.int .u64 ((n / B64 / B64 / B64 % B64 : Nat) : Int)))] [.r (.v (.int .u64 0)), .r (.v (.int .u64 0)), .r (.v (.int .u64 0)), .r (.v (.int .u64 0))] = decide (n = 0) := by
 simp only [eqA]
 by_cases h : n = 0
 ·subst h; decide
 ·rw [decide_eq_false h]
  rw [zi8] at hn
  have : ¬ ((n % B64 : Nat) = 0 ∧ (n / B64 % B64 : Nat) = 0 ∧ (n / B64 / B64 % B64 : Nat) = 0 ∧ (n / B64 / B64 / B64 % B64 : Nat) = 0) := by
   unfold B64; omega
  generalize n % B64 = a at *
  generalize n / B64 % B64 = b at *
  generalize n / B64 / B64 % B64 = c at *
  generalize n / B64 / B64 / B64 % B64 = d at *
  by_cases h1 : a = 0 <;> by_cases h2 : b = 0 <;> by_cases h3 : c = 0 <;> by_cases h4 : d = 0 <;> simp_all <;> omega
def vW (b : Bool) (n : Nat) : Bool := !b || decide (n ≠ 0)
theorem zlU (b : Bool) (n : Nat) (hn : n < B64 ^ 4) : zaq Tryz.prog 65 [wd b n] [] (.r (.v (.bool (vW b n)))) [] := by
 cases b with
 | false =>
  refine zaw Tryz.func65 rfl (Nat.le_of_ble_eq_true rfl) rfl rfl ?_
  (repeat' (first | refine zae ?_ | (refine zab (fun hb => ?_) (fun hb => ?_) <;> (try (exfalso; omega))) | fail))
  all_goals exact ret1 [] (.bool rfl) rfl rfl rfl
 | true =>
  have hE := eqw4 n hn
  have hT : n = 0 → false = vW true n := fun h => by subst h; rfl
  have hF : n ≠ 0 → true = vW true n := fun h => by unfold vW; rw [decide_eq_true h]; rfl
  refine zaw Tryz.func65 rfl (Nat.le_of_ble_eq_true rfl) rfl rfl ?_
  (repeat' (first | refine zae ?_ | (refine zab (fun hb => ?_) (fun hb => ?_) <;> (try (exfalso; omega))) | fail))
  ·have hb' : ¬ decide (n = 0) = true := fun h => hb (hE.trans h)
   exact ret1 [] (.bool (hF fun h => hb' (decide_eq_true h))) rfl rfl rfl
  ·have hb' : ¬ ¬ decide (n = 0) = true := fun h => hb fun h' => h (hE.symm.trans h')
   exact ret1 [] (.bool (hT (of_decide_eq_true (Classical.not_not.1 hb')))) rfl rfl rfl
theorem zk6 (b : Bool) (n : Nat) (hn : n < B64 ^ 4) : zaq Tryz.prog 43 [wd b n] [] (wz (zb b n)) [] := by
 have cV := zlU b n hn
 rw [zk3]
 unfold vW at cV
 by_cases h : b = true ∧ n = 0
 ·obtain ⟨rfl, rfl⟩ := h
  refine zaw Tryz.func43 rfl (Nat.le_of_ble_eq_true rfl) rfl rfl ?_
  (repeat' (first | refine zae ?_ | (refine is_f 65 ?_; refine zaf (cV) ?_) | (refine zab (fun hb => ?_) (fun hb => ?_) <;> (try (exfalso; omega))) | fail))
  all_goals (first | (exfalso; omega) | exact zcL [] (Rt.wd false 0) rfl rfl rfl rfl (zan rfl) rfl)
 ·have e1 : (!b || decide (n ≠ 0)) = true := by
   cases b with
   | false => rfl
   | true => simp only [Bool.not_true, Bool.false_or, decide_eq_true_eq]; exact fun h' => h ⟨rfl, h'⟩
  have e2 : (b && decide (n ≠ 0)) = b := by
   cases b with
   | false => rfl
   | true => simp only [Bool.true_and, decide_eq_true_eq]; exact fun h' => h ⟨rfl, h'⟩
  rw [e1] at cV
  rw [e2]
  refine zaw Tryz.func43 rfl (Nat.le_of_ble_eq_true rfl) rfl rfl ?_
  (repeat' (first | refine zae ?_ | (refine is_f 65 ?_; refine zaf (cV) ?_) | (refine zab (fun hb => ?_) (fun hb => ?_) <;> (try (exfalso; omega))) | fail))
  all_goals (first | (exfalso; omega) | exact zcL [] (Rt.wd b n) rfl rfl rfl rfl (zan rfl) rfl)
end Go.Proofs.YtpnbgalbdohfgaaGreatDoor
