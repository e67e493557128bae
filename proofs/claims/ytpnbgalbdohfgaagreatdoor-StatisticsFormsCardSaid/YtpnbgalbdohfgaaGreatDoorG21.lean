/- Texts of the second layer in one: Dv1 Dv2 Tx6 Tx7. -/
import Derived.Test.YtpnbgalbdohfgaaGreatDoorG20
import Derived.Test.YtpnbgalbdohfgaaGreatDoorG15
import Derived.Test.YtpnbgalbdohfgaaGreatDoorG6
import Derived.Test.YtpnbgalbdohfgaaGreatDoorG16
import Derived.Test.YtpnbgalbdohfgaaGreatDoorG19
import Derived.Test.YtpnbgalbdohfgaaGreatDoorG14
import Derived.Test.YtpnbgalbdohfgaaGreatDoorG3
import Derived.Test.YtpnbgalbdohfgaaGreatDoorG7
import Derived.Lib.Join
set_option maxHeartbeats 8000000
set_option maxRecDepth 100000
set_option linter.unusedVariables false
set_option linter.unusedSimpArgs false
namespace Go.Proofs.YtpnbgalbdohfgaaGreatDoor
open Go.RowKit Go.Ab Go.Wd
theorem zkY (a b : Nat) (ha : a < B64) : IntKind.u64.wrap (Int.tdiv (a : Int) (b : Int)) = ((a / b : Nat) : Int) := by
 have h : Int.tdiv (a : Int) (b : Int) = ((a / b : Nat) : Int) := by rw [Int.tdiv_eq_ediv_of_nonneg (by omega)]; simp
 have h2 : a / b ≤ a := Nat.div_le_self _ _
 rw [h]
 generalize a / b = q at *
 rw [IntKind.wrap_u64]; unfold B64 at ha; omega
theorem zf5 (v : Nat) (hv : v < B64) : bits .and .u64 (v : Int) 4294967295 = ((v % W32 : Nat) : Int) := by
 have h := u64_and_nat v 4294967295 (by unfold B64 at hv; omega) (by omega)
 rw [show (4294967295 : Nat) = 2 ^ 32 - 1 from rfl, Nat.and_two_pow_sub_one_eq_mod] at h
 exact h
theorem znT (v : Nat) : Int.fdiv (v : Int) (2 ^ (min (Int.toNat 32) IntKind.u64.bits)) = ((v / W32 : Nat) : Int) := zda v 32 (by omega)
def dvA (s Y a b u n1 n0 : Nat) (x : Nat × Nat) : St := ⟨[(2, .r (.v (.int .u64 (Y : Int)))), (8, .r (.v (.int .u64 (s : Int)))), (9, .r (.v (.int .u64 (a : Int)))), (10, .r (.v (.int .u64 (b : Int)))), (11, .r (.v (.int .u64 (u : Int)))), (13, .r (.v (.int .u64 (n1 : Int)))), (14, .r (.v (.int .u64 (n0 : Int)))), (15, .r (.v (.int .u64 (x.1 : Int)))), (16, .r (.v (.int .u64 (x.2 : Int))))], [], 0⟩
def dvB (s Y a b u n1 n0 Q v : Nat) (x : Nat × Nat) : St := ⟨[(2, .r (.v (.int .u64 (Y : Int)))), (8, .r (.v (.int .u64 (s : Int)))), (9, .r (.v (.int .u64 (a : Int)))), (10, .r (.v (.int .u64 (b : Int)))), (14, .r (.v (.int .u64 (n0 : Int)))), (15, .r (.v (.int .u64 (Q : Int)))), (17, .r (.v (.int .u64 (v : Int)))), (18, .r (.v (.int .u64 (x.1 : Int)))), (16, .r (.v (.int .u64 (x.2 : Int))))], [], 0⟩
theorem zl2 {a b u n q rh : Nat} (h : KP a b u n) (hi : KI a b u n q rh) (hq : q < B64) :
  IntKind.u64.wrap (4294967296 * (rh : Int)) = ((W32 * rh : Nat) : Int) ∧ IntKind.u64.wrap (((W32 * rh : Nat) : Int) + (n : Int)) = ((W32 * rh + n : Nat) : Int) ∧ (q < W32 → IntKind.u64.wrap ((q : Int) * (b : Int)) = ((q * b : Nat) : Int)) ∧ IntKind.u64.wrap ((rh : Int) + (a : Int)) = ((rh + a : Nat) : Int) := by
 have h1 := hi.2.2
 have h2 := h.hn
 have h3 := h.a2
 have h4 := h.hb
 have hW := zmh
 have hWr : W32 * rh = 4294967296 * rh := rfl
 rw [hWr]
 refine ⟨by rw [IntKind.wrap_u64]; omega, by rw [IntKind.wrap_u64]; omega, fun hqw => ?_, by rw [IntKind.wrap_u64]; omega⟩
 have e : q * b < W32 * W32 := Nat.mul_lt_mul'' hqw h4
 have e2 : W32 * W32 = 18446744073709551616 := rfl
 rw [← Int.natCast_mul]
 generalize q * b = z at *
 rw [IntKind.wrap_u64]; omega
theorem zmf : B64 = 18446744073709551616 := rfl
theorem zme : B64 = W32 * W32 := rfl
theorem zlf (Y v u : Nat) (hY : Y < B64) (hY2 : B64 ≤ 2 * Y) (hv : v < B64) (hu : u < Y) : ∃ a b n1 n0 u2 Q1 Q0 r : Nat,
  Int.fdiv (Y : Int) (2 ^ (min (Int.toNat 32) IntKind.u64.bits)) = (a : Int) ∧ bits .and .u64 (Y : Int) 4294967295 = (b : Int) ∧
  Int.fdiv (v : Int) (2 ^ (min (Int.toNat 32) IntKind.u64.bits)) = (n1 : Int) ∧ bits .and .u64 (v : Int) 4294967295 = (n0 : Int) ∧
  KP a b u n1 ∧ KP a b u2 n0 ∧ a * W32 + b = Y ∧ Q1 = (u * W32 + n1) / (a * W32 + b) ∧ Q0 = (u2 * W32 + n0) / (a * W32 + b) ∧
  IntKind.u64.wrap (IntKind.u64.wrap (IntKind.u64.wrap ((u : Int) * 4294967296) + (n1 : Int)) - IntKind.u64.wrap ((Q1 : Int) * (Y : Int))) = (u2 : Int) ∧
  IntKind.u64.wrap (IntKind.u64.wrap (IntKind.u64.wrap ((u2 : Int) * 4294967296) + (n0 : Int)) - IntKind.u64.wrap ((Q0 : Int) * (Y : Int))) = (r : Int) ∧
  IntKind.u64.wrap (IntKind.u64.wrap ((Q1 : Int) * 4294967296) + (Q0 : Int)) = (((u * B64 + v) / Y : Nat) : Int) ∧ r = (u * B64 + v) % Y := by
 have hW := zmh
 have hB := zmf
 have hn1 : v / W32 < W32 := by unfold W32; omega
 have hn0 : v % W32 < W32 := by unfold W32; omega
 have hab : Y / W32 * W32 + Y % W32 = Y := by unfold W32; omega
 have hP : KP (Y / W32) (Y % W32) u (v / W32) := ⟨by unfold W32; omega, by unfold W32; omega, by unfold W32; omega, hn1, by omega⟩
 have hvv : (u * W32 + v / W32) * W32 + v % W32 = u * B64 + v := by
  rw [zme, Nat.add_mul, ← Nat.mul_assoc, Nat.add_assoc, show v / W32 * W32 + v % W32 = v by unfold W32; omega]
 obtain ⟨j1, j2⟩ := zmA (u := u) (n1 := v / W32) (n0 := v % W32) (y := Y) (by omega)
 rw [hvv] at j1 j2
 have hu2 : (u * W32 + v / W32) % Y < Y := Nat.mod_lt _ (by omega)
 have hP2 : KP (Y / W32) (Y % W32) ((u * W32 + v / W32) % Y) (v % W32) := ⟨hP.a1, hP.a2, hP.hb, hn0, by omega⟩
 have r1 := zj6 u (v / W32) ((u * W32 + v / W32) / Y) Y hY (by omega) rfl
 have hu3 : ((u * W32 + v / W32) % Y * W32 + v % W32) % Y < Y := Nat.mod_lt _ (by omega)
 have r2 := zj6 ((u * W32 + v / W32) % Y) (v % W32) (((u * W32 + v / W32) % Y * W32 + v % W32) / Y) Y hY (by omega) rfl
 have q1 := hP.q
 have q0 := hP2.q
 rw [hab] at q1 q0
 refine ⟨Y / W32, Y % W32, v / W32, v % W32, (u * W32 + v / W32) % Y, (u * W32 + v / W32) / Y, ((u * W32 + v / W32) % Y * W32 + v % W32) / Y, ((u * W32 + v / W32) % Y * W32 + v % W32) % Y, znT Y, zf5 Y hY, znT v, zf5 v hv, hP, hP2, hab, by rw [hab], by rw [hab], r1, r2, ?_, j2.symm⟩
 rw [j1]
 generalize (u * W32 + v / W32) / Y = X1 at *
 generalize ((u * W32 + v / W32) % Y * W32 + v % W32) / Y = X0 at *
 have e1 : IntKind.u64.wrap ((X1 : Int) * 4294967296) = ((X1 * W32 : Nat) : Int) := by rw [IntKind.wrap_u64]; unfold W32 at q1 ⊢; omega
 rw [e1, IntKind.wrap_u64]
 unfold W32 at q1 q0 ⊢
 omega
theorem zmB (hi lo y : Nat) (hh : hi < y) (hlo : lo < B64) (s : Nat) (hs : s < 64) (hY : y * 2 ^ s < B64) (hY2 : B64 ≤ 2 * (y * 2 ^ s)) : ∃ Y A C u v s2 a b n1 n0 u2 Q1 Q0 r : Nat,
  IntKind.u64.wrap (s : Int) = (s : Int) ∧ IntKind.u64.wrap (64 - (s : Int)) = (s2 : Int) ∧
  IntKind.u64.wrap ((y : Int) * 2 ^ (min (Int.toNat (s : Int)) IntKind.u64.bits)) = (Y : Int) ∧
  IntKind.u64.wrap ((hi : Int) * 2 ^ (min (Int.toNat (s : Int)) IntKind.u64.bits)) = (A : Int) ∧
  Int.fdiv (lo : Int) (2 ^ (min (Int.toNat (s2 : Int)) IntKind.u64.bits)) = (C : Int) ∧
  bits .or .u64 (A : Int) (C : Int) = (u : Int) ∧
  IntKind.u64.wrap ((lo : Int) * 2 ^ (min (Int.toNat (s : Int)) IntKind.u64.bits)) = (v : Int) ∧
  Int.fdiv (Y : Int) (2 ^ (min (Int.toNat 32) IntKind.u64.bits)) = (a : Int) ∧ bits .and .u64 (Y : Int) 4294967295 = (b : Int) ∧
  Int.fdiv (v : Int) (2 ^ (min (Int.toNat 32) IntKind.u64.bits)) = (n1 : Int) ∧ bits .and .u64 (v : Int) 4294967295 = (n0 : Int) ∧
  KP a b u n1 ∧ KP a b u2 n0 ∧ u < B64 ∧ u2 < B64 ∧ Q1 = (u * W32 + n1) / (a * W32 + b) ∧ Q0 = (u2 * W32 + n0) / (a * W32 + b) ∧
  IntKind.u64.wrap (IntKind.u64.wrap (IntKind.u64.wrap ((u : Int) * 4294967296) + (n1 : Int)) - IntKind.u64.wrap ((Q1 : Int) * (Y : Int))) = (u2 : Int) ∧
  IntKind.u64.wrap (IntKind.u64.wrap (IntKind.u64.wrap ((u2 : Int) * 4294967296) + (n0 : Int)) - IntKind.u64.wrap ((Q0 : Int) * (Y : Int))) = (r : Int) ∧
  IntKind.u64.wrap (IntKind.u64.wrap ((Q1 : Int) * 4294967296) + (Q0 : Int)) = (((hi * B64 + lo) / y : Nat) : Int) ∧
  Int.fdiv (r : Int) (2 ^ (min (Int.toNat (s : Int)) IntKind.u64.bits)) = (((hi * B64 + lo) % y : Nat) : Int) := by
 obtain ⟨w1, w2, w3, w4⟩ := zlh hi lo y s hlo hh hs hY
 obtain ⟨k1, k2⟩ := zlg (hi * B64 + lo) y s (by omega)
 rw [← w4] at k1 k2
 have g1 := zcu y s hs
 rw [Nat.mod_eq_of_lt hY] at g1
 have g2 := zcu hi s hs
 rw [Nat.mod_eq_of_lt w1] at g2
 have g3 := zda lo (64 - s) (by omega)
 have g4 := zeT (hi * 2 ^ s) (lo / 2 ^ (64 - s)) s (Nat.mul_mod_left _ _) w2 (Nat.lt_trans w3 hY)
 have g5 := zcu lo s hs
 have g6 : IntKind.u64.wrap (64 - (s : Int)) = ((64 - s : Nat) : Int) := by rw [IntKind.wrap_u64]; omega
 have g7 : IntKind.u64.wrap (s : Int) = (s : Int) := by rw [IntKind.wrap_u64]; omega
 obtain ⟨a, b, n1, n0, u2, Q1, Q0, r, t1, t2, t3, t4, t5, t6, t7, t8, t9, t10, t11, t12, t13⟩ := zlf (y * 2 ^ s) (lo * 2 ^ s % B64) (hi * 2 ^ s + lo / 2 ^ (64 - s)) hY hY2 (Nat.mod_lt _ (by decide)) w3
 rw [k1] at t12
 have g8 := zda r s (Nat.le_of_lt hs)
 rw [t13, k2, ← t13] at g8
 have hu2 := t6.hu
 rw [t7] at hu2
 exact ⟨_, _, _, _, _, _, a, b, n1, n0, u2, Q1, Q0, r, g7, g6, g1, g2, g3, g4, g5, t1, t2, t3, t4, t5, t6, Nat.lt_trans w3 hY, Nat.lt_trans hu2 hY, t8, t9, t10, t11, t12, g8⟩
theorem zms (hi lo y : Nat) (hh : hi < y) (hlo : lo < B64) (hy : y < B64) (h0 : hi ≠ 0) (s : Nat) (hs : s < 64) (hY : y * 2 ^ s < B64) (hY2 : B64 ≤ 2 * (y * 2 ^ s))
  (cL : zaq Tryz.prog 97 [.r (.v (.int .u64 (y : Int)))] [] (.r (.v (.int .i64 (s : Int)))) []) :
  zaq Tryz.prog 76 [.r (.v (.int .u64 (hi : Int))), .r (.v (.int .u64 (lo : Int))), .r (.v (.int .u64 (y : Int)))] [] (.tu [.r (.v (.int .u64 (((hi * B64 + lo) / y : Nat) : Int))), .r (.v (.int .u64 (((hi * B64 + lo) % y : Nat) : Int)))]) [] := by
 obtain ⟨Y, A, C, u, v, s2, a, b, n1, n0, u2, Q1, Q0, r, g7, g6, g1, g2, g3, g4, g5, e1, e2, e3, e4, hP, hP2, hu, hu2, hQ1, hQ0, r1, r2, r3, g8⟩ := zmB hi lo y hh hlo s hs hY hY2
 generalize (hi * B64 + lo) / y = Qf at *
 generalize (hi * B64 + lo) % y = Rf at *
 have hI1 := zj5 hP
 have hI2 := zj5 hP2
 clear hY hY2
 have d1 := zkY u a hu
 have d2 := zkY u2 a hu2
 have ha0 : (a : Int) ≠ 0 := by
  have := hP.a1
  unfold W32 at this; omega
 have m1 : IntKind.u64.wrap (((u / a : Nat) : Int) * (a : Int)) = ((u / a * a : Nat) : Int) := by
  have := Nat.div_mul_le_self u a
  rw [← Int.natCast_mul]
  generalize u / a * a = z at *
  unfold B64 at hu
  rw [IntKind.wrap_u64]; omega
 have m2 : IntKind.u64.wrap (((u2 / a : Nat) : Int) * (a : Int)) = ((u2 / a * a : Nat) : Int) := by
  have := Nat.div_mul_le_self u2 a
  rw [← Int.natCast_mul]
  generalize u2 / a * a = z at *
  unfold B64 at hu2
  rw [IntKind.wrap_u64]; omega
 have t1 : IntKind.u64.wrap ((u : Int) - ((u / a * a : Nat) : Int)) = ((u % a : Nat) : Int) := by
  have h1 := Nat.mod_add_div u a
  rw [Nat.mul_comm] at h1
  generalize u / a * a = z at *
  generalize u % a = x at *
  unfold B64 at hu
  rw [IntKind.wrap_u64]; omega
 have t2 : IntKind.u64.wrap ((u2 : Int) - ((u2 / a * a : Nat) : Int)) = ((u2 % a : Nat) : Int) := by
  have h1 := Nat.mod_add_div u2 a
  rw [Nat.mul_comm] at h1
  generalize u2 / a * a = z at *
  generalize u2 % a = x at *
  unfold B64 at hu2
  rw [IntKind.wrap_u64]; omega
 refine zaw Tryz.func76 rfl (Nat.le_of_ble_eq_true rfl) rfl rfl ?_
 (repeat' (first | refine zae ?_ | (refine is_f 97 ?_; refine zaf (cL) ?_) | (refine zab (fun hb => ?_) (fun hb => ?_) <;> (try (exfalso; omega))) | fail))
 all_goals (first | (exfalso; omega) | skip)
 refine zhh (dvA s Y a b u n1 n0) (fun x => x.1 = Q1) ?_ ?_
 ·skip
  refine zap (fun x : Nat × Nat => dvA s Y a b u n1 n0 x) (fun x => KI a b u n1 x.1 x.2 ∧ x.1 ≤ u / a) (fun x => x.1) (u / a, u % a) ⟨hI1, Nat.le_refl _⟩ (by (refine Le.mk [] [] zai zal zak zah)) fun x hx => ?_
  obtain ⟨q, rh⟩ := x
  obtain ⟨hi, hqa⟩ := hx
  dsimp only at hi hqa
  have hq9 : q < B64 := Nat.lt_of_le_of_lt (Nat.le_trans hqa (Nat.div_le_self _ _)) hu
  obtain ⟨c1, c2, c3, c4⟩ := zl2 hP hi hq9
  change awp _ _ _ _ _ (dvA s Y a b u n1 n0 (q, rh))
  unfold dvA
  dsimp only
  rcases Nat.lt_or_ge q W32 with hqw | hqw
  ·have c5 := c3 hqw
   have hx1 : ¬ (4294967296 : Int) ≤ (q : Int) := by unfold W32 at hqw; omega
   by_cases hc : W32 * rh + n1 < q * b
   ·obtain ⟨z1, z2, z3⟩ := zle hP hi (.inr hc)
    have hd : IntKind.u64.wrap ((q : Int) - 1) = ((q - 1 : Nat) : Int) := by rw [IntKind.wrap_u64]; unfold B64 at hq9; omega
    by_cases hbk : W32 ≤ rh + a
    ·have hs9 : q - 1 = Q1 := by rw [hQ1]; exact ziD hP z2 z3 hbk
     have hx9 : (4294967296 : Int) ≤ ((rh + a : Nat) : Int) := by unfold W32 at hbk; omega
     clear z1 z2 z3
     (repeat' (first | refine zae ?_ | (refine zab (fun hb => ?_) (fun hb => ?_) <;> (try (exfalso; omega))) | fail))
     all_goals (first | (exfalso; omega) | exact ⟨(q - 1, rh + a), hs9, by show Le _ _ (dvA s Y a b u n1 n0 (q - 1, rh + a)); unfold dvA; (refine Le.mk [] [] zai zal zak zah)⟩)
    ·have hx9 : ¬ (4294967296 : Int) ≤ ((rh + a : Nat) : Int) := by unfold W32 at hbk; omega
     (repeat' (first | refine zae ?_ | (refine zab (fun hb => ?_) (fun hb => ?_) <;> (try (exfalso; omega))) | fail))
     all_goals (first | (exfalso; omega) | exact ⟨(q - 1, rh + a), ⟨⟨z2, z3, by show rh + a < W32; omega⟩, by show q - 1 ≤ u / a; omega⟩, by show Le _ _ (dvA s Y a b u n1 n0 (q - 1, rh + a)); unfold dvA; (refine Le.mk [] [] zai zal zak zah), by show q - 1 < q; omega⟩)
   ·have hs9 : q = Q1 := by rw [hQ1]; exact zj7 hP hi (by omega)
    (repeat' (first | refine zae ?_ | (refine zab (fun hb => ?_) (fun hb => ?_) <;> (try (exfalso; omega))) | fail))
    all_goals (first | (exfalso; omega) | exact ⟨(q, rh), hs9, by show Le _ _ (dvA s Y a b u n1 n0 (q, rh)); unfold dvA; (refine Le.mk [] [] zai zal zak zah)⟩)
  ·have hx1 : (4294967296 : Int) ≤ (q : Int) := by unfold W32 at hqw; omega
   obtain ⟨z1, z2, z3⟩ := zle hP hi (.inl hqw)
   have hd : IntKind.u64.wrap ((q : Int) - 1) = ((q - 1 : Nat) : Int) := by rw [IntKind.wrap_u64]; unfold B64 at hq9; omega
   by_cases hbk : W32 ≤ rh + a
   ·have hs9 : q - 1 = Q1 := by rw [hQ1]; exact ziD hP z2 z3 hbk
    have hx9 : (4294967296 : Int) ≤ ((rh + a : Nat) : Int) := by unfold W32 at hbk; omega
    clear z1 z2 z3
    (repeat' (first | refine zae ?_ | (refine zab (fun hb => ?_) (fun hb => ?_) <;> (try (exfalso; omega))) | fail))
    all_goals (first | (exfalso; omega) | exact ⟨(q - 1, rh + a), hs9, by show Le _ _ (dvA s Y a b u n1 n0 (q - 1, rh + a)); unfold dvA; (refine Le.mk [] [] zai zal zak zah)⟩)
   ·have hx9 : ¬ (4294967296 : Int) ≤ ((rh + a : Nat) : Int) := by unfold W32 at hbk; omega
    (repeat' (first | refine zae ?_ | (refine zab (fun hb => ?_) (fun hb => ?_) <;> (try (exfalso; omega))) | fail))
    all_goals (first | (exfalso; omega) | exact ⟨(q - 1, rh + a), ⟨⟨z2, z3, by show rh + a < W32; omega⟩, by show q - 1 ≤ u / a; omega⟩, by show Le _ _ (dvA s Y a b u n1 n0 (q - 1, rh + a)); unfold dvA; (refine Le.mk [] [] zai zal zak zah), by show q - 1 < q; omega⟩)
 ·rintro ⟨q, rh⟩ hq9
  dsimp only at hq9
  subst q
  change awp _ _ _ _ _ (dvA s Y a b u n1 n0 (Q1, rh))
  unfold dvA
  dsimp only
  (repeat' (first | refine zae ?_ | (refine zab (fun hb => ?_) (fun hb => ?_) <;> (try (exfalso; omega))) | fail))
  refine zhh (dvB s Y a b u n1 n0 Q1 u2) (fun x => x.1 = Q0) ?_ ?_
  ·skip
   refine zap (fun x : Nat × Nat => dvB s Y a b u n1 n0 Q1 u2 x) (fun x => KI a b u2 n0 x.1 x.2 ∧ x.1 ≤ u2 / a) (fun x => x.1) (u2 / a, u2 % a) ⟨hI2, Nat.le_refl _⟩ (by (refine Le.mk [] [] zai zal zak zah)) fun x hx => ?_
   obtain ⟨q, rh⟩ := x
   obtain ⟨hi, hqa⟩ := hx
   dsimp only at hi hqa
   have hq9 : q < B64 := Nat.lt_of_le_of_lt (Nat.le_trans hqa (Nat.div_le_self _ _)) hu2
   obtain ⟨c1, c2, c3, c4⟩ := zl2 hP2 hi hq9
   change awp _ _ _ _ _ (dvB s Y a b u n1 n0 Q1 u2 (q, rh))
   unfold dvB
   dsimp only
   rcases Nat.lt_or_ge q W32 with hqw | hqw
   ·have c5 := c3 hqw
    have hx1 : ¬ (4294967296 : Int) ≤ (q : Int) := by unfold W32 at hqw; omega
    by_cases hc : W32 * rh + n0 < q * b
    ·obtain ⟨z1, z2, z3⟩ := zle hP2 hi (.inr hc)
     have hd : IntKind.u64.wrap ((q : Int) - 1) = ((q - 1 : Nat) : Int) := by rw [IntKind.wrap_u64]; unfold B64 at hq9; omega
     by_cases hbk : W32 ≤ rh + a
     ·have hs9 : q - 1 = Q0 := by rw [hQ0]; exact ziD hP2 z2 z3 hbk
      have hx9 : (4294967296 : Int) ≤ ((rh + a : Nat) : Int) := by unfold W32 at hbk; omega
      clear z1 z2 z3
      (repeat' (first | refine zae ?_ | (refine zab (fun hb => ?_) (fun hb => ?_) <;> (try (exfalso; omega))) | fail))
      all_goals (first | (exfalso; omega) | exact ⟨(q - 1, rh + a), hs9, by show Le _ _ (dvB s Y a b u n1 n0 Q1 u2 (q - 1, rh + a)); unfold dvB; (refine Le.mk [] [] zai zal zak zah)⟩)
     ·have hx9 : ¬ (4294967296 : Int) ≤ ((rh + a : Nat) : Int) := by unfold W32 at hbk; omega
      (repeat' (first | refine zae ?_ | (refine zab (fun hb => ?_) (fun hb => ?_) <;> (try (exfalso; omega))) | fail))
      all_goals (first | (exfalso; omega) | exact ⟨(q - 1, rh + a), ⟨⟨z2, z3, by show rh + a < W32; omega⟩, by show q - 1 ≤ u2 / a; omega⟩, by show Le _ _ (dvB s Y a b u n1 n0 Q1 u2 (q - 1, rh + a)); unfold dvB; (refine Le.mk [] [] zai zal zak zah), by show q - 1 < q; omega⟩)
    ·have hs9 : q = Q0 := by rw [hQ0]; exact zj7 hP2 hi (by omega)
     (repeat' (first | refine zae ?_ | (refine zab (fun hb => ?_) (fun hb => ?_) <;> (try (exfalso; omega))) | fail))
     all_goals (first | (exfalso; omega) | exact ⟨(q, rh), hs9, by show Le _ _ (dvB s Y a b u n1 n0 Q1 u2 (q, rh)); unfold dvB; (refine Le.mk [] [] zai zal zak zah)⟩)
   ·have hx1 : (4294967296 : Int) ≤ (q : Int) := by unfold W32 at hqw; omega
    obtain ⟨z1, z2, z3⟩ := zle hP2 hi (.inl hqw)
    have hd : IntKind.u64.wrap ((q : Int) - 1) = ((q - 1 : Nat) : Int) := by rw [IntKind.wrap_u64]; unfold B64 at hq9; omega
    by_cases hbk : W32 ≤ rh + a
    ·have hs9 : q - 1 = Q0 := by rw [hQ0]; exact ziD hP2 z2 z3 hbk
     have hx9 : (4294967296 : Int) ≤ ((rh + a : Nat) : Int) := by unfold W32 at hbk; omega
     clear z1 z2 z3
     (repeat' (first | refine zae ?_ | (refine zab (fun hb => ?_) (fun hb => ?_) <;> (try (exfalso; omega))) | fail))
     all_goals (first | (exfalso; omega) | exact ⟨(q - 1, rh + a), hs9, by show Le _ _ (dvB s Y a b u n1 n0 Q1 u2 (q - 1, rh + a)); unfold dvB; (refine Le.mk [] [] zai zal zak zah)⟩)
    ·have hx9 : ¬ (4294967296 : Int) ≤ ((rh + a : Nat) : Int) := by unfold W32 at hbk; omega
     (repeat' (first | refine zae ?_ | (refine zab (fun hb => ?_) (fun hb => ?_) <;> (try (exfalso; omega))) | fail))
     all_goals (first | (exfalso; omega) | exact ⟨(q - 1, rh + a), ⟨⟨z2, z3, by show rh + a < W32; omega⟩, by show q - 1 ≤ u2 / a; omega⟩, by show Le _ _ (dvB s Y a b u n1 n0 Q1 u2 (q - 1, rh + a)); unfold dvB; (refine Le.mk [] [] zai zal zak zah), by show q - 1 < q; omega⟩)
  ·rintro ⟨q, rh⟩ hq9
   dsimp only at hq9
   subst q
   change awp _ _ _ _ _ (dvB s Y a b u n1 n0 Q1 u2 (Q0, rh))
   unfold dvB
   dsimp only
   clear hI1 hI2 d1 d2 m1 m2 t1 t2
   (repeat' (first | refine zae ?_ | (refine zab (fun hb => ?_) (fun hb => ?_) <;> (try (exfalso; omega))) | fail))
   all_goals (first | (exfalso; omega) | exact ret2 [] (.int rfl) (.int rfl) rfl rfl rfl rfl)
theorem ziH (y : Nat) (hy : y < B64) (h0 : y ≠ 0) : 64 - bl y < 64 ∧ y * 2 ^ (64 - bl y) < B64 ∧ B64 ≤ 2 * (y * 2 ^ (64 - bl y)) ∧ bl y ≤ 64 := by
 have h1 := zis h0
 have h2 : bl y ≤ 64 := zcN (by rw [← za0]; exact hy)
 have h3 := zja y
 have h4 := zi9 y h0
 generalize bl y = k at *
 have hp : 0 < 2 ^ (64 - k) := Nat.pow_pos (by decide)
 refine ⟨by omega, ?_, ?_, h2⟩
 ·have : y * 2 ^ (64 - k) < 2 ^ k * 2 ^ (64 - k) := Nat.mul_lt_mul_of_pos_right h3 hp
  rw [← Nat.pow_add, show k + (64 - k) = 64 by omega, ← za0] at this
  exact this
 ·have : 2 ^ (k - 1) * 2 ^ (64 - k) ≤ y * 2 ^ (64 - k) := Nat.mul_le_mul h4 (Nat.le_refl _)
  rw [← Nat.pow_add, show k - 1 + (64 - k) = 63 by omega] at this
  have e : B64 = 2 * 2 ^ 63 := by decide
  rw [e]
  exact Nat.mul_le_mul (Nat.le_refl _) this
theorem znH (y : Nat) (hy : y < B64) (h0 : y ≠ 0) : zaq Tryz.prog 97 [.r (.v (.int .u64 (y : Int)))] [] (.r (.v (.int .i64 ((64 - bl y : Nat) : Int)))) [] := by
 have hb := (ziH y hy h0).2.2.2
 have e : ((64 - bl y : Nat) : Int) = 64 - (Lib.bitLen y : Int) := by rw [zlY y hy]; omega
 rw [e]
 refine zdX fun w => ?_
 have := Tryz.bits_LeadingZeros64 (y : Int) w (by omega) (by unfold B64 at hy; omega)
 rwa [Int.toNat_natCast] at this
theorem zmr (hi lo y : Nat) (hh : hi < y) (hlo : lo < B64) (hy : y < B64) :
  zaq Tryz.prog 76 [.r (.v (.int .u64 (hi : Int))), .r (.v (.int .u64 (lo : Int))), .r (.v (.int .u64 (y : Int)))] [] (.tu [.r (.v (.int .u64 (((hi * B64 + lo) / y : Nat) : Int))), .r (.v (.int .u64 (((hi * B64 + lo) % y : Nat) : Int)))]) [] := by
 by_cases h0 : hi = 0
 ·subst h0
  rw [Nat.zero_mul, Nat.zero_add]
  exact zla lo y hlo hy (by omega)
 ·obtain ⟨a, b, c, _⟩ := ziH y hy (by omega)
  exact zms hi lo y hh hlo hy h0 _ a b c (znH y hy (by omega))
def dqL (V y t N : Nat) : List Nat := List.replicate t 0 ++ ws (V / y) (N - t)
theorem zmt (xs : List Nat) (hw : Wds xs) (y t : Nat) (hy : 0 < y) (hyB : y < B64) (ht : t < xs.length) :
  (val (xs.drop (t + 1)) % y * B64 + xs.getD t 0) / y < B64 ∧
  (val (xs.drop (t + 1)) % y * B64 + xs.getD t 0) % y = val (xs.drop t) % y ∧
  (dqL (val (xs.drop (t + 1))) y (t + 1) xs.length).set t ((val (xs.drop (t + 1)) % y * B64 + xs.getD t 0) / y) = dqL (val (xs.drop t)) y t xs.length := by
 have hv := zdJ xs t ht
 have hx := hw.get t
 have hr : val (xs.drop (t + 1)) % y < y := Nat.mod_lt _ hy
 have hd := Nat.mod_add_div (val (xs.drop (t + 1))) y
 unfold dqL
 rw [hv]
 generalize val (xs.drop (t + 1)) = V at *
 generalize xs.getD t 0 = x at *
 have e : x + B64 * V = (V % y * B64 + x) + y * (V / y * B64) := by
  conv => lhs; rw [← hd]
  rw [Nat.mul_add, Nat.mul_comm B64 (V % y), Nat.mul_comm B64 (y * _), Nat.mul_assoc]
  omega
 have hdg : (V % y * B64 + x) / y < B64 := by
  rw [Nat.div_lt_iff_lt_mul hy]
  have : (V % y + 1) * B64 ≤ y * B64 := Nat.mul_le_mul hr (Nat.le_refl _)
  rw [Nat.add_mul, Nat.one_mul] at this
  rw [Nat.mul_comm B64 y]
  omega
 refine ⟨hdg, by rw [e, Nat.add_mul_mod_self_left], ?_⟩
 have e2 : (x + B64 * V) / y = (V % y * B64 + x) / y + B64 * (V / y) := by
  rw [e, Nat.add_mul_div_left _ _ hy, Nat.mul_comm B64 (V / y)]
 rw [e2, show xs.length - t = (xs.length - (t + 1)) + 1 by omega, ws]
 generalize (V % y * B64 + x) / y = d at *
 rw [Nat.add_mul_mod_self_left, Nat.mod_eq_of_lt hdg, Nat.add_mul_div_left _ _ (by decide), Nat.div_eq_of_lt hdg, Nat.zero_add]
 rw [List.replicate_succ', List.append_assoc]
 rw [List.set_append]
 simp
def rd2S (xs ys ql : List Nat) (rr : Nat) (z : Int) : St := ⟨[(0, .r (.sl 1 (wns xs))), (1, .r (.sl 1 (wns ys))), (6, .ow 0), (7, .r (.v (.int .u64 (rr : Int)))), (8, .r (.v (.int .i64 z)))], [(0, some (.row 23 1 (wns ql)))], 1⟩
theorem zg3 (m y : Nat) (hm : m < B64 ^ 4) (hy : y < B64) (hy0 : y ≠ 0) : zaq Tryz.prog 49 [.r (.sl 1 (wns (tw m))), .r (.sl 1 (wns (tw y)))] [] (.tu [.fr 23 1 (wns (tw (m / y))), .fr 23 1 (wns (tw (m % y)))]) [] := by
 have hw := zbe m
 have hvm := zaV m
 have hlen := zbk 4 m hm
 have hmod : m % y < B64 := Nat.lt_trans (Nat.mod_lt _ (by omega)) hy
 have hfin : trim (dqL (val ((tw m).drop 0)) y 0 (tw m).length) = tw (m / y) := by
  have h1 := zgv _ hw
  rw [hvm] at h1
  have h2 : m / y < B64 ^ (tw m).length := Nat.lt_of_le_of_lt (Nat.div_le_self _ _) h1
  unfold dqL
  rw [List.drop_zero, hvm, List.replicate_zero, List.nil_append, Nat.sub_zero, zdb _ (zdM _ _), zdL _ _ h2]
 have hfin2 : val ((tw m).drop 0) % y = m % y := by rw [List.drop_zero, hvm]
 have hst := fun t ht => zmt (tw m) hw y t (by omega) hy ht
 rw [zkV hy0 hy]
 generalize tw m = xs at *
 have hz : dqL (val (xs.drop xs.length)) y xs.length xs.length = List.replicate xs.length 0 := by
  unfold dqL
  rw [Nat.sub_self]
  show _ ++ [] = _
  rw [List.append_nil]
 have hz2 : val (xs.drop xs.length) % y = 0 := by rw [List.drop_length]; exact Nat.zero_mod _
 have l1 := zaY xs
 have l2 : (wns [y]).length = 1 := rfl
 have hrep : List.replicate (wns xs).length (List.map RV.v [Value.int IntKind.u64 0]) = wns (dqL (val (xs.drop xs.length)) y xs.length xs.length) := by
  rw [hz, l1]; unfold wns; rw [List.map_replicate]; rfl
 have hql : ∀ t, t ≤ xs.length → (dqL (val (xs.drop t)) y t xs.length).length = xs.length := fun t ht => by unfold dqL; rw [List.length_append, List.length_replicate, zcC]; omega
 have hd0 : IntKind.i64.wrap (((wns xs).length : Int) - 1) = (xs.length : Int) - 1 := by rw [l1, IntKind.wrap_i64]; omega
 refine zaw Tryz.func49 rfl (Nat.le_of_ble_eq_true rfl) rfl rfl ?_
 (repeat' (first | refine zae ?_ | (refine zab (fun hb => ?_) (fun hb => ?_) <;> (try (exfalso; omega))) | fail))
 all_goals (first | (exfalso; omega) | skip)
 refine zap (fun t => rd2S xs [y] (dqL (val (xs.drop t)) y t xs.length) (val (xs.drop t) % y) ((t : Int) - 1)) (fun t => t ≤ xs.length) (fun t => t) xs.length (Nat.le_refl _) (by rw [hz2]; (refine Le.mk [(0,0)] [] zai zal zak zah)) fun t ht => ?_
 rcases t with _ | t
 ·have cA := zfT (dqL (val (xs.drop 0)) y 0 xs.length) (by rw [hql 0 (by omega)]; omega)
  have cB := zfT [val (xs.drop 0) % y] (by simp)
  rw [hfin] at cA
  rw [hfin2, zlQ _ hmod] at cB
  rw [hfin2]
  change awp _ _ _ _ _ (rd2S xs [y] (dqL (val (xs.drop 0)) y 0 xs.length) (m % y) (-1))
  (repeat' (first | refine zae ?_ | (refine is_f 50 ?_; refine zbh (cA) ?_) | (refine is_f 50 ?_; refine ze7 (cB) ?_) | (refine zab (fun hb => ?_) (fun hb => ?_) <;> (try (exfalso; omega))) | fail))
  all_goals (first | (exfalso; omega) | exact ret2 [] (.fr 1 _ _ _ rfl) (.fr 3 _ _ _ rfl) rfl rfl rfl rfl)
 ·obtain ⟨s1, s2, s3⟩ := hst t (by omega)
  have hql1 := hql (t + 1) ht
  have hr : val (xs.drop (t + 1)) % y < y := Nat.mod_lt _ (by omega)
  have hx := hw.get t
  have cD := zmr (val (xs.drop (t + 1)) % y) (xs.getD t 0) y hr hx hy
  have gx := zbj (l := xs) (i := t) (by omega)
  show awp _ _ _ _ _ (rd2S xs [y] (dqL (val (xs.drop (t + 1))) y (t + 1) xs.length) (val (xs.drop (t + 1)) % y) (((t + 1 : Nat) : Int) - 1))
  rw [show (((t + 1 : Nat) : Int) - 1) = (t : Int) by omega]
  generalize dqL (val (xs.drop (t + 1))) y (t + 1) xs.length = ql at s3 hql1 ⊢
  generalize val (xs.drop (t + 1)) % y = rr at s1 s2 s3 cD hr ⊢
  generalize (rr * B64 + xs.getD t 0) / y = d at s1 s3 cD
  generalize (rr * B64 + xs.getD t 0) % y = r2 at s2 cD
  have hE : (wns ql).set t [.v (.int .u64 ((d : Nat) : Int))] = wns (ql.set t d) := zdd ql _ _
  have l3 := zaY ql
  have gq := zbj (l := ql) (i := t) (by omega)
  have hdec : IntKind.i64.wrap ((t : Int) - 1) = (t : Int) - 1 := by rw [IntKind.wrap_i64]; omega
  clear hfin hfin2 hz hz2 hrep hst hql
  (repeat' (first | refine zae ?_ | (refine is_f 76 ?_; refine zaf (cD) ?_) | (refine zab (fun hb => ?_) (fun hb => ?_) <;> (try (exfalso; omega))) | fail))
  all_goals (first | (exfalso; omega) | exact ⟨t, by omega, by show Le _ _ (rd2S xs [y] (dqL (val (xs.drop t)) y t xs.length) (val (xs.drop t) % y) ((t : Int) - 1)); rw [← s3, ← s2]; (refine Le.mk [(0,0)] [] zai zal zak zah), by show t < t + 1; omega⟩)
end Go.Proofs.YtpnbgalbdohfgaaGreatDoor
namespace Go.Ab
open Go.RowKit
section
variable {P : Program} {env : Nat → AV} {H : Nat → Option Blk} {d : Option Tmp} {ty : TypeId} {pos : String} {af : Array Edge} {g : Option (Nat × Bool)} {t u : TypeId} {x y : Operand}
theorem ziL {l : List UInt8} {i T : Nat} (hx : evA env x = .ow i) (hH : H i = some (.full T 1 (bys l))) (ht : P.underlying t = some (.slice (P.elem t))) (he : P.underlying (P.elem t) = some (.int .u8)) (hu : P.underlying u = some .string) : zas P ⟨d, .convert t u x, ty, pos, af, g⟩ env H [(i, .full T 1 (bys l))] (.r (.v (.string (sb l)))) := by
 refine ⟨fun i b h => by obtain ⟨rfl, rfl⟩ := mem1 h; exact hH, fun i hi => by simp [AV.ids] at hi, fun a w Z M hr hh => ?_⟩
 have h1 := hr x (by simp [Op.operands])
 rw [hx, AV.rep] at h1
 obtain ⟨q, us, fr, e1, hg, k1, k6, k7⟩ := hh i _ List.mem_cons_self
 rw [zff] at e1 k1
 have hus := zit l us.toList k6
 refine ⟨.string ⟨l.toArray⟩, ?_, by rw [AV.rep, RV.rep]; rfl⟩
 have key : (convert t u (.slice (some ⟨q, 0, none⟩) l.length l.length)).run P w = .ok (.string ⟨l.toArray⟩) w := by
  rw [run_convert_bytes_string w t u _ _ l.length l.length ht he hu]
  have hl : (loadCells ⟨q, 0, none⟩ l.length).run P w = .ok ((l.map fun b => (b.toNat : Int)).map (Value.int .u8)).toArray w := by
   have := run_loadCells_list (P := P) w ⟨q, 0, none⟩ us.toList (fun j v hj => by
    rw [show (⟨q, 0, none⟩ : Addr).add j = ⟨q, j, none⟩ by unfold Addr.add; split <;> simp_all, cell_of_row w q j us T fr hg]
    simpa using hj)
   rw [hus] at this
   simpa using this
  rw [run_bytesToString w ⟨q, 0, none⟩ l.length l.length _ hl, foldl_push_bytes]
  simp [ByteArray.empty, ByteArray.emptyWithCapacity]
  congr 1
  have : l.map ((fun n : Int => UInt8.ofNat n.toNat) ∘ fun b : UInt8 => (b.toNat : Int)) = l := by
   conv => rhs; rw [← List.map_id l]
   apply List.map_congr_left
   intro b _
   simp
  first | exact this | (rw [this]) | simpa using this
 rw [e1] at h1
 simp only [execOp, h1, Sem.run_bind, key, Result.andThen_ok, Sem.run_pure]
end
end Go.Ab
namespace Go.Proofs.YtpnbgalbdohfgaaGreatDoor
open Go.RowKit Go.Ab Go.Wd
def txt (z : Int) : ByteArray := sb (Lib.itoa z)
theorem zgD {n : Nat} (hn : n < B64 ^ 4) : (Lib.decDigits n).length ≤ 78 := zhT 78 n (by omega) (by rw [show (10 : Nat) ^ 78 = 1000000000000000000000000000000000000000000000000000000000000000000000000000000 by decide]; rw [zi8] at hn; omega)
theorem ziV {z : Int} (hz : z.natAbs < B64 ^ 4) : (txt z).size ≤ 79 := by
 unfold txt Lib.itoa
 rw [zeL]
 split
 ·have := zgD hz; simp; omega
 ·have : z.toNat = z.natAbs := by omega
  rw [this]; have := zgD hz; omega
def wc (g : Bool) (n : Nat) : List AV := [.r (.v (.bool g)), .r (.v (.int .u64 ((n % B64 : Nat) : Int))), .r (.v (.int .u64 ((n / B64 % B64 : Nat) : Int))), .r (.v (.int .u64 ((n / B64 / B64 % B64 : Nat) : Int))), .r (.v (.int .u64 ((n / B64 / B64 / B64 % B64 : Nat) : Int)))]
def rtS (g : Bool) (n m : Nat) (acc : List UInt8) : St := ⟨[(1, .pt 0 0), (3, .r (.sl 1 (wns (tw m)))), (4, .r (.v (.string (sb acc))))], [(0, some (.var 26 (wc g n)))], 1⟩
theorem ziY {T : Nat} (l : List Nat) : (AV.fr T 1 (wns l)).vals := by
 simp only [AV.vals]
 intro e he x hx
 unfold wns at he
 obtain ⟨a, _, rfl⟩ := List.mem_map.1 he
 obtain rfl := List.mem_singleton.1 hx
 exact ⟨_, rfl⟩
theorem znt (d : Nat) (h : d < 10) : ∃ (c : UInt8) (e : Int), UInt8.ofNat (48 + d) = c ∧ IntKind.u64.wrap (48 + (d : Int)) = e ∧ IntKind.u8.wrap e = (c.toNat : Int) := by
 refine ⟨_, _, rfl, rfl, ?_⟩
 have : d = 0 ∨ d = 1 ∨ d = 2 ∨ d = 3 ∨ d = 4 ∨ d = 5 ∨ d = 6 ∨ d = 7 ∨ d = 8 ∨ d = 9 := by omega
 rcases this with rfl | rfl | rfl | rfl | rfl | rfl | rfl | rfl | rfl | rfl <;> decide
theorem zg2 (b : Bool) (n : Nat) (hn : n < B64 ^ 4) : zaq Tryz.prog 25 [wd b n] [] (.r (.v (.string (txt (zb b n))))) [] := by
 have cC := ziu b n hn
 have hz : (zb b n).natAbs = n := by unfold zb; split <;> omega
 have hcap := ziV (z := zb b n) (by rw [hz]; exact hn)
 have cO : zaq Tryz.prog 27 [wz (zb b n)] [] (.r (.sl 1 (wns (tw n)))) [] := by
  have := of_m (decide (zb b n < 0)) (zb b n).natAbs (by rw [hz]; exact hn)
  rw [show tw n = tw (zb b n).natAbs by rw [hz]]
  exact this
 generalize zb b n = z at *
 have hl := zbk 4 n hn
 have l1 := zaY (tw n)
 have h48 : n = 0 → txt z = ⟨#[48]⟩ := fun h => by
  have : z = 0 := by omega
  subst this
  unfold txt Lib.itoa
  rw [if_neg (by omega), show (0 : Int).toNat = 0 from rfl, zfi (by omega)]
  rfl
 have hneg : ∀ g, decide (z < 0) = g → txt z = sb (if g = true then 45 :: Lib.decDigits n else Lib.decDigits n) := fun g hg => by
  subst hg
  unfold txt Lib.itoa
  by_cases h : z < 0
  ·rw [if_pos h, if_pos (by simp [h]), hz]
  ·rw [if_neg h, if_neg (by simp [h]), show z.toNat = n by omega]
 refine zaw Tryz.func25 rfl (Nat.le_of_ble_eq_true rfl) rfl rfl ?_
 (repeat' (first | (first | refine zbm 3 ?_ | refine za4 3 ?_) | refine zcy ?_ | refine zbp ?_ | (refine is_f 48 ?_; refine zav (cC) ?_) | (refine is_f 27 ?_; refine zav (cO) ?_) | (refine zab (fun hb => ?_) (fun hb => ?_) <;> (try (exfalso; omega))) | fail))
 refine halt ?_
 refine zci (T := ⟨[(1, .pt 0 0), (3, .r (.sl 1 (wns (tw n))))], [(0, some (.var 26 (wc (decide (z < 0)) z.natAbs)))], 1⟩) (by (refine Le.mk [(0,0)] [] zai zaK zaS zah)) ?_
 rw [hz]
 generalize txt z = r at *
 generalize decide (z < 0) = g at *
 have hneg := hneg g rfl
 clear cC cO hz
 by_cases hn0 : n = 0
 ·have h48 := h48 hn0
  have hl0 : (wns (tw n)).length = 0 := by rw [l1, hn0, tw, dif_pos rfl]; rfl
  subst h48
  clear hneg
  (repeat' (first | refine zao ?_ | (refine zab (fun hb => ?_) (fun hb => ?_) <;> (try (exfalso; omega))) | fail))
  all_goals (first | (exfalso; omega) | exact ret1 [] (.r _) rfl rfl rfl)
 ·have hl0 : 0 < (wns (tw n)).length := by rw [l1, tw, dif_neg hn0]; simp
  clear h48
  (repeat' (first | refine zao ?_ | (refine zab (fun hb => ?_) (fun hb => ?_) <;> (try (exfalso; omega))) | fail))
  all_goals (first | (exfalso; omega) | skip)
  refine zap (fun x : Nat × List UInt8 => rtS g n x.1 x.2) (fun x => x.1 ≤ n ∧ dz x.1 ++ x.2 = Lib.decDigits n) (fun x => x.1) (n, []) ⟨Nat.le_refl _, by unfold dz; rw [if_neg hn0, List.append_nil]⟩ (by (refine Le.mk [(0,0)] [] zai zaK zaS zah)) fun x hx => ?_
  obtain ⟨m, acc⟩ := x
  obtain ⟨hm, hacc⟩ := hx
  dsimp only at hm hacc
  change awp _ _ _ _ _ (rtS g n m acc)
  clear hl l1 hl0
  have hcd := zgD hn
  have l1 := zaY (tw m)
  by_cases hm0 : m = 0
  ·have hl0 : (wns (tw m)).length = 0 := by rw [l1, hm0, tw, dif_pos rfl]; rfl
   have ha : acc = Lib.decDigits n := by rw [← hacc, hm0]; rfl
   rw [← ha] at hneg hcd
   clear hacc ha
   rcases g with _ | _
   ·subst hneg
    (repeat' (first | refine zao ?_ | (refine zab (fun hb => ?_) (fun hb => ?_) <;> (try (exfalso; omega))) | fail))
    all_goals (first | (exfalso; omega) | exact ret1 [] (.r _) rfl rfl rfl)
   ·have hlen : (45 :: acc).length ≤ 9223372036854775807 := by simp; omega
    subst hneg
    (repeat' (first | (refine zbu ?_; refine za2 ?_; refine zag rfl zaa (zcs (a := [45]) (b := acc) (c := 45 :: acc) rfl hlen rfl rfl) ?_) | refine zao ?_ | (refine zab (fun hb => ?_) (fun hb => ?_) <;> (try (exfalso; omega))) | fail))
    all_goals (first | (exfalso; omega) | exact ret1 [] (.r _) rfl rfl rfl)
  ·have hl0 : 0 < (wns (tw m)).length := by rw [l1, tw, dif_neg hm0]; simp
   have cD := zg3 m 10 (by omega) (by unfold B64; omega) (by omega)
   rw [zkV (show (10 : Nat) ≠ 0 by omega) (show 10 < B64 by unfold B64; omega), show wns [10] = [[.v (.int .u64 10)]] from rfl] at cD
   have hst := zmu hm0
   have hd9 : m % 10 < 10 := Nat.mod_lt _ (by omega)
   obtain ⟨c, e, hc, hc1, hc2⟩ := znt (m % 10) hd9
   rw [hc] at hst
   have hlen : (c :: acc).length ≤ 9223372036854775807 := by
    have : (dz m ++ acc).length ≤ 78 := by rw [hacc]; exact hcd
    rw [hst] at this
    simp at this ⊢
    omega
   have hinv : m / 10 ≤ n ∧ dz (m / 10) ++ (c :: acc) = Lib.decDigits n := ⟨by omega, by rw [← hacc, hst]; simp⟩
   have hdec : m / 10 < m := by omega
   clear hst hc hacc
   generalize m % 10 = d at *
   (repeat' (first | (first | refine zbm 8 ?_ | refine za4 8 ?_) | (refine is_f 49 ?_; refine zeW [1] [(1, _)] cD (.cons _ _ _ _ (.r _) (.cons _ _ _ _ (.fz 1 _ _ _ rfl (by simp)) .nil)) (by kernel_rfl) (by intro g h; rw [List.mem_singleton] at h; subst h; exact ⟨_, List.mem_cons_self, rfl⟩) (by intro i b h; rw [List.mem_singleton] at h; injection h with h1 h2; subst h1 h2; rfl) (.inr (zio (zes (ziY _) (zes (ziY _) zhb)))) rfl rfl rfl (.inl ⟨rfl, rfl⟩) ?_) | refine zcy ?_ | refine zbp ?_ | (refine zab (fun hb => ?_) (fun hb => ?_) <;> (try (exfalso; omega))) | fail))
   all_goals (first | (exfalso; omega) | skip)
   refine halt ?_
   refine zci (T := ⟨[(1, .pt 0 0), (4, .r (.v (.string (sb acc)))), (5, .r (.sl 1 (wns (tw (m / 10))))), (6, .r (.sl 1 (wns (tw d))))], [(0, some (.var 26 (wc g n)))], 1⟩) (by (refine Le.mk [(0,0)] [2,3] zai zaK zaS zah)) ?_
   clear cD hb
   by_cases hr : d = 0
   ·subst hr
    have hz0 : (wns (tw 0)).length = 0 := by rw [zb7]; rfl
    have hc1 : IntKind.u64.wrap (48 + 0) = e := hc1
    (repeat' (first | (refine zcY ?_; refine zag rfl zaa (ziL (l := [c]) rfl rfl (by kernel_rfl) (by kernel_rfl) (by kernel_rfl)) ?_) | (refine zbu ?_; refine za2 ?_; refine zag rfl zaa (zcs (a := [c]) (b := acc) (c := c :: acc) rfl hlen rfl rfl) ?_) | refine zao ?_ | (refine zab (fun hb => ?_) (fun hb => ?_) <;> (try (exfalso; omega))) | fail))
    all_goals (first | (exfalso; omega) | exact ⟨(m / 10, c :: acc), hinv, by show Le _ _ (rtS g n (m / 10) (c :: acc)); (refine Le.mk [(0,0)] [] zai zaK zaS zah), hdec⟩)
   ·rw [zkV hr (by unfold B64; omega), show wns [d] = [[.v (.int .u64 (d : Int))]] from rfl]
    have hz1 : ([[.v (.int .u64 (d : Int))]] : List (List RV)).length = 1 := rfl
    (repeat' (first | (refine zcY ?_; refine zag rfl zaa (ziL (l := [c]) rfl rfl (by kernel_rfl) (by kernel_rfl) (by kernel_rfl)) ?_) | (refine zbu ?_; refine za2 ?_; refine zag rfl zaa (zcs (a := [c]) (b := acc) (c := c :: acc) rfl hlen rfl rfl) ?_) | refine zao ?_ | (refine zab (fun hb => ?_) (fun hb => ?_) <;> (try (exfalso; omega))) | fail))
    all_goals (first | (exfalso; omega) | exact ⟨(m / 10, c :: acc), hinv, by show Le _ _ (rtS g n (m / 10) (c :: acc)); (refine Le.mk [(0,0)] [] zai zaK zaS zah), hdec⟩)
def strs (l : List (List UInt8)) : List (List RV) := l.map fun s => [.v (.string (sb s))]
theorem zfb (l : List (List UInt8)) : (strs l).length = l.length := by simp [strs]
theorem zfQ (a b : List (List UInt8)) : strs (a ++ b) = strs a ++ strs b := by simp [strs]
theorem ziU (l : List (List UInt8)) : strs l = rawR (l.map fun s => [Value.string (sb s)]) := by simp [strs, rawR]
theorem zkP (l : List (List UInt8)) : (strs l).flatten = (l.map fun s => Value.string (sb s)).map RV.v := by
 induction l with
 | nil => rfl
 | cons x l ih =>
  rw [show strs (x :: l) = [.v (.string (sb x))] :: strs l from rfl, List.flatten_cons, ih]
  rfl
theorem zhE (l : List (List UInt8)) : (l.map fun s => [Value.string (sb s)]).flatten = l.map fun s => Value.string (sb s) := by
 induction l with
 | nil => rfl
 | cons x l ih => rw [List.map_cons, List.flatten_cons, ih]; rfl
theorem zhZ {f : FuncId} {ds : List AV} {vs : List Value} {x : Value} (hp : Pure ds vs) (h : ∀ w, Calls Tryz.prog f vs.toArray w fun e w' => e = .returned x ∧ Below w.heap.size w w') : zaq Tryz.prog f ds [] (.r (.v x)) [] := by
 intro w Z M k us hM hk hargs _ _
 rw [hp.of Z M w us hargs]
 exact (h w).mono fun e w' ⟨he, hw⟩ => ⟨x, he, Z, fun _ _ => rfl, by simp only [zaI, AV.unfr, AV.rep, RV.rep], fun i b h => by simp [zaI, zbq] at h, fun j b h => by simp [zaI, AV.unfr] at h, fun j j' x h => by simp [zaI, AV.unfr] at h, fun j x h => by simp [zaI, AV.unfr] at h, Go.Ab.Upto.of_below hw⟩
theorem zlA (s : List UInt8) (c : Nat) (hc : c ≤ 1000) (hs : s.length ≤ 1000) : zaq Tryz.prog 46 [.r (.v (.string (sb s))), .r (.v (.int .i64 (c : Int)))] [] (.r (.v (.string (sb (Lib.repeatL s c))))) [] :=
 zhZ (Pure.v (Pure.v Pure.nil)) fun w => Tryz.strings_Repeat (sb s) c w (by omega) (by rw [zeL]; exact Nat.le_trans (Nat.mul_le_mul hs hc) (by omega))
theorem zkz (n : Nat) : Lib.repeatL [48] n = List.replicate n 48 := by
 induction n with
 | zero => rfl
 | succ n ih => rw [Lib.repeatL, ih, List.replicate_succ]; rfl
theorem zmz {b : Blk} {l : List (List UInt8)} {sep : List UInt8} (hN : l.length ≤ 1000) (hlen : (Lib.join l sep).length ≤ 140737488355328) (hids : b.ids = [])
  (hb : ∀ Z M w, held Z M w 0 b → ∃ A c, Z 0 = .slice A l.length c ∧ (l = [] ∨ ∃ g, A = some ⟨g, 0, none⟩ ∧ g < w.heap.size ∧ l.length ≤ c ∧ ∀ (j : Nat) x, (l.map sb)[j]? = some x → w.cell? ⟨g, 0 + j, none⟩ = some (.string x))) :
  zaq Tryz.prog 22 [.ow 0, .r (.v (.string (sb sep)))] [b] (.r (.v (.string (sb (Lib.join l sep))))) [some b] := by
 intro w Z M k us hM hk hargs hpre hdist
 simp only [AV.reps, AV.rep, RV.rep] at hargs
 obtain ⟨_, _, rfl, rfl, _, _, rfl, rfl, rfl⟩ := hargs
 obtain ⟨hh, hm⟩ := hpre 0 b (by simp [numd])
 obtain ⟨A, c, e, hc⟩ := hb Z M w hh
 have fin : ∀ w', Below w.heap.size w w' → zi7 k (zaI k [b] (.r (.v (.string (sb (Lib.join l sep))))) [some b]) Z M w (.string (sb (Lib.join l sep))) w' := by
  intro w' hw
  refine ⟨Z, fun _ _ => rfl, by simp only [zaI, AV.unfr, AV.rep, RV.rep], fun i b' h => ?_, fun j b h => by simp [zaI, AV.unfr] at h, fun j j' x h => by simp [zaI, AV.unfr] at h, fun j x h => by simp [zaI, AV.unfr] at h, Go.Ab.Upto.of_below hw⟩
  simp [zaI, zbq] at h
  obtain ⟨rfl, rfl⟩ := h
  refine hh.keep (Go.Ab.Upto.of_below hw) (fun x _ hx => ?_) rfl (fun _ _ => rfl) fun x hx => hw.block x (hh.lt hx)
  rcases hx with hx | ⟨j, hj, _⟩
  ·exact hx
  ·simp [zaI, AV.unfr] at hj
 rw [e]
 rcases hc with rfl | ⟨g, rfl, hg, hlc, hcell⟩
 ·refine (Tryz.strings_Join_none A c (sb sep) w).mono ?_
  rintro e' w' ⟨rfl, rfl⟩
  exact ⟨_, rfl, fin _ (Below.refl _ _)⟩
 ·have h := Tryz.strings_Join g 0 c (l.map sb) (sb sep) w hcell hg (by rw [List.length_map]; omega) (by rw [List.length_map]; exact hlc)
  have e1 : (l.map sb).map (·.data.toList) = l := by rw [List.map_map]; exact (List.map_congr_left fun x _ => rfl).trans (List.map_id l)
  rw [e1, List.length_map] at h
  refine (h hlen).mono ?_
  rintro e' w' ⟨rfl, hw⟩
  exact ⟨_, rfl, fin _ hw⟩
theorem zlE {M : Nat → Prop} {w : World} {l : List (List UInt8)} {us : List Value} (h : RVs M w (strs l).flatten us) : us = l.map fun s => Value.string (sb s) := by
 rw [zkP] at h
 exact (RVs.of_raw h).1
theorem zhv (T : Nat) (l : List (List UInt8)) (sep : List UInt8) (hN : l.length ≤ 1000) (hlen : (Lib.join l sep).length ≤ 140737488355328) : zaq Tryz.prog 22 [.ow 0, .r (.v (.string (sb sep)))] [.row T 1 (strs l)] (.r (.v (.string (sb (Lib.join l sep))))) [some (.row T 1 (strs l))] := by
 refine zmz hN hlen rfl fun Z M w h => ?_
 by_cases hl : l = []
 ·obtain ⟨A, c, e⟩ := zgL h
  rw [zfb] at e
  exact ⟨A, c, e, .inl hl⟩
 ·obtain ⟨g, cap, cur, us, e1, hg, k1, k2, k3, k4, k5, k6, k7⟩ := zee h (by unfold strs; simpa using hl)
  rw [zfb] at e1 k1 k4 k5
  rw [Nat.mul_one] at k4 k5
  have hus := zlE k6
  refine ⟨_, cap, e1, .inr ⟨g, rfl, zbM hg, k1, fun j x hj => ?_⟩⟩
  rw [Nat.zero_add, cell_of_row w g j cur T (0, 0) hg]
  have h1 : us[j]? = some (.string x) := by
   rw [hus]
   rw [List.getElem?_map, Option.map_eq_some_iff] at hj ⊢
   obtain ⟨s, hs, rfl⟩ := hj
   exact ⟨s, hs, rfl⟩
  rw [← k4, List.getElem?_take] at h1
  split at h1
  ·simpa using h1
  ·cases h1
theorem znz {w : World} {g T : Nat} {cur : Array Value} {zs : List (List UInt8)} (hg : w.heap[g]? = some (.cells cur T (0, 0))) (ht : cur.toList.take zs.length = zs.map fun s => Value.string (sb s)) : Go.Sort.Holds Go.Proofs.encStr w g 0 zs.toArray := by
 intro j hj
 have hj' : j < zs.length := by simpa using hj
 have h1 : (cur.toList.take zs.length)[j]? = some (.string (sb zs[j])) := by
  rw [ht, List.getElem?_map, List.getElem?_eq_getElem hj']; rfl
 rw [List.getElem?_take_of_lt hj'] at h1
 have h2 : cur[j]? = some (.string (sb zs[j])) := by simpa using h1
 have h3 : zs.toArray[j]! = zs[j] := by rw [getElem!_pos _ j hj]; simp
 constructor
 ·rw [h3, cell_of_row w g _ cur T (0, 0) hg, Nat.zero_add]
  exact h2
 ·simp [World.frozen?, hg]
theorem zkC (T : Nat) (zs : List (List UInt8)) (hl : zs.length ≤ 1000) : zaq Tryz.prog 47 [.ow 0] [.row T 1 (strs zs)] (.tu []) [some (.row T 1 (strs zs.reverse))] := by
 rw [ziU, ziU]
 refine zjm (rest := []) ((List.reverse_perm zs).map _) (fun h w Z M us hr => ?_) (fun w Z M us g cap cur hr hg hnc hcm hcs ht => ?_)
 ·rw [AV.reps] at hr
  subst hr
  refine Calls.mono (Tryz.slices_Reverse_string_empty none 0 w) ?_
  rintro e w' ⟨rfl, rfl⟩
  exact ⟨rfl, Below.refl _ _⟩
 ·rw [AV.reps] at hr
  subst hr
  rw [zhE] at ht
  rw [List.length_map] at *
  rw [Nat.mul_one] at *
  refine Calls.mono (Tryz.slices_Reverse_string g 0 cap zs w (znz hg ht) (by omega)) ?_
  rintro e w' ⟨rfl, n, rfl⟩
  have hgr : ∀ W : World, Go.Sort.grow W #[] = W := fun W => by unfold Go.Sort.grow; simp
  obtain ⟨cur', q1, q2, q3, q4⟩ := zhi Go.Proofs.encStr (n := n) (D := zs.reverse.toArray) (os := #[]) hg (by simp; omega)
  rw [hgr] at q1 q4
  refine ⟨rfl, cur', q1, q2, ?_, q4⟩
  rw [zhE]
  have e2 : zs.reverse.toArray.size = zs.length := by simp
  rw [e2] at q3
  exact q3
end Go.Proofs.YtpnbgalbdohfgaaGreatDoor
