/- Texts of the second layer in one: Dv1 Dv2. -/
import Derived.Test.YtibedaeefnjjlaaGreatG42
import Derived.Test.YtibedaeefnjjlaaGreatG20
import Derived.Test.YtibedaeefnjjlaaGreatG43
import Derived.Test.YtibedaeefnjjlaaGreatG36
set_option maxRecDepth 100000
set_option linter.unusedVariables false
set_option linter.unusedSimpArgs false
namespace Go.Proofs.YtibedaeefnjjlaaGreat
open Go.RowKit Go.Ab Go.Wd
theorem u64_quo (a b : Nat) (ha : a < B64) : IntKind.u64.wrap (Int.tdiv (a : Int) (b : Int)) = ((a / b : Nat) : Int) := by
 have h : Int.tdiv (a : Int) (b : Int) = ((a / b : Nat) : Int) := by rw [Int.tdiv_eq_ediv_of_nonneg (by omega)]; simp
 have h2 : a / b ≤ a := Nat.div_le_self _ _
 rw [h]
 generalize a / b = q at *
 rw [IntKind.wrap_u64]; unfold B64 at ha; omega
theorem and_mask32 (v : Nat) (hv : v < B64) : bits .and .u64 (v : Int) 4294967295 = ((v % W32 : Nat) : Int) := by
 have h := u64_and_nat v 4294967295 (by unfold B64 at hv; omega) (by omega)
 rw [show (4294967295 : Nat) = 2 ^ 32 - 1 from rfl, Nat.and_two_pow_sub_one_eq_mod] at h
 exact h
theorem shr32 (v : Nat) : Int.fdiv (v : Int) (2 ^ (min (Int.toNat 32) IntKind.u64.bits)) = ((v / W32 : Nat) : Int) := shr_u64 v 32 (by omega)
def dvA (s Y a b u n1 n0 : Nat) (x : Nat × Nat) : St := ⟨[(2, .r (.v (.int .u64 (Y : Int)))), (8, .r (.v (.int .u64 (s : Int)))), (9, .r (.v (.int .u64 (a : Int)))), (10, .r (.v (.int .u64 (b : Int)))), (11, .r (.v (.int .u64 (u : Int)))), (13, .r (.v (.int .u64 (n1 : Int)))), (14, .r (.v (.int .u64 (n0 : Int)))), (15, .r (.v (.int .u64 (x.1 : Int)))), (16, .r (.v (.int .u64 (x.2 : Int))))], [], 0⟩
def dvB (s Y a b u n1 n0 Q v : Nat) (x : Nat × Nat) : St := ⟨[(2, .r (.v (.int .u64 (Y : Int)))), (8, .r (.v (.int .u64 (s : Int)))), (9, .r (.v (.int .u64 (a : Int)))), (10, .r (.v (.int .u64 (b : Int)))), (14, .r (.v (.int .u64 (n0 : Int)))), (15, .r (.v (.int .u64 (Q : Int)))), (17, .r (.v (.int .u64 (v : Int)))), (18, .r (.v (.int .u64 (x.1 : Int)))), (16, .r (.v (.int .u64 (x.2 : Int))))], [], 0⟩
theorem kn_rnd {a b u n q rh : Nat} (h : KP a b u n) (hi : KI a b u n q rh) (hq : q < B64) :
  IntKind.u64.wrap (4294967296 * (rh : Int)) = ((W32 * rh : Nat) : Int) ∧ IntKind.u64.wrap (((W32 * rh : Nat) : Int) + (n : Int)) = ((W32 * rh + n : Nat) : Int) ∧ (q < W32 → IntKind.u64.wrap ((q : Int) * (b : Int)) = ((q * b : Nat) : Int)) ∧ IntKind.u64.wrap ((rh : Int) + (a : Int)) = ((rh + a : Nat) : Int) := by
 have h1 := hi.2.2
 have h2 := h.hn
 have h3 := h.a2
 have h4 := h.hb
 have hW := W32_v
 have hWr : W32 * rh = 4294967296 * rh := rfl
 rw [hWr]
 refine ⟨by rw [IntKind.wrap_u64]; omega, by rw [IntKind.wrap_u64]; omega, fun hqw => ?_, by rw [IntKind.wrap_u64]; omega⟩
 have e : q * b < W32 * W32 := Nat.mul_lt_mul'' hqw h4
 have e2 : W32 * W32 = 18446744073709551616 := rfl
 rw [← Int.natCast_mul]
 generalize q * b = z at *
 rw [IntKind.wrap_u64]; omega
theorem B64_lit : B64 = 18446744073709551616 := rfl
theorem B64_W32 : B64 = W32 * W32 := rfl
theorem kn_prep2 (Y v u : Nat) (hY : Y < B64) (hY2 : B64 ≤ 2 * Y) (hv : v < B64) (hu : u < Y) : ∃ a b n1 n0 u2 Q1 Q0 r : Nat,
  Int.fdiv (Y : Int) (2 ^ (min (Int.toNat 32) IntKind.u64.bits)) = (a : Int) ∧ bits .and .u64 (Y : Int) 4294967295 = (b : Int) ∧
  Int.fdiv (v : Int) (2 ^ (min (Int.toNat 32) IntKind.u64.bits)) = (n1 : Int) ∧ bits .and .u64 (v : Int) 4294967295 = (n0 : Int) ∧
  KP a b u n1 ∧ KP a b u2 n0 ∧ a * W32 + b = Y ∧ Q1 = (u * W32 + n1) / (a * W32 + b) ∧ Q0 = (u2 * W32 + n0) / (a * W32 + b) ∧
  IntKind.u64.wrap (IntKind.u64.wrap (IntKind.u64.wrap ((u : Int) * 4294967296) + (n1 : Int)) - IntKind.u64.wrap ((Q1 : Int) * (Y : Int))) = (u2 : Int) ∧
  IntKind.u64.wrap (IntKind.u64.wrap (IntKind.u64.wrap ((u2 : Int) * 4294967296) + (n0 : Int)) - IntKind.u64.wrap ((Q0 : Int) * (Y : Int))) = (r : Int) ∧
  IntKind.u64.wrap (IntKind.u64.wrap ((Q1 : Int) * 4294967296) + (Q0 : Int)) = (((u * B64 + v) / Y : Nat) : Int) ∧ r = (u * B64 + v) % Y := by
 have hW := W32_v
 have hB := B64_lit
 have hn1 : v / W32 < W32 := by unfold W32; omega
 have hn0 : v % W32 < W32 := by unfold W32; omega
 have hab : Y / W32 * W32 + Y % W32 = Y := by unfold W32; omega
 have hP : KP (Y / W32) (Y % W32) u (v / W32) := ⟨by unfold W32; omega, by unfold W32; omega, by unfold W32; omega, hn1, by omega⟩
 have hvv : (u * W32 + v / W32) * W32 + v % W32 = u * B64 + v := by
  rw [B64_W32, Nat.add_mul, ← Nat.mul_assoc, Nat.add_assoc, show v / W32 * W32 + v % W32 = v by unfold W32; omega]
 obtain ⟨j1, j2⟩ := kd_join (u := u) (n1 := v / W32) (n0 := v % W32) (y := Y) (by omega)
 rw [hvv] at j1 j2
 have hu2 : (u * W32 + v / W32) % Y < Y := Nat.mod_lt _ (by omega)
 have hP2 : KP (Y / W32) (Y % W32) ((u * W32 + v / W32) % Y) (v % W32) := ⟨hP.a1, hP.a2, hP.hb, hn0, by omega⟩
 have r1 := kn_rest u (v / W32) ((u * W32 + v / W32) / Y) Y hY (by omega) rfl
 have hu3 : ((u * W32 + v / W32) % Y * W32 + v % W32) % Y < Y := Nat.mod_lt _ (by omega)
 have r2 := kn_rest ((u * W32 + v / W32) % Y) (v % W32) (((u * W32 + v / W32) % Y * W32 + v % W32) / Y) Y hY (by omega) rfl
 have q1 := hP.q
 have q0 := hP2.q
 rw [hab] at q1 q0
 refine ⟨Y / W32, Y % W32, v / W32, v % W32, (u * W32 + v / W32) % Y, (u * W32 + v / W32) / Y, ((u * W32 + v / W32) % Y * W32 + v % W32) / Y, ((u * W32 + v / W32) % Y * W32 + v % W32) % Y, shr32 Y, and_mask32 Y hY, shr32 v, and_mask32 v hv, hP, hP2, hab, by rw [hab], by rw [hab], r1, r2, ?_, j2.symm⟩
 rw [j1]
 generalize (u * W32 + v / W32) / Y = X1 at *
 generalize ((u * W32 + v / W32) % Y * W32 + v % W32) / Y = X0 at *
 have e1 : IntKind.u64.wrap ((X1 : Int) * 4294967296) = ((X1 * W32 : Nat) : Int) := by rw [IntKind.wrap_u64]; unfold W32 at q1 ⊢; omega
 rw [e1, IntKind.wrap_u64]
 unfold W32 at q1 q0 ⊢
 omega
theorem kn_prep (hi lo y : Nat) (hh : hi < y) (hlo : lo < B64) (s : Nat) (hs : s < 64) (hY : y * 2 ^ s < B64) (hY2 : B64 ≤ 2 * (y * 2 ^ s)) : ∃ Y A C u v s2 a b n1 n0 u2 Q1 Q0 r : Nat,
  IntKind.u64.wrap (s : Int) = (s : Int) ∧ IntKind.u64.wrap (64 - (s : Int)) = (s2 : Int) ∧
  IntKind.u64.wrap ((y : Int) * 2 ^ (min (Int.toNat (s : Int)) IntKind.u64.bits)) = (Y : Int) ∧
  IntKind.u64.wrap ((hi : Int) * 2 ^ (min (Int.toNat (s : Int)) IntKind.u64.bits)) = (A : Int) ∧
  Int.fdiv (lo : Int) (2 ^ (min (Int.toNat (s2 : Int)) IntKind.u64.bits)) = (C : Int) ∧
  bits .or .u64 (A : Int) (C : Int) = (u : Int) ∧
  IntKind.u64.wrap ((lo : Int) * 2 ^ (min (Int.toNat (s : Int)) IntKind.u64.bits)) = (v : Int) ∧
  Int.fdiv (Y : Int) (2 ^ (min (Int.toNat 32) IntKind.u64.bits)) = (a : Int) ∧ bits .and .u64 (Y : Int) 4294967295 = (b : Int) ∧
  Int.fdiv (v : Int) (2 ^ (min (Int.toNat 32) IntKind.u64.bits)) = (n1 : Int) ∧ bits .and .u64 (v : Int) 4294967295 = (n0 : Int) ∧
  KP a b u n1 ∧ KP a b u2 n0 ∧ u < B64 ∧ u2 < B64 ∧ Q1 = (u * W32 + n1) / (a * W32 + b) ∧ Q0 = (u2 * W32 + n0) / (a * W32 + b) ∧
  IntKind.u64.wrap (IntKind.u64.wrap (IntKind.u64.wrap ((u : Int) * 4294967296) + (n1 : Int)) - IntKind.u64.wrap ((Q1 : Int) * (Y : Int))) = (u2 : Int) ∧
  IntKind.u64.wrap (IntKind.u64.wrap (IntKind.u64.wrap ((u2 : Int) * 4294967296) + (n0 : Int)) - IntKind.u64.wrap ((Q0 : Int) * (Y : Int))) = (r : Int) ∧
  IntKind.u64.wrap (IntKind.u64.wrap ((Q1 : Int) * 4294967296) + (Q0 : Int)) = (((hi * B64 + lo) / y : Nat) : Int) ∧
  Int.fdiv (r : Int) (2 ^ (min (Int.toNat (s : Int)) IntKind.u64.bits)) = (((hi * B64 + lo) % y : Nat) : Int) := by
 obtain ⟨w1, w2, w3, w4⟩ := kn_words hi lo y s hlo hh hs hY
 obtain ⟨k1, k2⟩ := kn_shift (hi * B64 + lo) y s (by omega)
 rw [← w4] at k1 k2
 have g1 := shl_u64 y s hs
 rw [Nat.mod_eq_of_lt hY] at g1
 have g2 := shl_u64 hi s hs
 rw [Nat.mod_eq_of_lt w1] at g2
 have g3 := shr_u64 lo (64 - s) (by omega)
 have g4 := or_u64 (hi * 2 ^ s) (lo / 2 ^ (64 - s)) s (Nat.mul_mod_left _ _) w2 (Nat.lt_trans w3 hY)
 have g5 := shl_u64 lo s hs
 have g6 : IntKind.u64.wrap (64 - (s : Int)) = ((64 - s : Nat) : Int) := by rw [IntKind.wrap_u64]; omega
 have g7 : IntKind.u64.wrap (s : Int) = (s : Int) := by rw [IntKind.wrap_u64]; omega
 obtain ⟨a, b, n1, n0, u2, Q1, Q0, r, t1, t2, t3, t4, t5, t6, t7, t8, t9, t10, t11, t12, t13⟩ := kn_prep2 (y * 2 ^ s) (lo * 2 ^ s % B64) (hi * 2 ^ s + lo / 2 ^ (64 - s)) hY hY2 (Nat.mod_lt _ (by decide)) w3
 rw [k1] at t12
 have g8 := shr_u64 r s (Nat.le_of_lt hs)
 rw [t13, k2, ← t13] at g8
 have hu2 := t6.hu
 rw [t7] at hu2
 exact ⟨_, _, _, _, _, _, a, b, n1, n0, u2, Q1, Q0, r, g7, g6, g1, g2, g3, g4, g5, t1, t2, t3, t4, t5, t6, Nat.lt_trans w3 hY, Nat.lt_trans hu2 hY, t8, t9, t10, t11, t12, g8⟩
set_option maxHeartbeats 8000000 in
theorem div64_w (hi lo y : Nat) (hh : hi < y) (hlo : lo < B64) (hy : y < B64) (h0 : hi ≠ 0) (s : Nat) (hs : s < 64) (hY : y * 2 ^ s < B64) (hY2 : B64 ≤ 2 * (y * 2 ^ s))
  (cL : Meets Tryz.prog 149 [.r (.v (.int .u64 (y : Int)))] [] (.r (.v (.int .i64 (s : Int)))) []) :
  Meets Tryz.prog 118 [.r (.v (.int .u64 (hi : Int))), .r (.v (.int .u64 (lo : Int))), .r (.v (.int .u64 (y : Int)))] [] (.tu [.r (.v (.int .u64 (((hi * B64 + lo) / y : Nat) : Int))), .r (.v (.int .u64 (((hi * B64 + lo) % y : Nat) : Int)))]) [] := by
 obtain ⟨Y, A, C, u, v, s2, a, b, n1, n0, u2, Q1, Q0, r, g7, g6, g1, g2, g3, g4, g5, e1, e2, e3, e4, hP, hP2, hu, hu2, hQ1, hQ0, r1, r2, r3, g8⟩ := kn_prep hi lo y hh hlo s hs hY hY2
 generalize (hi * B64 + lo) / y = Qf at *
 generalize (hi * B64 + lo) % y = Rf at *
 have hI1 := kn_init hP
 have hI2 := kn_init hP2
 clear hY hY2
 have d1 := u64_quo u a hu
 have d2 := u64_quo u2 a hu2
 have ha0 : (a : Int) ≠ 0 := by
  have := hP.a1
  unfold W32 at this; omega
 have m1 : IntKind.u64.wrap (((u / a : Nat) : Int) * (a : Int)) = ((u / a * a : Nat) : Int) := by
  have := Nat.div_mul_le_self u a
  rw [← Int.natCast_mul]
  generalize u / a * a = z at *
  unfold B64 at hu
  rw [IntKind.wrap_u64]; omega
 have m2 : IntKind.u64.wrap (((u2 / a : Nat) : Int) * (a : Int)) = ((u2 / a * a : Nat) : Int) := by
  have := Nat.div_mul_le_self u2 a
  rw [← Int.natCast_mul]
  generalize u2 / a * a = z at *
  unfold B64 at hu2
  rw [IntKind.wrap_u64]; omega
 have t1 : IntKind.u64.wrap ((u : Int) - ((u / a * a : Nat) : Int)) = ((u % a : Nat) : Int) := by
  have h1 := Nat.mod_add_div u a
  rw [Nat.mul_comm] at h1
  generalize u / a * a = z at *
  generalize u % a = x at *
  unfold B64 at hu
  rw [IntKind.wrap_u64]; omega
 have t2 : IntKind.u64.wrap ((u2 : Int) - ((u2 / a * a : Nat) : Int)) = ((u2 % a : Nat) : Int) := by
  have h1 := Nat.mod_add_div u2 a
  rw [Nat.mul_comm] at h1
  generalize u2 / a * a = z at *
  generalize u2 % a = x at *
  unfold B64 at hu2
  rw [IntKind.wrap_u64]; omega
 refine fn_of Tryz.func118 rfl (Nat.le_of_ble_eq_true rfl) rfl rfl ?_
 (repeat' (first | refine r_4eabd4 ?_ | (refine is_f 149 ?_; refine r_bb2b31 (cL) ?_) | (refine r_0efca5 (fun hb => ?_) (fun hb => ?_) <;> (try (exfalso; omega))) | fail))
 all_goals (first | (exfalso; omega) | skip)
 refine awp_loopE (dvA s Y a b u n1 n0) (fun x => x.1 = Q1) ?_ ?_
 ·skip
  refine awp_loop' (fun x : Nat × Nat => dvA s Y a b u n1 n0 x) (fun x => KI a b u n1 x.1 x.2 ∧ x.1 ≤ u / a) (fun x => x.1) (u / a, u % a) ⟨hI1, Nat.le_refl _⟩ (by (refine Le.mk [] [] q_5ec36 q_43730 q_16bb5 q_509a2)) fun x hx => ?_
  obtain ⟨q, rh⟩ := x
  obtain ⟨hi, hqa⟩ := hx
  dsimp only at hi hqa
  have hq9 : q < B64 := Nat.lt_of_le_of_lt (Nat.le_trans hqa (Nat.div_le_self _ _)) hu
  obtain ⟨c1, c2, c3, c4⟩ := kn_rnd hP hi hq9
  change awp _ _ _ _ _ (dvA s Y a b u n1 n0 (q, rh))
  unfold dvA
  dsimp only
  rcases Nat.lt_or_ge q W32 with hqw | hqw
  ·have c5 := c3 hqw
   have hx1 : ¬ (4294967296 : Int) ≤ (q : Int) := by unfold W32 at hqw; omega
   by_cases hc : W32 * rh + n1 < q * b
   ·obtain ⟨z1, z2, z3⟩ := kn_go hP hi (.inr hc)
    have hd : IntKind.u64.wrap ((q : Int) - 1) = ((q - 1 : Nat) : Int) := by rw [IntKind.wrap_u64]; unfold B64 at hq9; omega
    by_cases hbk : W32 ≤ rh + a
    ·have hs9 : q - 1 = Q1 := by rw [hQ1]; exact kn_brk hP z2 z3 hbk
     have hx9 : (4294967296 : Int) ≤ ((rh + a : Nat) : Int) := by unfold W32 at hbk; omega
     clear z1 z2 z3
     (repeat' (first | refine r_4eabd4 ?_ | (refine r_0efca5 (fun hb => ?_) (fun hb => ?_) <;> (try (exfalso; omega))) | fail))
     all_goals (first | (exfalso; omega) | exact ⟨(q - 1, rh + a), hs9, by show Le _ _ (dvA s Y a b u n1 n0 (q - 1, rh + a)); unfold dvA; (refine Le.mk [] [] q_5ec36 q_43730 q_16bb5 q_509a2)⟩)
    ·have hx9 : ¬ (4294967296 : Int) ≤ ((rh + a : Nat) : Int) := by unfold W32 at hbk; omega
     (repeat' (first | refine r_4eabd4 ?_ | (refine r_0efca5 (fun hb => ?_) (fun hb => ?_) <;> (try (exfalso; omega))) | fail))
     all_goals (first | (exfalso; omega) | exact ⟨(q - 1, rh + a), ⟨⟨z2, z3, by show rh + a < W32; omega⟩, by show q - 1 ≤ u / a; omega⟩, by show Le _ _ (dvA s Y a b u n1 n0 (q - 1, rh + a)); unfold dvA; (refine Le.mk [] [] q_5ec36 q_43730 q_16bb5 q_509a2), by show q - 1 < q; omega⟩)
   ·have hs9 : q = Q1 := by rw [hQ1]; exact kn_stop hP hi (by omega)
    (repeat' (first | refine r_4eabd4 ?_ | (refine r_0efca5 (fun hb => ?_) (fun hb => ?_) <;> (try (exfalso; omega))) | fail))
    all_goals (first | (exfalso; omega) | exact ⟨(q, rh), hs9, by show Le _ _ (dvA s Y a b u n1 n0 (q, rh)); unfold dvA; (refine Le.mk [] [] q_5ec36 q_43730 q_16bb5 q_509a2)⟩)
  ·have hx1 : (4294967296 : Int) ≤ (q : Int) := by unfold W32 at hqw; omega
   obtain ⟨z1, z2, z3⟩ := kn_go hP hi (.inl hqw)
   have hd : IntKind.u64.wrap ((q : Int) - 1) = ((q - 1 : Nat) : Int) := by rw [IntKind.wrap_u64]; unfold B64 at hq9; omega
   by_cases hbk : W32 ≤ rh + a
   ·have hs9 : q - 1 = Q1 := by rw [hQ1]; exact kn_brk hP z2 z3 hbk
    have hx9 : (4294967296 : Int) ≤ ((rh + a : Nat) : Int) := by unfold W32 at hbk; omega
    clear z1 z2 z3
    (repeat' (first | refine r_4eabd4 ?_ | (refine r_0efca5 (fun hb => ?_) (fun hb => ?_) <;> (try (exfalso; omega))) | fail))
    all_goals (first | (exfalso; omega) | exact ⟨(q - 1, rh + a), hs9, by show Le _ _ (dvA s Y a b u n1 n0 (q - 1, rh + a)); unfold dvA; (refine Le.mk [] [] q_5ec36 q_43730 q_16bb5 q_509a2)⟩)
   ·have hx9 : ¬ (4294967296 : Int) ≤ ((rh + a : Nat) : Int) := by unfold W32 at hbk; omega
    (repeat' (first | refine r_4eabd4 ?_ | (refine r_0efca5 (fun hb => ?_) (fun hb => ?_) <;> (try (exfalso; omega))) | fail))
    all_goals (first | (exfalso; omega) | exact ⟨(q - 1, rh + a), ⟨⟨z2, z3, by show rh + a < W32; omega⟩, by show q - 1 ≤ u / a; omega⟩, by show Le _ _ (dvA s Y a b u n1 n0 (q - 1, rh + a)); unfold dvA; (refine Le.mk [] [] q_5ec36 q_43730 q_16bb5 q_509a2), by show q - 1 < q; omega⟩)
 ·rintro ⟨q, rh⟩ hq9
  dsimp only at hq9
  subst q
  change awp _ _ _ _ _ (dvA s Y a b u n1 n0 (Q1, rh))
  unfold dvA
  dsimp only
  (repeat' (first | refine r_4eabd4 ?_ | (refine r_0efca5 (fun hb => ?_) (fun hb => ?_) <;> (try (exfalso; omega))) | fail))
  refine awp_loopE (dvB s Y a b u n1 n0 Q1 u2) (fun x => x.1 = Q0) ?_ ?_
  ·skip
   refine awp_loop' (fun x : Nat × Nat => dvB s Y a b u n1 n0 Q1 u2 x) (fun x => KI a b u2 n0 x.1 x.2 ∧ x.1 ≤ u2 / a) (fun x => x.1) (u2 / a, u2 % a) ⟨hI2, Nat.le_refl _⟩ (by (refine Le.mk [] [] q_5ec36 q_43730 q_16bb5 q_509a2)) fun x hx => ?_
   obtain ⟨q, rh⟩ := x
   obtain ⟨hi, hqa⟩ := hx
   dsimp only at hi hqa
   have hq9 : q < B64 := Nat.lt_of_le_of_lt (Nat.le_trans hqa (Nat.div_le_self _ _)) hu2
   obtain ⟨c1, c2, c3, c4⟩ := kn_rnd hP2 hi hq9
   change awp _ _ _ _ _ (dvB s Y a b u n1 n0 Q1 u2 (q, rh))
   unfold dvB
   dsimp only
   rcases Nat.lt_or_ge q W32 with hqw | hqw
   ·have c5 := c3 hqw
    have hx1 : ¬ (4294967296 : Int) ≤ (q : Int) := by unfold W32 at hqw; omega
    by_cases hc : W32 * rh + n0 < q * b
    ·obtain ⟨z1, z2, z3⟩ := kn_go hP2 hi (.inr hc)
     have hd : IntKind.u64.wrap ((q : Int) - 1) = ((q - 1 : Nat) : Int) := by rw [IntKind.wrap_u64]; unfold B64 at hq9; omega
     by_cases hbk : W32 ≤ rh + a
     ·have hs9 : q - 1 = Q0 := by rw [hQ0]; exact kn_brk hP2 z2 z3 hbk
      have hx9 : (4294967296 : Int) ≤ ((rh + a : Nat) : Int) := by unfold W32 at hbk; omega
      clear z1 z2 z3
      (repeat' (first | refine r_4eabd4 ?_ | (refine r_0efca5 (fun hb => ?_) (fun hb => ?_) <;> (try (exfalso; omega))) | fail))
      all_goals (first | (exfalso; omega) | exact ⟨(q - 1, rh + a), hs9, by show Le _ _ (dvB s Y a b u n1 n0 Q1 u2 (q - 1, rh + a)); unfold dvB; (refine Le.mk [] [] q_5ec36 q_43730 q_16bb5 q_509a2)⟩)
     ·have hx9 : ¬ (4294967296 : Int) ≤ ((rh + a : Nat) : Int) := by unfold W32 at hbk; omega
      (repeat' (first | refine r_4eabd4 ?_ | (refine r_0efca5 (fun hb => ?_) (fun hb => ?_) <;> (try (exfalso; omega))) | fail))
      all_goals (first | (exfalso; omega) | exact ⟨(q - 1, rh + a), ⟨⟨z2, z3, by show rh + a < W32; omega⟩, by show q - 1 ≤ u2 / a; omega⟩, by show Le _ _ (dvB s Y a b u n1 n0 Q1 u2 (q - 1, rh + a)); unfold dvB; (refine Le.mk [] [] q_5ec36 q_43730 q_16bb5 q_509a2), by show q - 1 < q; omega⟩)
    ·have hs9 : q = Q0 := by rw [hQ0]; exact kn_stop hP2 hi (by omega)
     (repeat' (first | refine r_4eabd4 ?_ | (refine r_0efca5 (fun hb => ?_) (fun hb => ?_) <;> (try (exfalso; omega))) | fail))
     all_goals (first | (exfalso; omega) | exact ⟨(q, rh), hs9, by show Le _ _ (dvB s Y a b u n1 n0 Q1 u2 (q, rh)); unfold dvB; (refine Le.mk [] [] q_5ec36 q_43730 q_16bb5 q_509a2)⟩)
   ·have hx1 : (4294967296 : Int) ≤ (q : Int) := by unfold W32 at hqw; omega
    obtain ⟨z1, z2, z3⟩ := kn_go hP2 hi (.inl hqw)
    have hd : IntKind.u64.wrap ((q : Int) - 1) = ((q - 1 : Nat) : Int) := by rw [IntKind.wrap_u64]; unfold B64 at hq9; omega
    by_cases hbk : W32 ≤ rh + a
    ·have hs9 : q - 1 = Q0 := by rw [hQ0]; exact kn_brk hP2 z2 z3 hbk
     have hx9 : (4294967296 : Int) ≤ ((rh + a : Nat) : Int) := by unfold W32 at hbk; omega
     clear z1 z2 z3
     (repeat' (first | refine r_4eabd4 ?_ | (refine r_0efca5 (fun hb => ?_) (fun hb => ?_) <;> (try (exfalso; omega))) | fail))
     all_goals (first | (exfalso; omega) | exact ⟨(q - 1, rh + a), hs9, by show Le _ _ (dvB s Y a b u n1 n0 Q1 u2 (q - 1, rh + a)); unfold dvB; (refine Le.mk [] [] q_5ec36 q_43730 q_16bb5 q_509a2)⟩)
    ·have hx9 : ¬ (4294967296 : Int) ≤ ((rh + a : Nat) : Int) := by unfold W32 at hbk; omega
     (repeat' (first | refine r_4eabd4 ?_ | (refine r_0efca5 (fun hb => ?_) (fun hb => ?_) <;> (try (exfalso; omega))) | fail))
     all_goals (first | (exfalso; omega) | exact ⟨(q - 1, rh + a), ⟨⟨z2, z3, by show rh + a < W32; omega⟩, by show q - 1 ≤ u2 / a; omega⟩, by show Le _ _ (dvB s Y a b u n1 n0 Q1 u2 (q - 1, rh + a)); unfold dvB; (refine Le.mk [] [] q_5ec36 q_43730 q_16bb5 q_509a2), by show q - 1 < q; omega⟩)
  ·rintro ⟨q, rh⟩ hq9
   dsimp only at hq9
   subst q
   change awp _ _ _ _ _ (dvB s Y a b u n1 n0 Q1 u2 (Q0, rh))
   unfold dvB
   dsimp only
   clear hI1 hI2 d1 d2 m1 m2 t1 t2
   (repeat' (first | refine r_4eabd4 ?_ | (refine r_0efca5 (fun hb => ?_) (fun hb => ?_) <;> (try (exfalso; omega))) | fail))
   all_goals (first | (exfalso; omega) | exact ret2 [] (.int rfl) (.int rfl) rfl rfl rfl rfl)
end Go.Proofs.YtibedaeefnjjlaaGreat
namespace Go.Proofs.YtibedaeefnjjlaaGreat
open Go.RowKit Go.Ab Go.Wd
theorem lz_shift (y : Nat) (hy : y < B64) (h0 : y ≠ 0) : 64 - bl y < 64 ∧ y * 2 ^ (64 - bl y) < B64 ∧ B64 ≤ 2 * (y * 2 ^ (64 - bl y)) ∧ bl y ≤ 64 := by
 have h1 := bl_pos h0
 have h2 : bl y ≤ 64 := bl_le_of_lt (by rw [← B64_two]; exact hy)
 have h3 := bl_lt y
 have h4 := bl_le y h0
 generalize bl y = k at *
 have hp : 0 < 2 ^ (64 - k) := Nat.pow_pos (by decide)
 refine ⟨by omega, ?_, ?_, h2⟩
 ·have : y * 2 ^ (64 - k) < 2 ^ k * 2 ^ (64 - k) := Nat.mul_lt_mul_of_pos_right h3 hp
  rw [← Nat.pow_add, show k + (64 - k) = 64 by omega, ← B64_two] at this
  exact this
 ·have : 2 ^ (k - 1) * 2 ^ (64 - k) ≤ y * 2 ^ (64 - k) := Nat.mul_le_mul h4 (Nat.le_refl _)
  rw [← Nat.pow_add, show k - 1 + (64 - k) = 63 by omega] at this
  have e : B64 = 2 * 2 ^ 63 := by decide
  rw [e]
  exact Nat.mul_le_mul (Nat.le_refl _) this
theorem lz64_m (y : Nat) (hy : y < B64) (h0 : y ≠ 0) : Meets Tryz.prog 149 [.r (.v (.int .u64 (y : Int)))] [] (.r (.v (.int .i64 ((64 - bl y : Nat) : Int)))) [] := by
 have hb := (lz_shift y hy h0).2.2.2
 have e : ((64 - bl y : Nat) : Int) = 64 - (Lib.bitLen y : Int) := by rw [bl_lib y hy]; omega
 rw [e]
 refine meets_pureU fun w => ?_
 have := Tryz.bits_LeadingZeros64 (y : Int) w (by omega) (by unfold B64 at hy; omega)
 rwa [Int.toNat_natCast] at this
theorem div64_m (hi lo y : Nat) (hh : hi < y) (hlo : lo < B64) (hy : y < B64) :
  Meets Tryz.prog 118 [.r (.v (.int .u64 (hi : Int))), .r (.v (.int .u64 (lo : Int))), .r (.v (.int .u64 (y : Int)))] [] (.tu [.r (.v (.int .u64 (((hi * B64 + lo) / y : Nat) : Int))), .r (.v (.int .u64 (((hi * B64 + lo) % y : Nat) : Int)))]) [] := by
 by_cases h0 : hi = 0
 ·subst h0
  rw [Nat.zero_mul, Nat.zero_add]
  exact div64z_m lo y hlo hy (by omega)
 ·obtain ⟨a, b, c, _⟩ := lz_shift y hy (by omega)
  exact div64_w hi lo y hh hlo hy h0 _ a b c (lz64_m y hy (by omega))
def dqL (V y t N : Nat) : List Nat := List.replicate t 0 ++ ws (V / y) (N - t)
theorem dq_step (xs : List Nat) (hw : Wds xs) (y t : Nat) (hy : 0 < y) (hyB : y < B64) (ht : t < xs.length) :
  (val (xs.drop (t + 1)) % y * B64 + xs.getD t 0) / y < B64 ∧
  (val (xs.drop (t + 1)) % y * B64 + xs.getD t 0) % y = val (xs.drop t) % y ∧
  (dqL (val (xs.drop (t + 1))) y (t + 1) xs.length).set t ((val (xs.drop (t + 1)) % y * B64 + xs.getD t 0) / y) = dqL (val (xs.drop t)) y t xs.length := by
 have hv := val_drop xs t ht
 have hx := hw.get t
 have hr : val (xs.drop (t + 1)) % y < y := Nat.mod_lt _ hy
 have hd := Nat.mod_add_div (val (xs.drop (t + 1))) y
 unfold dqL
 rw [hv]
 generalize val (xs.drop (t + 1)) = V at *
 generalize xs.getD t 0 = x at *
 have e : x + B64 * V = (V % y * B64 + x) + y * (V / y * B64) := by
  conv => lhs; rw [← hd]
  rw [Nat.mul_add, Nat.mul_comm B64 (V % y), Nat.mul_comm B64 (y * _), Nat.mul_assoc]
  omega
 have hdg : (V % y * B64 + x) / y < B64 := by
  rw [Nat.div_lt_iff_lt_mul hy]
  have : (V % y + 1) * B64 ≤ y * B64 := Nat.mul_le_mul hr (Nat.le_refl _)
  rw [Nat.add_mul, Nat.one_mul] at this
  rw [Nat.mul_comm B64 y]
  omega
 refine ⟨hdg, by rw [e, Nat.add_mul_mod_self_left], ?_⟩
 have e2 : (x + B64 * V) / y = (V % y * B64 + x) / y + B64 * (V / y) := by
  rw [e, Nat.add_mul_div_left _ _ hy, Nat.mul_comm B64 (V / y)]
 rw [e2, show xs.length - t = (xs.length - (t + 1)) + 1 by omega, ws]
 generalize (V % y * B64 + x) / y = d at *
 rw [Nat.add_mul_mod_self_left, Nat.mod_eq_of_lt hdg, Nat.add_mul_div_left _ _ (by decide), Nat.div_eq_of_lt hdg, Nat.zero_add]
 rw [List.replicate_succ', List.append_assoc]
 rw [List.set_append]
 simp
def rd2S (xs ys ql : List Nat) (rr : Nat) (z : Int) : St := ⟨[(0, .r (.sl 1 (wns xs))), (1, .r (.sl 1 (wns ys))), (6, .ow 0), (7, .r (.v (.int .u64 (rr : Int)))), (8, .r (.v (.int .i64 z)))], [(0, some (.row 33 1 (wns ql)))], 1⟩
set_option maxHeartbeats 2000000 in
theorem refDivmod1_m (m y : Nat) (hm : m < B64 ^ 4) (hy : y < B64) (hy0 : y ≠ 0) : Meets Tryz.prog 85 [.r (.sl 1 (wns (tw m))), .r (.sl 1 (wns (tw y)))] [] (.tu [.r (.sl 1 (wns (tw (m / y)))), .r (.sl 1 (wns (tw (m % y))))]) [] := by
 have hw := tw_wds m
 have hvm := val_tw m
 have hlen := tw_len 4 m hm
 have hmod : m % y < B64 := Nat.lt_trans (Nat.mod_lt _ (by omega)) hy
 have hfin : trim (dqL (val ((tw m).drop 0)) y 0 (tw m).length) = tw (m / y) := by
  have h1 := val_lt _ hw
  rw [hvm] at h1
  have h2 : m / y < B64 ^ (tw m).length := Nat.lt_of_le_of_lt (Nat.div_le_self _ _) h1
  unfold dqL
  rw [List.drop_zero, hvm, List.replicate_zero, List.nil_append, Nat.sub_zero, trim_tw _ (ws_wds _ _), val_ws _ _ h2]
 have hfin2 : val ((tw m).drop 0) % y = m % y := by rw [List.drop_zero, hvm]
 have hst := fun t ht => dq_step (tw m) hw y t (by omega) hy ht
 rw [tw_one hy0 hy]
 generalize tw m = xs at *
 refine Meets.freezeFF (T := 33) (T' := 33) ?_
 have hz : dqL (val (xs.drop xs.length)) y xs.length xs.length = List.replicate xs.length 0 := by
  unfold dqL
  rw [Nat.sub_self]
  show _ ++ [] = _
  rw [List.append_nil]
 have hz2 : val (xs.drop xs.length) % y = 0 := by rw [List.drop_length]; exact Nat.zero_mod _
 have l1 := wns_len xs
 have l2 : (wns [y]).length = 1 := rfl
 have hrep : List.replicate (wns xs).length (List.map RV.v [Value.int IntKind.u64 0]) = wns (dqL (val (xs.drop xs.length)) y xs.length xs.length) := by
  rw [hz, l1]; unfold wns; rw [List.map_replicate]; rfl
 have hql : ∀ t, t ≤ xs.length → (dqL (val (xs.drop t)) y t xs.length).length = xs.length := fun t ht => by unfold dqL; rw [List.length_append, List.length_replicate, ws_len]; omega
 have hd0 : IntKind.i64.wrap (((wns xs).length : Int) - 1) = (xs.length : Int) - 1 := by rw [l1, IntKind.wrap_i64]; omega
 refine fn_of Tryz.func85 rfl (Nat.le_of_ble_eq_true rfl) rfl rfl ?_
 (repeat' (first | refine r_4eabd4 ?_ | (refine r_0efca5 (fun hb => ?_) (fun hb => ?_) <;> (try (exfalso; omega))) | fail))
 all_goals (first | (exfalso; omega) | skip)
 refine awp_loop' (fun t => rd2S xs [y] (dqL (val (xs.drop t)) y t xs.length) (val (xs.drop t) % y) ((t : Int) - 1)) (fun t => t ≤ xs.length) (fun t => t) xs.length (Nat.le_refl _) (by rw [hz2]; (refine Le.mk [(0,0)] [] q_5ec36 q_43730 q_16bb5 q_509a2)) fun t ht => ?_
 rcases t with _ | t
 ·have cA := trim_o (dqL (val (xs.drop 0)) y 0 xs.length) (by rw [hql 0 (by omega)]; omega)
  have cB := trim_o [val (xs.drop 0) % y] (by simp)
  rw [hfin] at cA
  rw [hfin2, trim_one _ hmod] at cB
  rw [hfin2]
  change awp _ _ _ _ _ (rd2S xs [y] (dqL (val (xs.drop 0)) y 0 xs.length) (m % y) (-1))
  (repeat' (first | refine r_4eabd4 ?_ | (refine is_f 115 ?_; refine r_181b4d (cA) ?_) | (refine is_f 115 ?_; refine r_e0b6b3 (cB) ?_) | (refine r_0efca5 (fun hb => ?_) (fun hb => ?_) <;> (try (exfalso; omega))) | fail))
  all_goals (first | (exfalso; omega) | exact ret2 [] (.fr 1 _ _ _ rfl) (.fr 3 _ _ _ rfl) rfl rfl rfl rfl)
 ·obtain ⟨s1, s2, s3⟩ := hst t (by omega)
  have hql1 := hql (t + 1) ht
  have hr : val (xs.drop (t + 1)) % y < y := Nat.mod_lt _ (by omega)
  have hx := hw.get t
  have cD := div64_m (val (xs.drop (t + 1)) % y) (xs.getD t 0) y hr hx hy
  have gx := wns_get (l := xs) (i := t) (by omega)
  show awp _ _ _ _ _ (rd2S xs [y] (dqL (val (xs.drop (t + 1))) y (t + 1) xs.length) (val (xs.drop (t + 1)) % y) (((t + 1 : Nat) : Int) - 1))
  rw [show (((t + 1 : Nat) : Int) - 1) = (t : Int) by omega]
  generalize dqL (val (xs.drop (t + 1))) y (t + 1) xs.length = ql at s3 hql1 ⊢
  generalize val (xs.drop (t + 1)) % y = rr at s1 s2 s3 cD hr ⊢
  generalize (rr * B64 + xs.getD t 0) / y = d at s1 s3 cD
  generalize (rr * B64 + xs.getD t 0) % y = r2 at s2 cD
  have hE : (wns ql).set t [.v (.int .u64 ((d : Nat) : Int))] = wns (ql.set t d) := wns_set ql _ _
  have l3 := wns_len ql
  have gq := wns_get (l := ql) (i := t) (by omega)
  have hdec : IntKind.i64.wrap ((t : Int) - 1) = (t : Int) - 1 := by rw [IntKind.wrap_i64]; omega
  clear hfin hfin2 hz hz2 hrep hst hql
  (repeat' (first | refine r_4eabd4 ?_ | (refine is_f 118 ?_; refine r_bb2b31 (cD) ?_) | (refine r_0efca5 (fun hb => ?_) (fun hb => ?_) <;> (try (exfalso; omega))) | fail))
  all_goals (first | (exfalso; omega) | exact ⟨t, by omega, by show Le _ _ (rd2S xs [y] (dqL (val (xs.drop t)) y t xs.length) (val (xs.drop t) % y) ((t : Int) - 1)); rw [← s3, ← s2]; (refine Le.mk [(0,0)] [] q_5ec36 q_43730 q_16bb5 q_509a2), by show t < t + 1; omega⟩)
end Go.Proofs.YtibedaeefnjjlaaGreat
