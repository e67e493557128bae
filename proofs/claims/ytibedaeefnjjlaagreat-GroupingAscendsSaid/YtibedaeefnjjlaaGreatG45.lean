/- Texts of the second layer in one: Dv3 Rg1. -/
import Derived.Test.YtibedaeefnjjlaaGreatG42
import Derived.Test.YtibedaeefnjjlaaGreatG44
import Derived.Test.YtibedaeefnjjlaaGreatG38
set_option maxRecDepth 100000
set_option linter.unusedVariables false
set_option linter.unusedSimpArgs false
namespace Go.Proofs.YtibedaeefnjjlaaGreat
open Go.RowKit Go.Ab Go.Wd
theorem sd_step (m X : Nat) (hX : 0 < X) : (m % (2 * X) < X → m % X = m % (2 * X) ∧ m / X = 2 * (m / (2 * X))) ∧ (X ≤ m % (2 * X) → m % X = m % (2 * X) - X ∧ m / X = 2 * (m / (2 * X)) + 1) := by
 have h1 := Nat.mod_add_div m (2 * X)
 have h2 : m % (2 * X) < 2 * X := Nat.mod_lt _ (by omega)
 generalize m % (2 * X) = R at *
 generalize m / (2 * X) = Q at *
 have e : m = R + X * (2 * Q) := by rw [← h1, Nat.mul_comm 2 X, Nat.mul_assoc]
 refine ⟨fun h => ?_, fun h => ?_⟩
 ·rw [e, Nat.add_mul_mod_self_left, Nat.add_mul_div_left _ _ hX, Nat.mod_eq_of_lt h, Nat.div_eq_of_lt h]
  exact ⟨rfl, by omega⟩
 ·have e2 : m = (R - X) + X * (2 * Q + 1) := by rw [e, Nat.mul_add, Nat.mul_one]; omega
  rw [e2, Nat.add_mul_mod_self_left, Nat.add_mul_div_left _ _ hX, Nat.mod_eq_of_lt (by omega), Nat.div_eq_of_lt (by omega)]
  exact ⟨rfl, by omega⟩
theorem bit_set (K i N : Nat) (hN : (K * 2 ^ (i + 1) + 2 ^ i) < B64 ^ N) (hi : i / 64 < N) :
  (ws (K * 2 ^ (i + 1)) N).getD (i / 64) 0 % 2 ^ (i % 64 + 1) = 0 ∧ (ws (K * 2 ^ (i + 1)) N).getD (i / 64) 0 + 2 ^ (i % 64) < B64 ∧
  (ws (K * 2 ^ (i + 1)) N).set (i / 64) ((ws (K * 2 ^ (i + 1)) N).getD (i / 64) 0 + 2 ^ (i % 64)) = ws (K * 2 ^ (i + 1) + 2 ^ i) N := by
 have hr : i % 64 < 64 := Nat.mod_lt _ (by decide)
 have hi2 : i = 64 * (i / 64) + i % 64 := by omega
 generalize hw : i / 64 = w at *
 generalize hr2 : i % 64 = r at *
 have ei : 2 ^ i = B64 ^ w * 2 ^ r := by rw [hi2, Nat.pow_add, Nat.pow_mul, ← B64_two]
 have ei1 : 2 ^ (i + 1) = B64 ^ w * 2 ^ (r + 1) := by rw [hi2, Nat.add_assoc, Nat.pow_add, Nat.pow_mul, ← B64_two]
 have hp : 0 < B64 ^ w := Nat.pow_pos (by decide)
 have hb : B64 = 2 ^ (r + 1) * 2 ^ (63 - r) := by rw [← Nat.pow_add, show r + 1 + (63 - r) = 64 by omega, B64_two]
 have hg : (ws (K * 2 ^ (i + 1)) N).getD w 0 = K * 2 ^ (r + 1) % B64 := by
  rw [ws_getDN _ _ _ hi]
  unfold wo
  rw [ei1, ← Nat.mul_assoc, Nat.mul_right_comm, Nat.mul_div_cancel _ hp]
 have hm : K * 2 ^ (r + 1) % B64 = 2 ^ (r + 1) * (K % 2 ^ (63 - r)) := by rw [hb, Nat.mul_comm K, Nat.mul_mod_mul_left]
 have hlt : K * 2 ^ (r + 1) % B64 + 2 ^ r < B64 := by
  rw [hm]
  have h1 : K % 2 ^ (63 - r) < 2 ^ (63 - r) := Nat.mod_lt _ (Nat.pow_pos (by decide))
  have h2 : 2 ^ (r + 1) * (K % 2 ^ (63 - r) + 1) ≤ 2 ^ (r + 1) * 2 ^ (63 - r) := Nat.mul_le_mul (Nat.le_refl _) h1
  rw [← hb, Nat.mul_add, Nat.mul_one] at h2
  have h3 : 2 ^ (r + 1) = 2 ^ r * 2 := Nat.pow_succ 2 r
  have h4 : 0 < 2 ^ r := Nat.pow_pos (by decide)
  generalize 2 ^ (r + 1) * (K % 2 ^ (63 - r)) = z at *
  generalize 2 ^ (r + 1) = y at *
  generalize 2 ^ r = x at *
  generalize B64 = q at *
  omega
 rw [hg]
 refine ⟨by rw [hm]; exact Nat.mul_mod_right _ _, hlt, ?_⟩
 have hW := ws_wds N (K * 2 ^ (i + 1))
 have hv := val_set (ws (K * 2 ^ (i + 1)) N) w (K * 2 ^ (r + 1) % B64 + 2 ^ r) (by rw [ws_len]; exact hi)
 rw [hg, val_ws _ _ (by omega), Nat.mul_add, ← ei] at hv
 have hv2 : val ((ws (K * 2 ^ (i + 1)) N).set w (K * 2 ^ (r + 1) % B64 + 2 ^ r)) = K * 2 ^ (i + 1) + 2 ^ i := by omega
 rw [← hv2]
 have := ws_val _ (hW.set w hlt)
 rw [List.length_set, ws_len] at this
 exact this.symm
theorem sd_init (m b : Nat) (hb : b ≠ 0) (hle : bl b ≤ bl m) : m < b * 2 ^ (bl m - bl b + 1) := by
 have h1 := bl_lt m
 have h2 := bl_le b hb
 have h3 := bl_pos hb
 have : 2 ^ (bl b - 1) * 2 ^ (bl m - bl b + 1) ≤ b * 2 ^ (bl m - bl b + 1) := Nat.mul_le_mul h2 (Nat.le_refl _)
 rw [← Nat.pow_add, show bl b - 1 + (bl m - bl b + 1) = bl m by omega] at this
 omega
section
variable {P : Program} {env : Nat → AV} {H : Nat → Option Blk} {d : Option Tmp} {ty : TypeId} {pos : String} {af : Array Edge} {g : Option (Nat × Bool)}
theorem p_nilsl (sz : Nat) {x : Operand} (hx : evA env x = .r (.v (.slice none 0 0))) : ReadOk P ⟨d, .assign x, ty, pos, af, g⟩ env H [] (.r (.sl sz [])) := by
 refine ⟨fun i b h => by simp at h, fun i hi => by simp [AV.ids] at hi, fun a w Z M hr _ => ⟨a.eval x, rfl, ?_⟩⟩
 have h := hr x (by simp [Op.operands])
 rw [hx] at h
 simp only [AV.rep, RV.rep] at h ⊢
 exact ⟨none, 0, h, Nat.le_refl _, by unfold maxLen; omega, by simp, fun h => absurd rfl h⟩
end
theorem vals_wns (T : Nat) (l : List Nat) : (AV.fr T 1 (wns l)).vals := by
 simp only [AV.vals]
 intro e he x hx
 unfold wns at he
 obtain ⟨a, _, rfl⟩ := List.mem_map.1 he
 rw [List.mem_singleton] at hx
 subst hx
 exact ⟨_, rfl⟩
theorem trim_tw2 (m : Nat) : trim (tw m) = tw m := by rw [trim_tw _ (tw_wds m), val_tw]
def rd3S (ql : List Nat) (R D : Nat) (z : Int) : St := ⟨[(6, .ow 0), (9, .r (.sl 1 (wns (tw R)))), (11, .ow 1), (12, .r (.v (.int .i64 z)))], [(0, some (.row 33 1 (wns ql))), (1, some (.row 33 1 (wns (tw D))))], 2⟩
set_option maxHeartbeats 4000000 in
theorem refDivmodN_m (m n : Nat) (hm : m < B64 ^ 4) (hn : n < B64 ^ 4) (hB : B64 ≤ n) : Meets Tryz.prog 85 [.r (.sl 1 (wns (tw m))), .r (.sl 1 (wns (tw n)))] [] (.tu [.r (.sl 1 (wns (tw (m / n)))), .r (.sl 1 (wns (tw (m % n))))]) [] := by
 have hn0 : n ≠ 0 := by
  intro h
  rw [h] at hB
  exact absurd hB (by decide)
 have hlm := tw_len 4 m hm
 have hln := tw_len 4 n hn
 have hn1 : ¬ (tw n).length ≤ 1 := fun h => by
  have := tw_len_lt 1 n h
  rw [Nat.pow_one] at this
  omega
 have l1 := wns_len (tw m)
 have l2 := wns_len (tw n)
 have hz : ws 0 (tw m).length = List.replicate (tw m).length 0 := by
  have : ∀ k, ws 0 k = List.replicate k 0 := by
   intro k
   induction k with
   | zero => rfl
   | succ k ih => rw [ws, Nat.zero_div, ih, List.replicate_succ, Nat.zero_mod]
  exact this _
 have hrep : List.replicate (wns (tw m)).length (List.map RV.v [Value.int IntKind.u64 0]) = wns (ws 0 (tw m).length) := by
  rw [hz, l1]; unfold wns; rw [List.map_replicate]; rfl
 have cT := trim_o (tw m) (by omega)
 rw [trim_tw2] at cT
 have cS := refSize_m m (by omega)
 have cS2 := refSize_m n (by omega)
 have hbm : bl m ≤ 64 * (tw m).length := bl_le_of_lt (by
  have := val_lt (tw m) (tw_wds m)
  rw [val_tw, B64_two, ← Nat.pow_mul] at this
  exact this)
 have hbn : bl n ≤ 64 * 4 := bl_le_of_lt (by
  have := hn
  rw [B64_two, ← Nat.pow_mul] at this
  exact this)
 by_cases hlt : bl m < bl n
 ·have hmn : m < n := by
   have h1 := bl_lt m
   have h2 := bl_le n hn0
   have h3 : 2 ^ bl m ≤ 2 ^ (bl n - 1) := Nat.pow_le_pow_right (by decide) (by omega)
   omega
  rw [Nat.div_eq_of_lt hmn, Nat.mod_eq_of_lt hmn, tw_zero]
  have hsub : IntKind.i64.wrap (((bl m : Nat) : Int) - ((bl n : Nat) : Int)) = ((bl m : Nat) : Int) - ((bl n : Nat) : Int) := by rw [IntKind.wrap_i64]; omega
  refine fn_of Tryz.func85 rfl (Nat.le_of_ble_eq_true rfl) rfl rfl ?_
  (repeat' (first | (first | refine awp_halt 12 ?_ | refine awp_haltR 12 ?_) | refine r_ceea32 ?_ | refine r_d3423f ?_ | (refine is_f 115 ?_; refine r_e0b6b3 (cT) ?_) | (refine is_f 119 ?_; refine r_a9abb6 (cS) ?_) | (refine is_f 119 ?_; refine r_bb2b31 (cS2) ?_) | (refine r_0efca5 (fun hb => ?_) (fun hb => ?_) <;> (try (exfalso; omega))) | fail))
  all_goals (first | (exfalso; omega) | skip)
  refine halt ?_
  refine awp_seq ?_
  refine awp_text ?_
  refine is_move ?_
  refine w_read rfl (.inl ⟨rfl, rfl⟩) (p_move (out := .ow _) rfl) ?_
  refine is_assign ?_
  refine w_read rfl (.inl ⟨rfl, rfl⟩) (p_nilsl 1 rfl) ?_
  (repeat' (first | refine r_4eabd4 ?_ | (refine r_0efca5 (fun hb => ?_) (fun hb => ?_) <;> (try (exfalso; omega))) | fail))
  all_goals (first | (exfalso; omega) | exact ret2 [3] (.r _) (.fz 3 _ _ _ rfl (by simp)) rfl rfl rfl rfl)
 ·obtain ⟨N, hN⟩ : ∃ N, N = bl m - bl n := ⟨_, rfl⟩
  have hsub : IntKind.i64.wrap (((bl m : Nat) : Int) - ((bl n : Nat) : Int)) = ((N : Nat) : Int) := by rw [IntKind.wrap_i64]; omega
  have hini := sd_init m n hn0 (by omega)
  rw [← hN] at hini
  have hN256 : N < 256 := by
   have := bl_pos hn0
   omega
  have hNL : N < 64 * (tw m).length := by
   have := bl_pos hn0
   omega
  have cU := refUpL_f (tw n) (tw_wds n) (N / 64) (N % 64) (by omega) (by omega) (Nat.mod_lt _ (by decide))
  rw [show 64 * (N / 64) + N % 64 = N by omega, val_tw] at cU
  have hX4 : n * 2 ^ N < B64 ^ 4 := by
   have h1 := bl_lt n
   have h2 : n * 2 ^ N < 2 ^ bl n * 2 ^ N := Nat.mul_lt_mul_of_pos_right h1 (Nat.pow_pos (by decide))
   rw [← Nat.pow_add] at h2
   have h3 : 2 ^ (bl n + N) ≤ 2 ^ (64 * 4) := Nat.pow_le_pow_right (by decide) (by omega)
   rw [B64_two, ← Nat.pow_mul]
   exact Nat.lt_of_lt_of_le h2 h3
  clear hbm hbn hlt hN hz
  have hmL : m < B64 ^ (tw m).length := by
   have := val_lt (tw m) (tw_wds m)
   rwa [val_tw] at this
  obtain ⟨L, hL⟩ : ∃ L, L = (tw m).length := ⟨_, rfl⟩
  rw [← hL] at hrep hNL hmL l1 hlm
  refine fn_of Tryz.func85 rfl (Nat.le_of_ble_eq_true rfl) rfl rfl ?_
  (repeat' (first | refine r_4eabd4 ?_ | (refine is_f 115 ?_; refine r_e0b6b3 (cT) ?_) | (refine is_f 119 ?_; refine r_a9abb6 (cS) ?_) | (refine is_f 119 ?_; refine r_bb2b31 (cS2) ?_) | (refine is_f 120 ?_; refine r_bb2b31 (cU) ?_) | (refine r_0efca5 (fun hb => ?_) (fun hb => ?_) <;> (try (exfalso; omega))) | fail))
  all_goals (first | (exfalso; omega) | skip)
  have e1 : m / (n * 2 ^ (N + 1)) * 2 ^ (N + 1) = 0 := by rw [Nat.div_eq_of_lt hini, Nat.zero_mul]
  have e2 : m % (n * 2 ^ (N + 1)) = m := Nat.mod_eq_of_lt hini
  have e3 : n * 2 ^ (N + 1) / 2 = n * 2 ^ N := by rw [Nat.pow_succ, ← Nat.mul_assoc]; exact Nat.mul_div_cancel _ (by decide)
  refine awp_loop' (fun t : Nat => rd3S (ws (m / (n * 2 ^ t) * 2 ^ t) L) (m % (n * 2 ^ t)) (n * 2 ^ t / 2) ((t : Int) - 1)) (fun t => t ≤ N + 1) (fun t => t) (N + 1) (Nat.le_refl _) (by
   have e4 : ((N + 1 : Nat) : Int) - 1 = (N : Int) := by omega
   show Le _ _ (rd3S (ws (m / (n * 2 ^ (N + 1)) * 2 ^ (N + 1)) L) (m % (n * 2 ^ (N + 1))) (n * 2 ^ (N + 1) / 2) (((N + 1 : Nat) : Int) - 1))
   rw [e1, e2, e3, e4]
   unfold rd3S
   rw [← hrep]
   (refine Le.mk [(0,0),(1,4)] [3] q_5ec36 q_43730 q_16bb5 q_509a2)) fun t ht => ?_
  clear cT cS cS2 cU hsub hini e1 e2 e3 hrep
  rcases t with _ | i
  ·have hw := ws_wds L (m / n)
   have cA := trim_o (ws (m / n) L) (by rw [ws_len]; omega)
   have hq : m / n < B64 ^ L := Nat.lt_of_le_of_lt (Nat.div_le_self _ _) hmL
   rw [trim_tw _ hw, val_ws _ _ hq] at cA
   show awp _ _ _ _ _ (rd3S (ws (m / (n * 2 ^ 0) * 2 ^ 0) L) (m % (n * 2 ^ 0)) (n * 2 ^ 0 / 2) (-1))
   rw [Nat.pow_zero, Nat.mul_one, Nat.mul_one]
   (repeat' (first | refine r_4eabd4 ?_ | (refine is_f 115 ?_; refine r_181b4d (cA) ?_) | (refine r_0efca5 (fun hb => ?_) (fun hb => ?_) <;> (try (exfalso; omega))) | fail))
   all_goals (first | (exfalso; omega) | exact ret2 [2] (.fz 2 _ _ _ rfl (by simp)) (.r _) rfl rfl rfl rfl)
  ·show awp _ _ _ _ _ (rd3S (ws (m / (n * 2 ^ (i + 1)) * 2 ^ (i + 1)) L) (m % (n * 2 ^ (i + 1))) (n * 2 ^ (i + 1) / 2) (((i + 1 : Nat) : Int) - 1))
   have hX : 0 < n * 2 ^ i := Nat.mul_pos (by omega) (Nat.pow_pos (by decide))
   have hsd := sd_step m (n * 2 ^ i) hX
   have eX : n * 2 ^ (i + 1) = 2 * (n * 2 ^ i) := by rw [Nat.pow_succ, ← Nat.mul_assoc, Nat.mul_comm]
   have eD : n * 2 ^ (i + 1) / 2 = n * 2 ^ i := by rw [eX]; exact Nat.mul_div_cancel_left _ (by decide)
   have hbnd : m / (n * 2 ^ i) * 2 ^ i ≤ m := by
    have h1 : m / (n * 2 ^ i) * 2 ^ i ≤ m / (n * 2 ^ i) * (n * 2 ^ i) := Nat.mul_le_mul (Nat.le_refl _) (Nat.le_mul_of_pos_left _ (by omega))
    exact Nat.le_trans h1 (Nat.div_mul_le_self _ _)
   rw [eD, eX, show (((i + 1 : Nat) : Int) - 1) = (i : Int) by omega]
   have hRm : m % (2 * (n * 2 ^ i)) ≤ m := Nat.mod_le _ _
   have hR2 : m % (2 * (n * 2 ^ i)) < 2 * (n * 2 ^ i) := Nat.mod_lt _ (by omega)
   have hXle : n * 2 ^ i ≤ n * 2 ^ N := Nat.mul_le_mul (Nat.le_refl _) (Nat.pow_le_pow_right (by decide) (by omega))
   have hbit := bit_set (m / (2 * (n * 2 ^ i))) i L
   generalize gX : n * 2 ^ i = X at *
   generalize n * 2 ^ N = XN at *
   have hlR := tw_len 4 (m % (2 * X)) (by omega)
   have hlX := tw_len 4 X (by omega)
   have cC := compare_m (m % (2 * X)) X (by omega) (by omega)
   have cH := half_o (tw X) (tw_wds X) (by omega)
   rw [val_tw] at cH
   have hdec : IntKind.i64.wrap ((i : Int) - 1) = (i : Int) - 1 := by rw [IntKind.wrap_i64]; omega
   have hmX : m / X * 2 ^ i < B64 ^ L := by omega
   by_cases hc : m % (2 * X) < X
   ·obtain ⟨f1, f2⟩ := hsd.1 hc
    have hcm : cmpN (m % (2 * X)) X = -1 := if_pos hc
    rw [hcm] at cC
    have hQ : m / X * 2 ^ i = m / (2 * X) * 2 ^ (i + 1) := by rw [f2, Nat.pow_succ, Nat.mul_comm 2 (m / (2 * X)), Nat.mul_assoc, Nat.mul_comm 2 (2 ^ i)]
    obtain ⟨R, gR⟩ : ∃ R, m % X = R := ⟨_, rfl⟩
    obtain ⟨Q, gQ⟩ : ∃ Q, m / X * 2 ^ i = Q := ⟨_, rfl⟩
    rw [← hQ, ← f1, gR, gQ]
    rw [← f1, gR] at cC
    clear hsd hbit f1 f2 hQ eX eD hc hcm hmX hbnd
    (repeat' (first | refine r_4eabd4 ?_ | (refine is_f 82 ?_; refine r_386bc8 (cC) ?_) | (refine is_f 121 ?_; refine r_0aa870 (cH) ?_) | (refine r_0efca5 (fun hb => ?_) (fun hb => ?_) <;> (try (exfalso; omega))) | fail))
    all_goals (first | (exfalso; omega) | skip)
    refine ⟨i, by omega, ?_, by show i < i + 1; omega⟩
    show Le _ _ (rd3S (ws (m / (n * 2 ^ i) * 2 ^ i) L) (m % (n * 2 ^ i)) (n * 2 ^ i / 2) ((i : Int) - 1))
    rw [gX, gR, gQ]
    (refine Le.mk [(0,0),(1,2)] [] q_5ec36 q_43730 q_16bb5 q_509a2)
   ·obtain ⟨f1, f2⟩ := hsd.2 (by omega)
    have hcm : cmpN (m % (2 * X)) X = 0 ∨ cmpN (m % (2 * X)) X = 1 := by
     unfold cmpN
     rw [if_neg hc]
     split
     ·exact .inr rfl
     ·exact .inl rfl
    have hQ : m / X * 2 ^ i = m / (2 * X) * 2 ^ (i + 1) + 2 ^ i := by rw [f2, Nat.pow_succ, Nat.add_mul, Nat.one_mul, Nat.mul_comm 2 (m / (2 * X)), Nat.mul_assoc, Nat.mul_comm 2 (2 ^ i)]
    have cB := refSubL_f (tw (m % (2 * X))) (tw X) (tw_wds _) (tw_wds _) (by omega) (tw_len_le (by omega)) (by rw [val_tw, val_tw]; omega)
    rw [val_tw, val_tw, ← f1] at cB
    rw [hQ] at hmX
    obtain ⟨b1, b2, b3⟩ := hbit hmX (by omega)
    have gQ : ws (m / X * 2 ^ i) L = ws (m / (2 * X) * 2 ^ (i + 1) + 2 ^ i) L := by rw [hQ]
    rw [← b3] at gQ
    obtain ⟨R2, gR⟩ : ∃ R, m % X = R := ⟨_, rfl⟩
    rw [gR] at cB
    have hw : i / 64 < L := by omega
    have hp : 2 ^ (i % 64) < B64 := by
     rw [B64_two]
     exact Nat.pow_lt_pow_right (by decide) (Nat.mod_lt _ (by decide))
    have s1 : IntKind.u64.wrap (1 * 2 ^ (min (Int.toNat ((i % 64 : Nat) : Int)) IntKind.u64.bits)) = ((2 ^ (i % 64) : Nat) : Int) := by
     have := shl_u64 1 (i % 64) (Nat.mod_lt _ (by decide))
     rw [Nat.one_mul, Nat.mod_eq_of_lt hp] at this
     exact this
    have s2 := or_u64 _ (2 ^ (i % 64)) (i % 64 + 1) b1 (Nat.pow_lt_pow_right (by decide) (by omega)) b2
    have q1 : IntKind.i64.wrap (Int.tdiv (i : Int) 64) = ((i / 64 : Nat) : Int) := by rw [IntKind.wrap_i64, Int.tdiv_eq_ediv_of_nonneg (by omega)]; omega
    have q2 : Int.tmod (i : Int) 64 = ((i % 64 : Nat) : Int) := by rw [Int.tmod_eq_emod_of_nonneg (by omega)]; omega
    have q3 : IntKind.u64.wrap ((i % 64 : Nat) : Int) = ((i % 64 : Nat) : Int) := by rw [IntKind.wrap_u64]; omega
    have hwl := ws_len L (m / (2 * X) * 2 ^ (i + 1))
    clear hsd hbit f1 f2 hQ eX eD b1 b2 b3 hp hmX hbnd
    generalize ws (m / (2 * X) * 2 ^ (i + 1)) L = ql at *
    generalize m % (2 * X) = R at *
    generalize cmpN R X = cv at *
    generalize i % 64 = r at *
    generalize i / 64 = w at *
    generalize 2 ^ r = bt at *
    have gq := wns_get (l := ql) (i := w) (by omega)
    have l3 := wns_len ql
    generalize ql.getD w 0 = x at *
    have hE : (wns ql).set w [.v (.int .u64 ((x + bt : Nat) : Int))] = wns (ql.set w (x + bt)) := wns_set ql _ _
    (repeat' (first | refine r_4eabd4 ?_ | (refine is_f 82 ?_; refine r_386bc8 (cC) ?_) | (refine r_0efca5 (fun hb => ?_) (fun hb => ?_) <;> (try (exfalso; omega))) | fail))
    all_goals (first | (exfalso; omega) | skip)
    refine is_f 87 ?_
    refine w_call [1] [(1, _)] cB (.cons _ _ _ _ (.r _) (.cons _ _ _ _ (.fz 1 _ _ _ rfl (by simp)) .nil)) (by kernel_rfl) (by intro g h; rw [List.mem_singleton] at h; subst h; exact ⟨_, List.mem_cons_self, rfl⟩) (by intro i b h; rw [List.mem_singleton] at h; injection h with h1 h2; subst h1 h2; rfl) (.inr (vals_wns _ _)) rfl rfl rfl (.inl ⟨rfl, rfl⟩) ?_
    (repeat' (first | refine r_4eabd4 ?_ | (refine is_f 121 ?_; refine r_0aa870 (cH) ?_) | (refine r_0efca5 (fun hb => ?_) (fun hb => ?_) <;> (try (exfalso; omega))) | fail))
    all_goals (first | (exfalso; omega) | skip)
    refine ⟨i, by omega, ?_, by show i < i + 1; omega⟩
    show Le _ _ (rd3S (ws (m / (n * 2 ^ i) * 2 ^ i) L) (m % (n * 2 ^ i)) (n * 2 ^ i / 2) ((i : Int) - 1))
    rw [gX, gR, gQ]
    (refine Le.mk [(0,0),(1,3)] [2] q_5ec36 q_43730 q_16bb5 q_509a2)
end Go.Proofs.YtibedaeefnjjlaaGreat
namespace Go.Proofs.YtibedaeefnjjlaaGreat
open Go.RowKit Go.Ab Go.Wd
theorem refDivmod_m (m n : Nat) (hm : m < B64 ^ 4) (hn : n < B64 ^ 4) (hn0 : n ≠ 0) : Meets Tryz.prog 85 [.r (.sl 1 (wns (tw m))), .r (.sl 1 (wns (tw n)))] [] (.tu [.r (.sl 1 (wns (tw (m / n)))), .r (.sl 1 (wns (tw (m % n))))]) [] := by
 rcases Nat.lt_or_ge n B64 with h | h
 ·exact refDivmod1_m m n hm h hn0
 ·exact refDivmodN_m m n hm hn h
theorem rDM_m (m n : Nat) (hm : m < B64 ^ 4) (hn : n < B64 ^ 4) (hn0 : n ≠ 0) : Meets Tryz.prog 49 [wz (m : Int), wz (n : Int)] [] (.tu [wz ((m / n : Nat) : Int), wz ((m % n : Nat) : Int), .r (.v (.bool true))]) [] :=
 rDivModN_m m n hm hn hn0 (refDivmod_m m n hm hn hn0)
set_option maxHeartbeats 8000000 in
theorem rGcd_m (m0 n0 : Nat) (hm0 : m0 < B64 ^ 4) (hn0 : n0 < B64 ^ 4) : Meets Tryz.prog 47 [wz (m0 : Int), wz (n0 : Int)] [] (wz ((Nat.gcd m0 n0 : Nat) : Int)) [] := by
 rw [wz_nat, wz_nat, wz_nat]
 refine fn_of Tryz.func47 rfl (Nat.le_of_ble_eq_true rfl) rfl rfl ?_
 (repeat' (first | refine r_4eabd4 ?_ | (refine r_0efca5 (fun hb => ?_) (fun hb => ?_) <;> (try (exfalso; omega))) | fail))
 refine awp_loop' (fun x : Nat × Nat => dgS x.1 x.2) (fun x => Nat.gcd x.1 x.2 = Nat.gcd m0 n0 ∧ x.1 < B64 ^ 4 ∧ x.2 < B64 ^ 4) (fun x => x.2) (m0, n0) ⟨rfl, hm0, hn0⟩ (by (refine Le.mk [(0,0),(1,1),(2,2)] [] q_5ec36 q_43730 q_16bb5 q_509a2)) fun z hz => ?_
 obtain ⟨m, n⟩ := z
 obtain ⟨hgz, hm4, hn4⟩ := hz
 dsimp only at hgz hm4 hn4
 have cS := rSign_m (n : Int) (w4_nat hn4)
 rw [wz_nat] at cS
 change awp _ _ _ _ _ (dgS m n)
 by_cases h0 : n = 0
 ·subst h0
  rw [Nat.gcd_zero_right] at hgz
  rw [← hgz]
  rw [show sgZ ((0 : Nat) : Int) = 0 from rfl] at cS
  (repeat' (first | refine r_4eabd4 ?_ | (refine is_f 46 ?_; refine r_bb2b31 (cS) ?_) | (refine r_0efca5 (fun hb => ?_) (fun hb => ?_) <;> (try (exfalso; omega))) | fail))
  all_goals (first | (exfalso; omega) | exact absurd rfl hb | exact ret1c [] (Rt.wd false m) rfl rfl rfl rfl (post_none rfl) rfl)
 ·have hs : ¬ sgZ (n : Int) = 0 := by unfold sgZ; rw [if_neg (by omega), if_neg (by omega)]; omega
  generalize sgZ (n : Int) = sg at *
  by_cases hsm : m < B64 ∧ n < B64
  ·obtain ⟨hm, hn⟩ := hsm
   have u1 := rUnsigned_m m hm
   have u2 := rUnsigned_m n hn
   rw [wz_nat] at u1 u2
   have cU := fun x hx => rOfU_m x hx
   (repeat' (first | refine r_4eabd4 ?_ | (refine is_f 46 ?_; refine r_bb2b31 (cS) ?_) | (refine is_f 83 ?_; refine r_bb2b31 (u1) ?_) | (refine is_f 83 ?_; refine r_bb2b31 (u2) ?_) | (refine r_0efca5 (fun hb => ?_) (fun hb => ?_) <;> (try (exfalso; omega))) | fail))
   all_goals (first | (exfalso; omega) | skip)
   refine awp_loop' (fun x : Nat × Nat => rgI m n x.1 x.2) (fun x => Nat.gcd x.1 x.2 = Nat.gcd m0 n0 ∧ x.1 < B64 ∧ x.2 < B64) (fun x => x.2) (m, n) ⟨hgz, hm, hn⟩ (by (refine Le.mk [(0,0),(1,1),(2,2)] [] q_5ec36 q_43730 q_16bb5 q_509a2)) fun x hx => ?_
   obtain ⟨x, y⟩ := x
   obtain ⟨hx1, hx2, hx3⟩ := hx
   dsimp only at hx1 hx2 hx3
   change awp _ _ _ _ _ (rgI m n x y)
   by_cases hy0 : y = 0
   ·subst hy0
    rw [Nat.gcd_zero_right] at hx1
    rw [← hx1]
    have cU := cU x hx2
    rw [wz_nat] at cU
    (repeat' (first | refine r_4eabd4 ?_ | (refine is_f 84 ?_; refine r_bb2b31 (cU) ?_) | (refine r_0efca5 (fun hb => ?_) (fun hb => ?_) <;> (try (exfalso; omega))) | fail))
    all_goals (first | (exfalso; omega) | exact absurd rfl hb | exact ret1c [] (Rt.wd false x) rfl rfl rfl rfl (post_none rfl) rfl)
   ·have hrem := u64_tmod x y
    have hlt := Nat.mod_lt x (Nat.pos_of_ne_zero hy0)
    have hg : Nat.gcd y (x % y) = Nat.gcd m0 n0 := by rw [← hx1, Nat.gcd_comm x y, Nat.gcd_rec y x, Nat.gcd_comm]
    have hyi : (y : Int) ≠ 0 := by omega
    clear cU
    generalize x % y = r at *
    (repeat' (first | refine r_4eabd4 ?_ | (refine r_0efca5 (fun hb => ?_) (fun hb => ?_) <;> (try (exfalso; omega))) | fail))
    all_goals (first | (exfalso; omega) | exact ⟨(y, r), ⟨hg, hx3, by show r < B64; omega⟩, by show Le _ _ (rgI m n y r); (refine Le.mk [(0,0),(1,1),(2,2)] [] q_5ec36 q_43730 q_16bb5 q_509a2), by show r < y; omega⟩)
  ·obtain ⟨v1, b1, u1, v2, b2, u2, hbb⟩ : ∃ (v1 : Int) (b1 : Bool) (_ : Meets Tryz.prog 83 [wz (m : Int)] [] (.tu [.r (.v (.int .u64 v1)), .r (.v (.bool b1))]) []) (v2 : Int) (b2 : Bool) (_ : Meets Tryz.prog 83 [wz (n : Int)] [] (.tu [.r (.v (.int .u64 v2)), .r (.v (.bool b2))]) []), b1 = false ∨ b1 = true ∧ b2 = false := by
    rcases Nat.lt_or_ge m B64 with h1 | h1
    ·refine ⟨_, _, rUnsigned_m m h1, _, _, rUnsigned_no n (by omega) hn4, .inr ⟨rfl, rfl⟩⟩
    ·rcases Nat.lt_or_ge n B64 with h2 | h2
     ·exact ⟨_, _, rUnsigned_no m h1 hm4, _, _, rUnsigned_m n h2, .inl rfl⟩
     ·exact ⟨_, _, rUnsigned_no m h1 hm4, _, _, rUnsigned_no n h2 hn4, .inl rfl⟩
   have cD := rDM_m m n hm4 hn4 h0
   have hlt := Nat.mod_lt m (Nat.pos_of_ne_zero h0)
   have hg : Nat.gcd n (m % n) = Nat.gcd m0 n0 := by rw [← hgz, Nat.gcd_comm m n, Nat.gcd_rec n m, Nat.gcd_comm]
   have hr4 : m % n < B64 ^ 4 := Nat.lt_trans hlt hn4
   rw [wz_nat] at u1 u2
   rw [wz_nat, wz_nat, wz_nat, wz_nat] at cD
   clear hgz hm0 hn0
   generalize m % n = r at *
   generalize m / n = q at *
   rcases hbb with rfl | ⟨rfl, rfl⟩
   ·(repeat' (first | refine r_4eabd4 ?_ | (refine is_f 46 ?_; refine r_bb2b31 (cS) ?_) | (refine is_f 83 ?_; refine r_bb2b31 (u1) ?_) | (refine is_f 83 ?_; refine r_bb2b31 (u2) ?_) | (refine is_f 49 ?_; refine r_bb2b31 (cD) ?_) | (refine r_0efca5 (fun hb => ?_) (fun hb => ?_) <;> (try (exfalso; omega))) | fail))
    all_goals (first | (exfalso; omega) | exact absurd rfl hb | exact ⟨(n, r), ⟨hg, hn4, hr4⟩, by show Le _ _ (dgS n r); (refine Le.mk [(0,0),(1,1),(2,2)] [] q_5ec36 q_43730 q_16bb5 q_509a2), hlt⟩)
   ·(repeat' (first | refine r_4eabd4 ?_ | (refine is_f 46 ?_; refine r_bb2b31 (cS) ?_) | (refine is_f 83 ?_; refine r_bb2b31 (u1) ?_) | (refine is_f 83 ?_; refine r_bb2b31 (u2) ?_) | (refine is_f 49 ?_; refine r_bb2b31 (cD) ?_) | (refine r_0efca5 (fun hb => ?_) (fun hb => ?_) <;> (try (exfalso; omega))) | fail))
    all_goals (first | (exfalso; omega) | exact absurd rfl hb | exact ⟨(n, r), ⟨hg, hn4, hr4⟩, by show Le _ _ (dgS n r); (refine Le.mk [(0,0),(1,1),(2,2)] [] q_5ec36 q_43730 q_16bb5 q_509a2), hlt⟩)
end Go.Proofs.YtibedaeefnjjlaaGreat
