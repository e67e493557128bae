/- Texts of the second layer in one: Rt1 Rt2 Si1 Si2 Si3 Co1 Co2 Gp1. -/
import Derived.Test.YtibedaeefnjjlaaGreatG31
import Derived.Test.YtibedaeefnjjlaaGreatG27
import Derived.Test.YtibedaeefnjjlaaGreatG32
/- The program's fractions: small, divisor. Conditions: ranges. --ext6 -/
namespace Go.Proofs.YtibedaeefnjjlaaGreat
open Go.RowKit Go.Ab Go.Wd
set_option maxRecDepth 100000
set_option linter.unusedVariables false
set_option linter.unusedSimpArgs false

def N127 : Nat := 170141183460469231731687303715884105728
theorem shr63_u64 (a : Nat) : Int.fdiv (a : Int) (2 ^ (min (Int.toNat 63) IntKind.u64.bits)) = ((a / 9223372036854775808 : Nat) : Int) := by
  rw [show min (Int.toNat 63) IntKind.u64.bits = 63 from rfl, show (2 : Int) ^ 63 = 9223372036854775808 from rfl, Int.fdiv_eq_ediv_of_nonneg _ (by omega)]
  omega
theorem smallW_m (b : Bool) (n : Nat) (hn : n < B64 ^ 4) : Meets Tryz.prog 126 [wd b n] [] (.r (.v (.bool (decide (n < N127))))) [] := by
  have c1 := shr63_u64 (n / B64 % B64)
  have k1 : ¬ ((n / B64 / B64 / B64 % B64 : Nat) : Int) = 0 → false = decide (n < N127) := fun h => by
    refine (decide_eq_false ?_).symm
    unfold N127; unfold B64 at h; omega
  have k2 : ¬ ((n / B64 / B64 % B64 : Nat) : Int) = 0 → false = decide (n < N127) := fun h => by
    refine (decide_eq_false ?_).symm
    unfold N127; unfold B64 at h; omega
  have k3 : ¬ ((n / B64 % B64 / 9223372036854775808 : Nat) : Int) = 0 → false = decide (n < N127) := fun h => by
    refine (decide_eq_false ?_).symm
    unfold N127; unfold B64 at h; omega
  have k4 : ((n / B64 / B64 / B64 % B64 : Nat) : Int) = 0 → ((n / B64 / B64 % B64 : Nat) : Int) = 0 → ((n / B64 % B64 / 9223372036854775808 : Nat) : Int) = 0 → true = decide (n < N127) := fun h1 h2 h3 => by
    refine (decide_eq_true ?_).symm
    rw [B64_q] at hn
    unfold N127; unfold B64 at h1 h2 h3; omega
  unfold wd
  clear hn
  generalize decide (n < N127) = r at *
  generalize n / B64 % B64 / 9223372036854775808 = y at *
  generalize n / B64 / B64 / B64 % B64 = w3 at *
  generalize n / B64 / B64 % B64 = w2 at *
  generalize n / B64 % B64 = w1 at *
  generalize n % B64 = w0 at *
  refine fn_of Tryz.func126 rfl (Nat.le_of_ble_eq_true rfl) rfl rfl ?_
  (repeat' (first | refine r_4eabd4 ?_ | (refine r_48b933 (fun hb => ?_) (fun hb => ?_) <;> (try (exfalso; omega))) | (refine awp_cond rfl (fun hb => ?_) (fun hb => ?_) <;> (try simp only [Bool.not_eq_true', Bool.not_eq_false', decide_eq_true_eq, decide_eq_false_iff_not] at hb) <;> (try (exfalso; omega)))))
  all_goals (first | (exfalso; omega) | exact ret1 [] (.bool (k4 (by assumption) (by assumption) (by assumption))) rfl rfl rfl | exact ret1 [] (.bool (k1 (by assumption))) rfl rfl rfl | exact ret1 [] (.bool (k2 (by assumption))) rfl rfl rfl | exact ret1 [] (.bool (k3 (by assumption))) rfl rfl rfl)
def dgS (m n : Nat) : St := ⟨[(2, .pt 0 0), (3, .pt 1 0), (4, .pt 2 0)], [(0, some (.var 36 (cellsA (wd false m)))), (1, some (.var 36 (cellsA (wd false n)))), (2, some (.var 36 (cellsA (wd false 0))))], 3⟩
theorem divisor_m (a b : Int) (ha : W4 a) (hb0 : W4 b) : Meets Tryz.prog 127 [wz a, wz b] [] (wz ((Nat.gcd a.natAbs b.natAbs : Nat) : Int)) [] := by
  unfold W4 at ha hb0
  rw [wz_nat]
  unfold wz
  generalize decide (a < 0) = s1 at *
  generalize decide (b < 0) = s2 at *
  generalize a.natAbs = m0 at *
  generalize b.natAbs = n0 at *
  refine fn_of Tryz.func127 rfl (Nat.le_of_ble_eq_true rfl) rfl rfl ?_
  (repeat' (first | refine r_4eabd4 ?_ | (refine r_48b933 (fun hb => ?_) (fun hb => ?_) <;> (try (exfalso; omega))) | (refine awp_cond rfl (fun hb => ?_) (fun hb => ?_) <;> (try simp only [Bool.not_eq_true', Bool.not_eq_false', decide_eq_true_eq, decide_eq_false_iff_not] at hb) <;> (try (exfalso; omega)))))
  refine awp_loop' (fun x : Nat × Nat => dgS x.1 x.2) (fun x => Nat.gcd x.1 x.2 = Nat.gcd m0 n0 ∧ x.1 < B64 ^ 4 ∧ x.2 < B64 ^ 4) (fun x => x.2) (m0, n0) ⟨rfl, ha, hb0⟩ (by (refine Le.mk [(0,0),(1,1),(2,2)] [] q_5ec36 q_43730 q_16bb5 q_509a2)) fun x hx => ?_
  obtain ⟨m, n⟩ := x
  obtain ⟨hx1, hx2, hx3⟩ := hx
  dsimp only at hx1 hx2 hx3
  change awp _ _ _ _ _ (dgS m n)
  have cS := wSign_m (n : Int) (by simpa using hx3)
  rw [wz_nat] at cS
  by_cases h0 : n = 0
  · subst h0
    rw [Nat.gcd_zero_right] at hx1
    rw [← hx1]
    have hs : sgZ ((0 : Nat) : Int) = 0 := rfl
    rw [hs] at cS
    (repeat' (first | refine r_4eabd4 ?_ | (refine is_f 112 ?_; refine r_bb2b31 (cS) ?_) | (refine r_48b933 (fun hb => ?_) (fun hb => ?_) <;> (try (exfalso; omega))) | (refine awp_cond rfl (fun hb => ?_) (fun hb => ?_) <;> (try simp only [Bool.not_eq_true', Bool.not_eq_false', decide_eq_true_eq, decide_eq_false_iff_not] at hb) <;> (try (exfalso; omega)))))
    all_goals (first | (exfalso; omega) | exact absurd rfl hb | exact ret1c [] (Rt.wd false m) rfl rfl rfl rfl (post_none rfl) rfl)
  · have hs : ¬ sgZ (n : Int) = 0 := by unfold sgZ; rw [if_neg (by omega), if_neg (by omega)]; omega
    have cD := wDivMod_m (m : Int) (n : Int) (by simpa using hx2) (by simpa using hx3) (by omega)
    rw [show (m : Int) / (n : Int) = ((m / n : Nat) : Int) by simp, show (m : Int) % (n : Int) = ((m % n : Nat) : Int) by simp, wz_nat, wz_nat, wz_nat, wz_nat] at cD
    have hlt := Nat.mod_lt m (Nat.pos_of_ne_zero h0)
    have hg : Nat.gcd n (m % n) = Nat.gcd m0 n0 := by rw [← hx1, Nat.gcd_comm m n, Nat.gcd_rec n m, Nat.gcd_comm]
    generalize sgZ (n : Int) = sg at *
    generalize m / n = q at *
    generalize m % n = r at *
    (repeat' (first | refine r_4eabd4 ?_ | (refine is_f 112 ?_; refine r_bb2b31 (cS) ?_) | (refine is_f 146 ?_; refine r_bb2b31 (cD) ?_) | (refine r_48b933 (fun hb => ?_) (fun hb => ?_) <;> (try (exfalso; omega))) | (refine awp_cond rfl (fun hb => ?_) (fun hb => ?_) <;> (try simp only [Bool.not_eq_true', Bool.not_eq_false', decide_eq_true_eq, decide_eq_false_iff_not] at hb) <;> (try (exfalso; omega)))))
    all_goals (first | (exfalso; omega) | exact ⟨(n, r), ⟨hg, hx3, by show r < B64 ^ 4; omega⟩, by show Le _ _ (dgS n r); (refine Le.mk [(0,0),(1,1),(2,2)] [] q_5ec36 q_43730 q_16bb5 q_509a2), by show r < n; omega⟩)
end Go.Proofs.YtibedaeefnjjlaaGreat

/- The program's fractions: Valid, Of, clean, Compare. Conditions: ranges. --ext6 -/
namespace Go.Proofs.YtibedaeefnjjlaaGreat
open Go.RowKit Go.Ab Go.Wd
set_option maxRecDepth 100000
set_option linter.unusedVariables false
set_option linter.unusedSimpArgs false

/-- A fraction as the programs lay it. -/
def rt (p q : Int) : AV := .ag (vsA (rtVs p q))
def VR (p q : Int) : Prop := 0 < q ∧ p.natAbs < N127 ∧ q.natAbs < N127 ∧ Nat.gcd p.natAbs q.natAbs = 1
instance (p q : Int) : Decidable (VR p q) := by unfold VR; infer_instance
theorem Rt.rt {H : Nat → Option Blk} {L : Nat} {G : List Nat} (p q : Int) : Rt H L G (Go.Proofs.YtibedaeefnjjlaaGreat.rt p q) (Go.Proofs.YtibedaeefnjjlaaGreat.rt p q) [] := by
  refine .ag _ _ _ ?_
  have : vsA (rtVs p q) = ((rtVs p q).map RV.v).map AV.r := by unfold vsA; rw [List.map_map]; rfl
  rw [this]; exact Rt.agR _
theorem validZ_m (z : Int) (hz : W4 z) : Meets Tryz.prog 125 [wz z] [] (.r (.v (.bool true))) [] := by
  have h := validG_m (decide (z < 0)) z.natAbs hz
  have e : vW (decide (z < 0)) z.natAbs = true := by
    unfold vW
    by_cases h : z < 0
    · rw [decide_eq_true h, decide_eq_true (by omega : z.natAbs ≠ 0)]; rfl
    · rw [decide_eq_false h]; rfl
  rw [e] at h
  exact h
theorem smallZ_m (z : Int) (hz : W4 z) : Meets Tryz.prog 126 [wz z] [] (.r (.v (.bool (decide (z.natAbs < N127))))) [] := smallW_m _ _ hz
theorem w4_nat {n : Nat} (h : n < B64 ^ 4) : W4 (n : Int) := by unfold W4; simpa using h
theorem gcd_w4 {a b : Int} (ha : W4 a) (hb : W4 b) : W4 ((Nat.gcd a.natAbs b.natAbs : Nat) : Int) := by
  refine w4_nat ?_
  unfold W4 at ha hb
  rcases Nat.eq_zero_or_pos a.natAbs with h | h
  · rw [h, Nat.gcd_zero_left]; exact hb
  · exact Nat.lt_of_le_of_lt (Nat.gcd_le_left _ h) ha
theorem wone : W4 1 := by unfold W4; rw [B64_q]; decide
theorem wOf1_m : Meets Tryz.prog 111 [.r (.v (.int .i64 1))] [] (wz 1) [] := wOf_m 1 (by constructor <;> decide)
set_option maxHeartbeats 4000000 in
theorem validQ_m (p q : Int) (hp : W4 p) (hq : W4 q) : Meets Tryz.prog 94 [rt p q] [] (.r (.v (.bool (decide (VR p q))))) [] := by
  have v1 := validZ_m p hp
  have v2 := validZ_m q hq
  have cS := wSign_m q hq
  have s1 := smallZ_m p hp
  have s2 := smallZ_m q hq
  have cD := divisor_m p q hp hq
  have cO := wOf1_m
  have hgw := gcd_w4 hp hq
  have h1w := wone
  by_cases h0 : 0 < q
  · have hsg : sgZ q = 1 := by unfold sgZ; rw [if_neg (by omega), if_neg (by omega)]
    rw [hsg] at cS
    by_cases h1 : p.natAbs < N127
    · rw [decide_eq_true h1] at s1
      by_cases h2 : q.natAbs < N127
      · rw [decide_eq_true h2] at s2
        have e : decide (VR p q) = decide (((Nat.gcd p.natAbs q.natAbs : Nat) : Int) = 1) := by
          unfold VR
          simp only [h0, h1, h2, true_and]
          by_cases hg : Nat.gcd p.natAbs q.natAbs = 1
          · rw [decide_eq_true hg, decide_eq_true (by omega)]
          · rw [decide_eq_false hg, decide_eq_false (by omega)]
        rw [e]
        generalize ((Nat.gcd p.natAbs q.natAbs : Nat) : Int) = gg at *
        refine fn_of Tryz.func94 rfl (Nat.le_of_ble_eq_true rfl) rfl rfl ?_
        (repeat' (first | (refine is_bin ?_; refine is_b_eql ?_; refine w_read rfl q_85eb5 (p_eqwz hgw h1w rfl rfl rfl) ?_) | refine r_4eabd4 ?_ | (refine is_f 125 ?_; refine r_bb2b31 (v1) ?_) | (refine is_f 125 ?_; refine r_bb2b31 (v2) ?_) | (refine is_f 112 ?_; refine r_bb2b31 (cS) ?_) | (refine is_f 126 ?_; refine r_bb2b31 (s1) ?_) | (refine is_f 126 ?_; refine r_bb2b31 (s2) ?_) | (refine is_f 127 ?_; refine r_bb2b31 (cD) ?_) | (refine is_f 111 ?_; refine r_bb2b31 (cO) ?_) | (refine r_48b933 (fun hb => ?_) (fun hb => ?_) <;> (try (exfalso; omega))) | (refine awp_cond rfl (fun hb => ?_) (fun hb => ?_) <;> (try simp only [Bool.not_eq_true', Bool.not_eq_false', decide_eq_true_eq, decide_eq_false_iff_not] at hb) <;> (try (exfalso; omega)))))
        all_goals (first | (exfalso; omega) | exact ret1 [] (.bool rfl) rfl rfl rfl)
      · rw [decide_eq_false h2] at s2
        have e : false = decide (VR p q) := (decide_eq_false fun h => h2 h.2.2.1).symm
        rw [← e]
        clear e cD cO
        refine fn_of Tryz.func94 rfl (Nat.le_of_ble_eq_true rfl) rfl rfl ?_
        (repeat' (first | refine r_4eabd4 ?_ | (refine is_f 125 ?_; refine r_bb2b31 (v1) ?_) | (refine is_f 125 ?_; refine r_bb2b31 (v2) ?_) | (refine is_f 112 ?_; refine r_bb2b31 (cS) ?_) | (refine is_f 126 ?_; refine r_bb2b31 (s1) ?_) | (refine is_f 126 ?_; refine r_bb2b31 (s2) ?_) | (refine r_48b933 (fun hb => ?_) (fun hb => ?_) <;> (try (exfalso; omega))) | (refine awp_cond rfl (fun hb => ?_) (fun hb => ?_) <;> (try simp only [Bool.not_eq_true', Bool.not_eq_false', decide_eq_true_eq, decide_eq_false_iff_not] at hb) <;> (try (exfalso; omega)))))
        all_goals (first | (exfalso; omega) | exact ret1 [] (.bool rfl) rfl rfl rfl)
    · rw [decide_eq_false h1] at s1
      have e : false = decide (VR p q) := (decide_eq_false fun h => h1 h.2.1).symm
      rw [← e]
      clear e cD cO s2
      refine fn_of Tryz.func94 rfl (Nat.le_of_ble_eq_true rfl) rfl rfl ?_
      (repeat' (first | refine r_4eabd4 ?_ | (refine is_f 125 ?_; refine r_bb2b31 (v1) ?_) | (refine is_f 125 ?_; refine r_bb2b31 (v2) ?_) | (refine is_f 112 ?_; refine r_bb2b31 (cS) ?_) | (refine is_f 126 ?_; refine r_bb2b31 (s1) ?_) | (refine r_48b933 (fun hb => ?_) (fun hb => ?_) <;> (try (exfalso; omega))) | (refine awp_cond rfl (fun hb => ?_) (fun hb => ?_) <;> (try simp only [Bool.not_eq_true', Bool.not_eq_false', decide_eq_true_eq, decide_eq_false_iff_not] at hb) <;> (try (exfalso; omega)))))
      all_goals (first | (exfalso; omega) | exact ret1 [] (.bool rfl) rfl rfl rfl)
  · have hsg : sgZ q ≤ 0 := by unfold sgZ; split <;> omega
    have e : false = decide (VR p q) := (decide_eq_false fun h => h0 h.1).symm
    rw [← e]
    clear e cD cO s1 s2
    generalize sgZ q = sg at *
    refine fn_of Tryz.func94 rfl (Nat.le_of_ble_eq_true rfl) rfl rfl ?_
    (repeat' (first | refine r_4eabd4 ?_ | (refine is_f 125 ?_; refine r_bb2b31 (v1) ?_) | (refine is_f 125 ?_; refine r_bb2b31 (v2) ?_) | (refine is_f 112 ?_; refine r_bb2b31 (cS) ?_) | (refine r_48b933 (fun hb => ?_) (fun hb => ?_) <;> (try (exfalso; omega))) | (refine awp_cond rfl (fun hb => ?_) (fun hb => ?_) <;> (try simp only [Bool.not_eq_true', Bool.not_eq_false', decide_eq_true_eq, decide_eq_false_iff_not] at hb) <;> (try (exfalso; omega)))))
    all_goals (first | (exfalso; omega) | exact ret1 [] (.bool rfl) rfl rfl rfl)
theorem ofQ_m (v : Int) (hv : I64 v) : Meets Tryz.prog 75 [.r (.v (.int .i64 v))] [] (rt v 1) [] := by
  have c1 := wOf_m v hv
  have c2 := wOf1_m
  refine fn_of Tryz.func75 rfl (Nat.le_of_ble_eq_true rfl) rfl rfl ?_
  (repeat' (first | refine r_4eabd4 ?_ | (refine is_f 111 ?_; refine r_bb2b31 (c1) ?_) | (refine is_f 111 ?_; refine r_bb2b31 (c2) ?_) | (refine r_48b933 (fun hb => ?_) (fun hb => ?_) <;> (try (exfalso; omega))) | (refine awp_cond rfl (fun hb => ?_) (fun hb => ?_) <;> (try simp only [Bool.not_eq_true', Bool.not_eq_false', decide_eq_true_eq, decide_eq_false_iff_not] at hb) <;> (try (exfalso; omega)))))
  all_goals exact ret1c [] (Rt.rt v 1) rfl rfl rfl rfl (post_none rfl) rfl
theorem cleanQ_m (p q : Int) (hv : VR p q) (hp : W4 p) (hq : W4 q) : Meets Tryz.prog 128 [rt p q] [] (rt p q) [] := by
  have cV := validQ_m p q hp hq
  rw [decide_eq_true hv] at cV
  refine fn_of Tryz.func128 rfl (Nat.le_of_ble_eq_true rfl) rfl rfl ?_
  (repeat' (first | refine r_4eabd4 ?_ | (refine is_f 94 ?_; refine r_bb2b31 (cV) ?_) | (refine r_48b933 (fun hb => ?_) (fun hb => ?_) <;> (try (exfalso; omega))) | (refine awp_cond rfl (fun hb => ?_) (fun hb => ?_) <;> (try simp only [Bool.not_eq_true', Bool.not_eq_false', decide_eq_true_eq, decide_eq_false_iff_not] at hb) <;> (try (exfalso; omega)))))
  all_goals exact ret1c [] (Rt.rt p q) rfl rfl rfl rfl (post_none rfl) rfl
theorem N127_w4 {n : Nat} (h : n < N127) : n < B64 ^ 4 := by rw [B64_q]; unfold N127 at h; omega
theorem mul_w4 {a b : Int} (ha : a.natAbs < N127) (hb : b.natAbs < N127) : W4 (a * b) := by
  unfold W4
  rw [Int.natAbs_mul]
  have : a.natAbs * b.natAbs ≤ N127 * N127 := Nat.mul_le_mul (by omega) (by omega)
  refine Nat.lt_of_le_of_lt this ?_
  rw [B64_q]; decide
theorem productQ_m (a b : Int) (ha : a.natAbs < N127) (hb : b.natAbs < N127) : Meets Tryz.prog 130 [wz a, wz b] [] (wz (a * b)) [] := by
  have c := wMulZ_m a b (N127_w4 ha) (N127_w4 hb) (mul_w4 ha hb)
  generalize a * b = z at *
  refine fn_of Tryz.func130 rfl (Nat.le_of_ble_eq_true rfl) rfl rfl ?_
  (repeat' (first | refine r_4eabd4 ?_ | (refine is_f 148 ?_; refine r_bb2b31 (c) ?_) | (refine r_48b933 (fun hb => ?_) (fun hb => ?_) <;> (try (exfalso; omega))) | (refine awp_cond rfl (fun hb => ?_) (fun hb => ?_) <;> (try simp only [Bool.not_eq_true', Bool.not_eq_false', decide_eq_true_eq, decide_eq_false_iff_not] at hb) <;> (try (exfalso; omega)))))
  all_goals exact ret1c [] (Rt.wz _) rfl rfl rfl rfl (post_none rfl) rfl
theorem cmpQ_m (p q r s : Int) (h1 : VR p q) (h2 : VR r s) : Meets Tryz.prog 95 [rt p q, rt r s] [] (.r (.v (.int .i64 (cmpZ (p * s) (r * q))))) [] := by
  have c1 := cleanQ_m p q h1 (N127_w4 h1.2.1) (N127_w4 h1.2.2.1)
  have c2 := cleanQ_m r s h2 (N127_w4 h2.2.1) (N127_w4 h2.2.2.1)
  have m1 := productQ_m p s h1.2.1 h2.2.2.1
  have m2 := productQ_m r q h2.2.1 h1.2.2.1
  have cC := wCompare_m (p * s) (r * q) (mul_w4 h1.2.1 h2.2.2.1) (mul_w4 h2.2.1 h1.2.2.1)
  generalize p * s = x at *
  generalize r * q = y at *
  refine fn_of Tryz.func95 rfl (Nat.le_of_ble_eq_true rfl) rfl rfl ?_
  (repeat' (first | refine r_4eabd4 ?_ | (refine is_f 128 ?_; refine r_bb2b31 (c1) ?_) | (refine is_f 128 ?_; refine r_bb2b31 (c2) ?_) | (refine is_f 130 ?_; refine r_bb2b31 (m1) ?_) | (refine is_f 130 ?_; refine r_bb2b31 (m2) ?_) | (refine is_f 129 ?_; refine r_bb2b31 (cC) ?_) | (refine r_48b933 (fun hb => ?_) (fun hb => ?_) <;> (try (exfalso; omega))) | (refine awp_cond rfl (fun hb => ?_) (fun hb => ?_) <;> (try simp only [Bool.not_eq_true', Bool.not_eq_false', decide_eq_true_eq, decide_eq_false_iff_not] at hb) <;> (try (exfalso; omega)))))
  all_goals exact ret1 [] (.int rfl) rfl rfl rfl
end Go.Proofs.YtibedaeefnjjlaaGreat

/- The program's simplest fraction of an interval: positive. Conditions: ranges. --ext6 -/
namespace Go.Proofs.YtibedaeefnjjlaaGreat
open Go.RowKit Go.Ab Go.Wd
set_option maxRecDepth 100000
set_option linter.unusedVariables false
set_option linter.unusedSimpArgs false

/-- The simplest fraction from a / b to c / d. -/
def posF (a b c d : Nat) : Nat × Nat :=
  if h : b = 0 ∨ d = 0 ∨ a % b = 0 then (a / b, 1)
  else if a / b < c / d then (a / b + 1, 1)
  else (a / b * (posF d (c % d) b (a % b)).1 + (posF d (c % d) b (a % b)).2, (posF d (c % d) b (a % b)).1)
termination_by b + d
decreasing_by all_goals (have h1 := Nat.mod_lt a (show b > 0 by omega); have h2 := Nat.mod_lt c (show d > 0 by omega); omega)
theorem posF_rest {a b c d : Nat} (hb : 0 < b) (hd : 0 < d) (hle : a * d ≤ c * b) (hr : a % b ≠ 0) (hq : ¬ a / b < c / d) : a / b = c / d ∧ d * (a % b) ≤ b * (c % d) ∧ 0 < c % d := by
  have ea := Nat.mod_add_div a b
  have ec := Nat.mod_add_div c d
  have hra := Nat.mod_lt a hb
  have hrc := Nat.mod_lt c hd
  have hge : a / b ≤ c / d := by
    rw [Nat.le_div_iff_mul_le hd]
    have h1 : a / b * d * b ≤ c * b := by
      have : a / b * d * b = b * (a / b) * d := by rw [Nat.mul_comm (a / b * d) b, ← Nat.mul_assoc]
      rw [this]
      exact Nat.le_trans (Nat.mul_le_mul (by omega) (Nat.le_refl d)) hle
    exact Nat.le_of_mul_le_mul_right h1 hb
  have he : a / b = c / d := by omega
  generalize a % b = r at *
  generalize c % d = s at *
  generalize c / d = w at *
  rw [he] at ea
  have h2 : r * d ≤ s * b := by
    rw [← ea, ← ec, Nat.add_mul, Nat.add_mul] at hle
    have : b * w * d = d * w * b := by simp only [Nat.mul_assoc, Nat.mul_comm, Nat.mul_left_comm]
    omega
  refine ⟨he, by rw [Nat.mul_comm d r, Nat.mul_comm b s]; exact h2, ?_⟩
  rcases Nat.eq_zero_or_pos s with h | h
  · subst h
    have : 0 < r * d := Nat.mul_pos (by omega) hd
    omega
  · exact h
theorem posF_le : ∀ (N a b c d : Nat), b + d ≤ N → 0 < b → 0 < d → a * d ≤ c * b → (posF a b c d).1 ≤ a ∧ (posF a b c d).1 ≤ c ∧ (posF a b c d).2 ≤ b ∧ (posF a b c d).2 ≤ d
  | 0, a, b, c, d, hN, hb, hd, _ => by omega
  | N + 1, a, b, c, d, hN, hb, hd, hle => by
    have ea := Nat.mod_add_div a b
    have ec := Nat.mod_add_div c d
    have hra := Nat.mod_lt a hb
    have hrc := Nat.mod_lt c hd
    rw [posF]
    split
    · rename_i h
      have hr : a % b = 0 := by omega
      have h1 : a / b ≤ a := Nat.div_le_self _ _
      have h2 : a / b ≤ c / d := by
        rw [Nat.le_div_iff_mul_le hd]
        have h1 : a / b * d * b ≤ c * b := by
          have : a / b * d * b = b * (a / b) * d := by rw [Nat.mul_comm (a / b * d) b, ← Nat.mul_assoc]
          rw [this]
          exact Nat.le_trans (Nat.mul_le_mul (by omega) (Nat.le_refl d)) hle
        exact Nat.le_of_mul_le_mul_right h1 hb
      have h3 : c / d ≤ c := Nat.div_le_self _ _
      exact ⟨h1, by omega, hb, hd⟩
    · rename_i h
      split
      · rename_i hq
        have h3 : c / d ≤ c := Nat.div_le_self _ _
        have h4 : a / b ≤ b * (a / b) := Nat.le_mul_of_pos_left _ hb
        refine ⟨?_, by omega, hb, hd⟩
        show a / b + 1 ≤ a
        omega
      · rename_i hq
        obtain ⟨he, hi, hs⟩ := posF_rest hb hd hle (by omega) hq
        obtain ⟨i1, i2, i3, i4⟩ := posF_le N d (c % d) b (a % b) (by omega) hs (by omega) hi
        have e1 : a / b * (posF d (c % d) b (a % b)).1 ≤ a / b * b := Nat.mul_le_mul (Nat.le_refl _) i2
        have e2 : a / b * (posF d (c % d) b (a % b)).1 ≤ a / b * d := Nat.mul_le_mul (Nat.le_refl _) i1
        rw [Nat.mul_comm (a / b) b] at e1
        rw [he, Nat.mul_comm (c / d) d, ← he] at e2
        refine ⟨?_, ?_, i2, i1⟩
        · show a / b * (posF d (c % d) b (a % b)).1 + (posF d (c % d) b (a % b)).2 ≤ a
          omega
        · show a / b * (posF d (c % d) b (a % b)).1 + (posF d (c % d) b (a % b)).2 ≤ c
          rw [he] at e2 ⊢
          omega
theorem wdm_m (m n : Nat) (hm : m < B64 ^ 4) (hn : n < B64 ^ 4) (h0 : n ≠ 0) : Meets Tryz.prog 146 [wz (m : Int), wz (n : Int)] [] (.tu [wz ((m / n : Nat) : Int), wz ((m % n : Nat) : Int), .r (.v (.bool true))]) [] := by
  have cD := wDivMod_m (m : Int) (n : Int) (w4_nat hm) (w4_nat hn) (by omega)
  rw [show (m : Int) / (n : Int) = ((m / n : Nat) : Int) by simp, show (m : Int) % (n : Int) = ((m % n : Nat) : Int) by simp] at cD
  exact cD
theorem negQ_m (p q : Int) (hp : W4 p) : Meets Tryz.prog 113 [rt p q] [] (rt (-p) q) [] := by
  have c := wNeg_m p hp
  refine fn_of Tryz.func113 rfl (Nat.le_of_ble_eq_true rfl) rfl rfl ?_
  (repeat' (first | refine r_4eabd4 ?_ | (refine is_f 145 ?_; refine r_bb2b31 (c) ?_) | (refine r_48b933 (fun hb => ?_) (fun hb => ?_) <;> (try (exfalso; omega))) | (refine awp_cond rfl (fun hb => ?_) (fun hb => ?_) <;> (try simp only [Bool.not_eq_true', Bool.not_eq_false', decide_eq_true_eq, decide_eq_false_iff_not] at hb) <;> (try (exfalso; omega)))))
  all_goals exact ret1c [] (Rt.rt _ _) rfl rfl rfl rfl (post_none rfl) rfl
end Go.Proofs.YtibedaeefnjjlaaGreat

/- The program's simplest fraction of an interval: positive. Conditions: ranges. --ext6 -/
namespace Go.Proofs.YtibedaeefnjjlaaGreat
open Go.RowKit Go.Ab Go.Wd
set_option maxRecDepth 100000
set_option linter.unusedVariables false
set_option linter.unusedSimpArgs false

def psA (a b c d w r : Int) : St := ⟨[(2, .pt 0 0), (3, .pt 1 0), (4, .pt 2 0), (5, .pt 3 0), (6, .pt 4 0)], [(0, some (.var 38 (vsA (rtVs a b)))), (1, some (.var 38 (vsA (rtVs c d)))), (2, some (.var 38 (vsA (rtVs 0 0)))), (3, some (.var 36 (vsA (wzVs w)))), (4, some (.var 36 (vsA (wzVs r))))], 5⟩
def psB (a b c d w r v s : Int) : St := ⟨[(2, .pt 0 0), (3, .pt 1 0), (4, .pt 2 0), (5, .pt 3 0), (6, .pt 4 0), (8, .pt 5 0), (9, .pt 6 0)], [(0, some (.var 38 (vsA (rtVs a b)))), (1, some (.var 38 (vsA (rtVs c d)))), (2, some (.var 38 (vsA (rtVs 0 0)))), (3, some (.var 36 (vsA (wzVs w)))), (4, some (.var 36 (vsA (wzVs r)))), (5, some (.var 36 (vsA (wzVs v)))), (6, some (.var 36 (vsA (wzVs s))))], 7⟩
def psC (w n m : Int) : St := ⟨[(4, .pt 0 0), (5, .pt 1 0), (13, .pt 2 0)], [(0, some (.var 38 (vsA (rtVs 0 0)))), (1, some (.var 36 (vsA (wzVs w)))), (2, some (.var 38 (vsA (rtVs n m))))], 3⟩
theorem sgZ_pos {n : Nat} (h : 0 < n) : sgZ (n : Int) = 1 := by unfold sgZ; rw [if_neg (by omega), if_neg (by omega)]
set_option maxHeartbeats 8000000 in
theorem posQ_m : ∀ (N a b c d : Nat), b + d ≤ N → 0 < b → 0 < d → a * d ≤ c * b → a < B64 ^ 4 → b < B64 ^ 4 → c < B64 ^ 4 → d < B64 ^ 4 →
    Meets Tryz.prog 114 [rt (a : Int) (b : Int), rt (c : Int) (d : Int)] [] (rt ((posF a b c d).1 : Int) ((posF a b c d).2 : Int)) []
  | 0, a, b, c, d, hN, hb, hd, _, _, _, _, _ => by omega
  | N + 1, a, b, c, d, hN, hb, hd, hle, hA, hB, hC, hD => by
    have hra := Nat.mod_lt a hb
    have hrc := Nat.mod_lt c hd
    have hW : a / b < B64 ^ 4 := Nat.lt_of_le_of_lt (Nat.div_le_self _ _) hA
    have hV : c / d < B64 ^ 4 := Nat.lt_of_le_of_lt (Nat.div_le_self _ _) hC
    have hR : a % b < B64 ^ 4 := by omega
    have hS : c % d < B64 ^ 4 := by omega
    have cD1 := wdm_m a b hA hB (by omega)
    have cD2 := wdm_m c d hC hD (by omega)
    have cS := wSign_m ((a % b : Nat) : Int) (w4_nat hR)
    have cO := wOf1_m
    have hposle := posF_le (N + 1) a b c d hN hb hd hle
    rw [posF] at hposle ⊢
    by_cases h0 : a % b = 0
    · rw [dif_pos (by omega)]
      clear hposle
      rw [h0] at cD1 cS
      rw [show sgZ ((0 : Nat) : Int) = 0 from rfl] at cS
      generalize a / b = w at *
      refine fn_of Tryz.func114 rfl (Nat.le_of_ble_eq_true rfl) rfl rfl ?_
      (repeat' (first | refine r_4eabd4 ?_ | (refine is_f 146 ?_; refine r_bb2b31 (cD1) ?_) | (refine is_f 112 ?_; refine r_bb2b31 (cS) ?_) | (refine is_f 111 ?_; refine r_bb2b31 (cO) ?_) | (refine r_48b933 (fun hb => ?_) (fun hb => ?_) <;> (try (exfalso; omega))) | (refine awp_cond rfl (fun hb => ?_) (fun hb => ?_) <;> (try simp only [Bool.not_eq_true', Bool.not_eq_false', decide_eq_true_eq, decide_eq_false_iff_not] at hb) <;> (try (exfalso; omega)))))
      all_goals (first | (exfalso; omega) | exact absurd rfl hb | exact ret1c [] (Rt.rt _ _) rfl rfl rfl rfl (post_none rfl) rfl)
    · rw [dif_neg (by omega)] at hposle ⊢
      have hsg : ¬ sgZ ((a % b : Nat) : Int) = 0 := by rw [sgZ_pos (by omega)]; omega
      have cC := wCompare_m ((c / d : Nat) : Int) ((a / b : Nat) : Int) (w4_nat hV) (w4_nat hW)
      by_cases hq : a / b < c / d
      · rw [if_pos hq] at hposle ⊢
        have hcmp : cmpZ ((c / d : Nat) : Int) ((a / b : Nat) : Int) = 1 := by unfold cmpZ; rw [if_neg (by omega), if_pos (by omega)]
        rw [hcmp] at cC
        have hW1 : a / b + 1 < B64 ^ 4 := by have := hposle.1; dsimp only at this; omega
        have cA := wAddZ_m ((a / b : Nat) : Int) 1 (w4_nat hW) wone (by rw [show ((a / b : Nat) : Int) + 1 = ((a / b + 1 : Nat) : Int) by omega]; exact w4_nat hW1)
        rw [show ((a / b : Nat) : Int) + 1 = ((a / b + 1 : Nat) : Int) by omega] at cA
        clear hposle hcmp
        generalize a / b + 1 = w1 at *
        generalize a / b = w at *
        generalize c / d = v at *
        generalize sgZ ((a % b : Nat) : Int) = sg at *
        generalize a % b = r at *
        generalize c % d = s at *
        refine fn_of Tryz.func114 rfl (Nat.le_of_ble_eq_true rfl) rfl rfl ?_
        (repeat' (first | (first | refine awp_halt 4 ?_ | refine awp_haltR 4 ?_) | refine r_ceea32 ?_ | refine r_d3423f ?_ | (refine is_f 146 ?_; refine r_bb2b31 (cD1) ?_) | (refine is_f 112 ?_; refine r_bb2b31 (cS) ?_) | (refine r_48b933 (fun hb => ?_) (fun hb => ?_) <;> (try (exfalso; omega))) | (refine awp_cond rfl (fun hb => ?_) (fun hb => ?_) <;> (try simp only [Bool.not_eq_true', Bool.not_eq_false', decide_eq_true_eq, decide_eq_false_iff_not] at hb) <;> (try (exfalso; omega)))))
        all_goals (first | (exfalso; omega) | skip)
        refine halt ?_
        refine awp_le (T := psA a b c d w r) (by (refine Le.mk [(0,0),(1,1),(2,2),(3,3),(4,4)] [] q_5ec36 q_43730 q_16bb5 q_509a2)) ?_
        (repeat' (first | (first | refine awp_halt 5 ?_ | refine awp_haltR 5 ?_) | refine r_ceea32 ?_ | refine r_d3423f ?_ | (refine is_f 146 ?_; refine r_bb2b31 (cD2) ?_) | (refine r_48b933 (fun hb => ?_) (fun hb => ?_) <;> (try (exfalso; omega))) | (refine awp_cond rfl (fun hb => ?_) (fun hb => ?_) <;> (try simp only [Bool.not_eq_true', Bool.not_eq_false', decide_eq_true_eq, decide_eq_false_iff_not] at hb) <;> (try (exfalso; omega)))))
        refine halt ?_
        refine awp_le (T := psB a b c d w r v s) (by (refine Le.mk [(0,0),(1,1),(2,2),(3,3),(4,4),(5,5),(6,6)] [] q_5ec36 q_43730 q_16bb5 q_509a2)) ?_
        (repeat' (first | refine r_4eabd4 ?_ | (refine is_f 129 ?_; refine r_bb2b31 (cC) ?_) | (refine is_f 111 ?_; refine r_bb2b31 (cO) ?_) | (refine is_f 147 ?_; refine r_bb2b31 (cA) ?_) | (refine r_48b933 (fun hb => ?_) (fun hb => ?_) <;> (try (exfalso; omega))) | (refine awp_cond rfl (fun hb => ?_) (fun hb => ?_) <;> (try simp only [Bool.not_eq_true', Bool.not_eq_false', decide_eq_true_eq, decide_eq_false_iff_not] at hb) <;> (try (exfalso; omega)))))
        all_goals (first | (exfalso; omega) | exact absurd rfl hb | exact ret1c [] (Rt.rt _ _) rfl rfl rfl rfl (post_none rfl) rfl)
      · rw [if_neg hq] at hposle ⊢
        obtain ⟨he, hi, hs⟩ := posF_rest hb hd hle h0 hq
        have hcmp : cmpZ ((c / d : Nat) : Int) ((a / b : Nat) : Int) = 0 := by unfold cmpZ; rw [if_neg (by omega), if_neg (by omega)]
        rw [hcmp] at cC
        have cP := posQ_m N d (c % d) b (a % b) (by omega) hs (by omega) hi hD hS hB hR
        obtain ⟨i1, i2, i3, i4⟩ := posF_le N d (c % d) b (a % b) (by omega) hs (by omega) hi
        generalize (posF d (c % d) b (a % b)).1 = n at *
        generalize (posF d (c % d) b (a % b)).2 = m at *
        dsimp only at hposle
        have hM : a / b * n < B64 ^ 4 := by omega
        have cM := wMulZ_m ((a / b : Nat) : Int) (n : Int) (w4_nat hW) (w4_nat (by omega)) (by rw [← Int.natCast_mul]; exact w4_nat hM)
        have cA := wAddZ_m ((a / b * n : Nat) : Int) (m : Int) (w4_nat hM) (w4_nat (by omega)) (by rw [← Int.natCast_add]; exact w4_nat (by omega))
        rw [← Int.natCast_mul] at cM
        rw [← Int.natCast_add] at cA
        clear hposle hcmp i1 i2 i3 i4 hi
        generalize a / b * n + m = y at *
        generalize a / b * n = x at *
        generalize a / b = w at *
        generalize c / d = v at *
        generalize sgZ ((a % b : Nat) : Int) = sg at *
        generalize a % b = r at *
        generalize c % d = s at *
        refine fn_of Tryz.func114 rfl (Nat.le_of_ble_eq_true rfl) rfl rfl ?_
        (repeat' (first | (first | refine awp_halt 4 ?_ | refine awp_haltR 4 ?_) | refine r_ceea32 ?_ | refine r_d3423f ?_ | (refine is_f 146 ?_; refine r_bb2b31 (cD1) ?_) | (refine is_f 112 ?_; refine r_bb2b31 (cS) ?_) | (refine r_48b933 (fun hb => ?_) (fun hb => ?_) <;> (try (exfalso; omega))) | (refine awp_cond rfl (fun hb => ?_) (fun hb => ?_) <;> (try simp only [Bool.not_eq_true', Bool.not_eq_false', decide_eq_true_eq, decide_eq_false_iff_not] at hb) <;> (try (exfalso; omega)))))
        all_goals (first | (exfalso; omega) | skip)
        refine halt ?_
        refine awp_le (T := psA a b c d w r) (by (refine Le.mk [(0,0),(1,1),(2,2),(3,3),(4,4)] [] q_5ec36 q_43730 q_16bb5 q_509a2)) ?_
        (repeat' (first | (first | refine awp_halt 5 ?_ | refine awp_haltR 5 ?_) | refine r_ceea32 ?_ | refine r_d3423f ?_ | (refine is_f 146 ?_; refine r_bb2b31 (cD2) ?_) | (refine r_48b933 (fun hb => ?_) (fun hb => ?_) <;> (try (exfalso; omega))) | (refine awp_cond rfl (fun hb => ?_) (fun hb => ?_) <;> (try simp only [Bool.not_eq_true', Bool.not_eq_false', decide_eq_true_eq, decide_eq_false_iff_not] at hb) <;> (try (exfalso; omega)))))
        refine halt ?_
        refine awp_le (T := psB a b c d w r v s) (by (refine Le.mk [(0,0),(1,1),(2,2),(3,3),(4,4),(5,5),(6,6)] [] q_5ec36 q_43730 q_16bb5 q_509a2)) ?_
        (repeat' (first | (first | refine awp_halt 9 ?_ | refine awp_haltR 9 ?_) | refine r_ceea32 ?_ | refine r_d3423f ?_ | (refine is_f 129 ?_; refine r_bb2b31 (cC) ?_) | (refine is_f 114 ?_; refine r_bb2b31 (cP) ?_) | (refine r_48b933 (fun hb => ?_) (fun hb => ?_) <;> (try (exfalso; omega))) | (refine awp_cond rfl (fun hb => ?_) (fun hb => ?_) <;> (try simp only [Bool.not_eq_true', Bool.not_eq_false', decide_eq_true_eq, decide_eq_false_iff_not] at hb) <;> (try (exfalso; omega)))))
        all_goals (first | (exfalso; omega) | skip)
        refine halt ?_
        refine awp_le (T := psC w n m) (by (refine Le.mk [(0,2),(1,3),(2,7)] [] q_5ec36 q_43730 q_16bb5 q_509a2)) ?_
        (repeat' (first | refine r_4eabd4 ?_ | (refine is_f 148 ?_; refine r_bb2b31 (cM) ?_) | (refine is_f 147 ?_; refine r_bb2b31 (cA) ?_) | (refine r_48b933 (fun hb => ?_) (fun hb => ?_) <;> (try (exfalso; omega))) | (refine awp_cond rfl (fun hb => ?_) (fun hb => ?_) <;> (try simp only [Bool.not_eq_true', Bool.not_eq_false', decide_eq_true_eq, decide_eq_false_iff_not] at hb) <;> (try (exfalso; omega)))))
        all_goals (first | (exfalso; omega) | exact absurd rfl hb | exact ret1c [] (Rt.rt _ _) rfl rfl rfl rfl (post_none rfl) rfl)
end Go.Proofs.YtibedaeefnjjlaaGreat

/- The program's simplest fraction of an interval: Between. Conditions: valid fractions in order. --ext6 -/
namespace Go.Proofs.YtibedaeefnjjlaaGreat
open Go.RowKit Go.Ab Go.Wd
set_option maxRecDepth 100000
set_option linter.unusedVariables false
set_option linter.unusedSimpArgs false

/-- The simplest fraction from a / b to c / d, of any signs. -/
def btw (a b c d : Int) : Int × Int :=
  if c < 0 then (-((posF c.natAbs d.natAbs a.natAbs b.natAbs).1 : Int), ((posF c.natAbs d.natAbs a.natAbs b.natAbs).2 : Int))
  else if a ≤ 0 then (0, 1)
  else (((posF a.natAbs b.natAbs c.natAbs d.natAbs).1 : Int), ((posF a.natAbs b.natAbs c.natAbs d.natAbs).2 : Int))
theorem cmpZ_le {x y : Int} (h : x ≤ y) : cmpZ x y ≤ 0 := by unfold cmpZ; split <;> omega
theorem VR.w4n {p q : Int} (h : VR p q) : W4 p := N127_w4 h.2.1
theorem VR.w4d {p q : Int} (h : VR p q) : W4 q := N127_w4 h.2.2.1
set_option maxHeartbeats 4000000 in
theorem betweenQ_m (a b c d : Int) (h1 : VR a b) (h2 : VR c d) (hle : a * d ≤ c * b) : Meets Tryz.prog 76 [rt a b, rt c d] [] (.tu [rt (btw a b c d).1 (btw a b c d).2, .r (.v (.bool true))]) [] := by
  have v1 := validQ_m a b h1.w4n h1.w4d
  have v2 := validQ_m c d h2.w4n h2.w4d
  rw [decide_eq_true h1] at v1
  rw [decide_eq_true h2] at v2
  have cC := cmpQ_m a b c d h1 h2
  have hcmp := cmpZ_le hle
  have s1 := wSign_m c h2.w4n
  have s2 := wSign_m a h1.w4n
  have hb0 := h1.1
  have hd0 := h2.1
  generalize cmpZ (a * d) (c * b) = e at *
  unfold btw
  by_cases hc : c < 0
  · rw [if_pos hc]
    have hsg : sgZ c = -1 := by unfold sgZ; rw [if_pos hc]
    rw [hsg] at s1
    have ha : a < 0 := by
      rcases Int.lt_or_le a 0 with h | h
      · exact h
      · have k1 : 0 ≤ a * d := Int.mul_nonneg h (by omega)
        have k2 : c * b < 0 := Int.mul_neg_of_neg_of_pos hc hb0
        omega
    have n1 := negQ_m c d h2.w4n
    have n2 := negQ_m a b h1.w4n
    obtain ⟨a', rfl⟩ : ∃ n : Nat, a = -(n : Int) := ⟨a.natAbs, by omega⟩
    obtain ⟨c', rfl⟩ : ∃ n : Nat, c = -(n : Int) := ⟨c.natAbs, by omega⟩
    obtain ⟨b', rfl⟩ : ∃ n : Nat, b = (n : Int) := ⟨b.natAbs, by omega⟩
    obtain ⟨d', rfl⟩ : ∃ n : Nat, d = (n : Int) := ⟨d.natAbs, by omega⟩
    simp only [Int.natAbs_neg, Int.natAbs_natCast] at *
    rw [Int.neg_neg] at n1 n2
    have hle2 : c' * b' ≤ a' * d' := by
      rw [Int.neg_mul, Int.neg_mul] at hle
      have : ((c' * b' : Nat) : Int) ≤ ((a' * d' : Nat) : Int) := by rw [Int.natCast_mul, Int.natCast_mul]; omega
      omega
    have wa : a' < B64 ^ 4 := by have := h1.w4n; unfold W4 at this; simpa using this
    have wb : b' < B64 ^ 4 := by have := h1.w4d; unfold W4 at this; simpa using this
    have wc : c' < B64 ^ 4 := by have := h2.w4n; unfold W4 at this; simpa using this
    have wd' : d' < B64 ^ 4 := by have := h2.w4d; unfold W4 at this; simpa using this
    have cP := posQ_m (d' + b') c' d' a' b' (Nat.le_refl _) (by omega) (by omega) hle2 wc wd' wa wb
    obtain ⟨i1, _, _, _⟩ := posF_le (d' + b') c' d' a' b' (Nat.le_refl _) (by omega) (by omega) hle2
    generalize (posF c' d' a' b').1 = n at *
    generalize (posF c' d' a' b').2 = m at *
    have n3 := negQ_m (n : Int) (m : Int) (w4_nat (by omega))
    refine fn_of Tryz.func76 rfl (Nat.le_of_ble_eq_true rfl) rfl rfl ?_
    (repeat' (first | refine r_4eabd4 ?_ | (refine is_f 94 ?_; refine r_bb2b31 (v1) ?_) | (refine is_f 94 ?_; refine r_bb2b31 (v2) ?_) | (refine is_f 95 ?_; refine r_bb2b31 (cC) ?_) | (refine is_f 112 ?_; refine r_bb2b31 (s1) ?_) | (refine is_f 113 ?_; refine r_bb2b31 (n1) ?_) | (refine is_f 113 ?_; refine r_bb2b31 (n2) ?_) | (refine is_f 113 ?_; refine r_bb2b31 (n3) ?_) | (refine is_f 114 ?_; refine r_bb2b31 (cP) ?_) | (refine r_48b933 (fun hb => ?_) (fun hb => ?_) <;> (try (exfalso; omega))) | (refine awp_cond rfl (fun hb => ?_) (fun hb => ?_) <;> (try simp only [Bool.not_eq_true', Bool.not_eq_false', decide_eq_true_eq, decide_eq_false_iff_not] at hb) <;> (try (exfalso; omega)))))
    all_goals (first | (exfalso; omega) | exact absurd rfl hb | exact ret2c [] (Rt.rt _ _) (.bool rfl) rfl rfl rfl rfl rfl (post_none rfl) rfl)
  · rw [if_neg hc]
    have hsg : ¬ sgZ c < 0 := by unfold sgZ; rw [if_neg hc]; split <;> omega
    by_cases ha : a ≤ 0
    · rw [if_pos ha]
      have hsg2 : sgZ a ≤ 0 := by unfold sgZ; split <;> omega
      have cO := ofQ_m 0 (by constructor <;> decide)
      generalize sgZ c = sc at *
      generalize sgZ a = sa at *
      refine fn_of Tryz.func76 rfl (Nat.le_of_ble_eq_true rfl) rfl rfl ?_
      (repeat' (first | refine r_4eabd4 ?_ | (refine is_f 94 ?_; refine r_bb2b31 (v1) ?_) | (refine is_f 94 ?_; refine r_bb2b31 (v2) ?_) | (refine is_f 95 ?_; refine r_bb2b31 (cC) ?_) | (refine is_f 112 ?_; refine r_bb2b31 (s1) ?_) | (refine is_f 112 ?_; refine r_bb2b31 (s2) ?_) | (refine is_f 75 ?_; refine r_bb2b31 (cO) ?_) | (refine r_48b933 (fun hb => ?_) (fun hb => ?_) <;> (try (exfalso; omega))) | (refine awp_cond rfl (fun hb => ?_) (fun hb => ?_) <;> (try simp only [Bool.not_eq_true', Bool.not_eq_false', decide_eq_true_eq, decide_eq_false_iff_not] at hb) <;> (try (exfalso; omega)))))
      all_goals (first | (exfalso; omega) | exact absurd rfl hb | exact ret2c [] (Rt.rt _ _) (.bool rfl) rfl rfl rfl rfl rfl (post_none rfl) rfl)
    · rw [if_neg ha]
      have hsg2 : ¬ sgZ a ≤ 0 := by unfold sgZ; rw [if_neg (by omega), if_neg (by omega)]; omega
      obtain ⟨a', rfl⟩ : ∃ n : Nat, a = (n : Int) := ⟨a.natAbs, by omega⟩
      obtain ⟨c', rfl⟩ : ∃ n : Nat, c = (n : Int) := ⟨c.natAbs, by omega⟩
      obtain ⟨b', rfl⟩ : ∃ n : Nat, b = (n : Int) := ⟨b.natAbs, by omega⟩
      obtain ⟨d', rfl⟩ : ∃ n : Nat, d = (n : Int) := ⟨d.natAbs, by omega⟩
      simp only [Int.natAbs_natCast] at *
      have hle2 : a' * d' ≤ c' * b' := by
        have : ((a' * d' : Nat) : Int) ≤ ((c' * b' : Nat) : Int) := by rw [Int.natCast_mul, Int.natCast_mul]; exact hle
        omega
      have wa : a' < B64 ^ 4 := by have := h1.w4n; unfold W4 at this; simpa using this
      have wb : b' < B64 ^ 4 := by have := h1.w4d; unfold W4 at this; simpa using this
      have wc : c' < B64 ^ 4 := by have := h2.w4n; unfold W4 at this; simpa using this
      have wd' : d' < B64 ^ 4 := by have := h2.w4d; unfold W4 at this; simpa using this
      have cP := posQ_m (b' + d') a' b' c' d' (Nat.le_refl _) (by omega) (by omega) hle2 wa wb wc wd'
      generalize sgZ (c' : Int) = sc at *
      generalize sgZ (a' : Int) = sa at *
      generalize (posF a' b' c' d').1 = n at *
      generalize (posF a' b' c' d').2 = m at *
      refine fn_of Tryz.func76 rfl (Nat.le_of_ble_eq_true rfl) rfl rfl ?_
      (repeat' (first | refine r_4eabd4 ?_ | (refine is_f 94 ?_; refine r_bb2b31 (v1) ?_) | (refine is_f 94 ?_; refine r_bb2b31 (v2) ?_) | (refine is_f 95 ?_; refine r_bb2b31 (cC) ?_) | (refine is_f 112 ?_; refine r_bb2b31 (s1) ?_) | (refine is_f 112 ?_; refine r_bb2b31 (s2) ?_) | (refine is_f 114 ?_; refine r_bb2b31 (cP) ?_) | (refine r_48b933 (fun hb => ?_) (fun hb => ?_) <;> (try (exfalso; omega))) | (refine awp_cond rfl (fun hb => ?_) (fun hb => ?_) <;> (try simp only [Bool.not_eq_true', Bool.not_eq_false', decide_eq_true_eq, decide_eq_false_iff_not] at hb) <;> (try (exfalso; omega)))))
      all_goals (first | (exfalso; omega) | exact absurd rfl hb | exact ret2c [] (Rt.rt _ _) (.bool rfl) rfl rfl rfl rfl rfl (post_none rfl) rfl)
end Go.Proofs.YtibedaeefnjjlaaGreat

/- The program's cones: Start, Valid. Conditions: valid ones. --ext6 -/
namespace Go.Proofs.YtibedaeefnjjlaaGreat
open Go.RowKit Go.Ab Go.Wd
set_option maxRecDepth 100000
set_option linter.unusedVariables false
set_option linter.unusedSimpArgs false

/-- A cone as the programs lay it. -/
def cn (o : Bool) (p q r s : Int) : AV := .ag (vsA (cnVs o p q r s))
theorem Rt.cn {H : Nat → Option Blk} {L : Nat} {G : List Nat} (o : Bool) (p q r s : Int) : Rt H L G (Go.Proofs.YtibedaeefnjjlaaGreat.cn o p q r s) (Go.Proofs.YtibedaeefnjjlaaGreat.cn o p q r s) [] := by
  refine .ag _ _ _ ?_
  have : vsA (cnVs o p q r s) = ((cnVs o p q r s).map RV.v).map AV.r := by unfold vsA; rw [List.map_map]; rfl
  rw [this]; exact Rt.agR _
/-- A cone that is not open. -/
def VC (p q r s : Int) : Prop := VR p q ∧ VR r s ∧ p * s ≤ r * q
theorem w4_zero : W4 0 := by unfold W4; rw [B64_q]; decide
set_option maxHeartbeats 8000000 in
theorem coneStart_m : Meets Tryz.prog 93 [] [] (cn true 0 0 0 0) [] := by
  refine fn_of Tryz.func93 rfl (Nat.le_of_ble_eq_true rfl) rfl rfl ?_
  (repeat' (first | refine r_4eabd4 ?_ | (refine r_48b933 (fun hb => ?_) (fun hb => ?_) <;> (try (exfalso; omega))) | (refine awp_cond rfl (fun hb => ?_) (fun hb => ?_) <;> (try simp only [Bool.not_eq_true', Bool.not_eq_false', decide_eq_true_eq, decide_eq_false_iff_not] at hb) <;> (try (exfalso; omega)))))
  all_goals exact ret1c [] (Rt.cn _ _ _ _ _) rfl rfl rfl rfl (post_none rfl) rfl
section
variable {env : Nat → AV} {H : Nat → Option Blk} {d : Option Tmp} {ty : TypeId} {pos : String} {af : Array Edge} {g : Option (Nat × Bool)} {u : TypeId} {x y : Operand}
theorem p_eqcn0 (hx : evA env x = cn true 0 0 0 0) (hy : evA env y = cn true 0 0 0 0) : ReadOk Tryz.prog ⟨d, .binOp .eql 40 x y u, ty, pos, af, g⟩ env H [] (.r (.v (.bool true))) :=
  p_eqR (vs := cnVs true 0 0 0 0) (us := cnVs true 0 0 0 0) (by kernel_rfl) (eqr_cn (d := 9995) w4_zero w4_zero w4_zero w4_zero w4_zero w4_zero w4_zero w4_zero) hx hy
end
set_option maxHeartbeats 8000000 in
theorem coneValid0_m : Meets Tryz.prog 64 [cn true 0 0 0 0] [] (.r (.v (.bool true))) [] := by
  refine fn_of Tryz.func64 rfl (Nat.le_of_ble_eq_true rfl) rfl rfl ?_
  (repeat' (first | (refine is_bin ?_; refine is_b_eql ?_; refine w_read rfl q_85eb5 (p_eqcn0 rfl rfl) ?_) | refine r_4eabd4 ?_ | (refine is_f 93 ?_; refine r_bb2b31 (coneStart_m) ?_) | (refine r_48b933 (fun hb => ?_) (fun hb => ?_) <;> (try (exfalso; omega))) | (refine awp_cond rfl (fun hb => ?_) (fun hb => ?_) <;> (try simp only [Bool.not_eq_true', Bool.not_eq_false', decide_eq_true_eq, decide_eq_false_iff_not] at hb) <;> (try (exfalso; omega)))))
  all_goals exact ret1 [] (.bool rfl) rfl rfl rfl
set_option maxHeartbeats 8000000 in
theorem coneValid_m (p q r s : Int) (h : VC p q r s) : Meets Tryz.prog 64 [cn false p q r s] [] (.r (.v (.bool true))) [] := by
  obtain ⟨h1, h2, h3⟩ := h
  have v1 := validQ_m p q h1.w4n h1.w4d
  have v2 := validQ_m r s h2.w4n h2.w4d
  rw [decide_eq_true h1] at v1
  rw [decide_eq_true h2] at v2
  have cC := cmpQ_m p q r s h1 h2
  have hcmp := cmpZ_le h3
  generalize cmpZ (p * s) (r * q) = e at *
  refine fn_of Tryz.func64 rfl (Nat.le_of_ble_eq_true rfl) rfl rfl ?_
  (repeat' (first | refine r_4eabd4 ?_ | (refine is_f 94 ?_; refine r_bb2b31 (v1) ?_) | (refine is_f 94 ?_; refine r_bb2b31 (v2) ?_) | (refine is_f 95 ?_; refine r_bb2b31 (cC) ?_) | (refine r_48b933 (fun hb => ?_) (fun hb => ?_) <;> (try (exfalso; omega))) | (refine awp_cond rfl (fun hb => ?_) (fun hb => ?_) <;> (try simp only [Bool.not_eq_true', Bool.not_eq_false', decide_eq_true_eq, decide_eq_false_iff_not] at hb) <;> (try (exfalso; omega)))))
  all_goals (first | (exfalso; omega) | exact ret1 [] (.bool rfl) rfl rfl rfl)
set_option maxHeartbeats 8000000 in
theorem coneChoose0_m : Meets Tryz.prog 39 [cn true 0 0 0 0] [] (rt 0 1) [] := by
  have cO := ofQ_m 0 (by constructor <;> decide)
  refine fn_of Tryz.func39 rfl (Nat.le_of_ble_eq_true rfl) rfl rfl ?_
  (repeat' (first | refine r_4eabd4 ?_ | (refine is_f 64 ?_; refine r_bb2b31 (coneValid0_m) ?_) | (refine is_f 75 ?_; refine r_bb2b31 (cO) ?_) | (refine r_48b933 (fun hb => ?_) (fun hb => ?_) <;> (try (exfalso; omega))) | (refine awp_cond rfl (fun hb => ?_) (fun hb => ?_) <;> (try simp only [Bool.not_eq_true', Bool.not_eq_false', decide_eq_true_eq, decide_eq_false_iff_not] at hb) <;> (try (exfalso; omega)))))
  all_goals exact ret1c [] (Rt.rt _ _) rfl rfl rfl rfl (post_none rfl) rfl
set_option maxHeartbeats 8000000 in
theorem coneChoose_m (p q r s : Int) (h : VC p q r s) : Meets Tryz.prog 39 [cn false p q r s] [] (rt (btw p q r s).1 (btw p q r s).2) [] := by
  have cV := coneValid_m p q r s h
  have cB := betweenQ_m p q r s h.1 h.2.1 h.2.2
  refine fn_of Tryz.func39 rfl (Nat.le_of_ble_eq_true rfl) rfl rfl ?_
  (repeat' (first | refine r_4eabd4 ?_ | (refine is_f 64 ?_; refine r_bb2b31 (cV) ?_) | (refine is_f 76 ?_; refine r_bb2b31 (cB) ?_) | (refine r_48b933 (fun hb => ?_) (fun hb => ?_) <;> (try (exfalso; omega))) | (refine awp_cond rfl (fun hb => ?_) (fun hb => ?_) <;> (try simp only [Bool.not_eq_true', Bool.not_eq_false', decide_eq_true_eq, decide_eq_false_iff_not] at hb) <;> (try (exfalso; omega)))))
  all_goals exact ret1c [] (Rt.rt _ _) rfl rfl rfl rfl (post_none rfl) rfl
end Go.Proofs.YtibedaeefnjjlaaGreat

/- The program's cones: Meet. Conditions: valid ones. --ext6 -/
namespace Go.Proofs.YtibedaeefnjjlaaGreat
open Go.RowKit Go.Ab Go.Wd
set_option maxRecDepth 100000
set_option linter.unusedVariables false
set_option linter.unusedSimpArgs false

/-- The greater lower end, the less upper end. -/
def mLo (p q p' q' : Int) : Int × Int := if p * q' < p' * q then (p', q') else (p, q)
def mHi (r s r' s' : Int) : Int × Int := if r' * s < r * s' then (r', s') else (r, s)
theorem mLo_VR {p q p' q' : Int} (h : VR p q) (h' : VR p' q') : VR (mLo p q p' q').1 (mLo p q p' q').2 := by unfold mLo; split <;> assumption
theorem mHi_VR {p q p' q' : Int} (h : VR p q) (h' : VR p' q') : VR (mHi p q p' q').1 (mHi p q p' q').2 := by unfold mHi; split <;> assumption
theorem cmpZ_gt {x y : Int} : 0 < cmpZ x y ↔ y < x := by unfold cmpZ; split <;> (try split) <;> constructor <;> intro h <;> omega
theorem cmpZ_lt {x y : Int} : cmpZ x y < 0 ↔ x < y := by unfold cmpZ; split <;> (try split) <;> constructor <;> intro h <;> omega
set_option maxHeartbeats 16000000 in
theorem coneMeet0l_m (o : Bool) (p q r s : Int) (cV : Meets Tryz.prog 64 [cn o p q r s] [] (.r (.v (.bool true))) []) : Meets Tryz.prog 72 [cn true 0 0 0 0, cn o p q r s] [] (.tu [cn o p q r s, .r (.v (.bool true))]) [] := by
  refine fn_of Tryz.func72 rfl (Nat.le_of_ble_eq_true rfl) rfl rfl ?_
  (repeat' (first | refine r_4eabd4 ?_ | (refine is_f 64 ?_; refine r_bb2b31 (coneValid0_m) ?_) | (refine is_f 64 ?_; refine r_bb2b31 (cV) ?_) | (refine r_48b933 (fun hb => ?_) (fun hb => ?_) <;> (try (exfalso; omega))) | (refine awp_cond rfl (fun hb => ?_) (fun hb => ?_) <;> (try simp only [Bool.not_eq_true', Bool.not_eq_false', decide_eq_true_eq, decide_eq_false_iff_not] at hb) <;> (try (exfalso; omega)))))
  all_goals (first | (exfalso; omega) | exact absurd rfl hb | exact ret2c [] (Rt.cn _ _ _ _ _) (.bool rfl) rfl rfl rfl rfl rfl (post_none rfl) rfl)
set_option maxHeartbeats 16000000 in
theorem coneMeet0r_m (p q r s : Int) (h : VC p q r s) : Meets Tryz.prog 72 [cn false p q r s, cn true 0 0 0 0] [] (.tu [cn false p q r s, .r (.v (.bool true))]) [] := by
  have cV := coneValid_m p q r s h
  refine fn_of Tryz.func72 rfl (Nat.le_of_ble_eq_true rfl) rfl rfl ?_
  (repeat' (first | refine r_4eabd4 ?_ | (refine is_f 64 ?_; refine r_bb2b31 (cV) ?_) | (refine is_f 64 ?_; refine r_bb2b31 (coneValid0_m) ?_) | (refine r_48b933 (fun hb => ?_) (fun hb => ?_) <;> (try (exfalso; omega))) | (refine awp_cond rfl (fun hb => ?_) (fun hb => ?_) <;> (try simp only [Bool.not_eq_true', Bool.not_eq_false', decide_eq_true_eq, decide_eq_false_iff_not] at hb) <;> (try (exfalso; omega)))))
  all_goals (first | (exfalso; omega) | exact absurd rfl hb | exact ret2c [] (Rt.cn _ _ _ _ _) (.bool rfl) rfl rfl rfl rfl rfl (post_none rfl) rfl)
set_option maxHeartbeats 16000000 in
theorem coneMeet_m (p q r s p' q' r' s' : Int) (h : VC p q r s) (h' : VC p' q' r' s') : Meets Tryz.prog 72 [cn false p q r s, cn false p' q' r' s'] []
    (if (mLo p q p' q').1 * (mHi r s r' s').2 ≤ (mHi r s r' s').1 * (mLo p q p' q').2 then .tu [cn false (mLo p q p' q').1 (mLo p q p' q').2 (mHi r s r' s').1 (mHi r s r' s').2, .r (.v (.bool true))] else .tu [cn false 0 0 0 0, .r (.v (.bool false))]) [] := by
  have v1 := coneValid_m p q r s h
  have v2 := coneValid_m p' q' r' s' h'
  have c1 := cmpQ_m p' q' p q h'.1 h.1
  have c2 := cmpQ_m r' s' r s h'.2.1 h.2.1
  have c3 := cmpQ_m (mLo p q p' q').1 (mLo p q p' q').2 (mHi r s r' s').1 (mHi r s r' s').2 (mLo_VR h.1 h'.1) (mHi_VR h.2.1 h'.2.1)
  have k1 := @cmpZ_gt (p' * q) (p * q')
  have k2 := @cmpZ_lt (r' * s) (r * s')
  have k3 := @cmpZ_gt ((mLo p q p' q').1 * (mHi r s r' s').2) ((mHi r s r' s').1 * (mLo p q p' q').2)
  generalize cmpZ (p' * q) (p * q') = e1 at *
  generalize cmpZ (r' * s) (r * s') = e2 at *
  generalize cmpZ ((mLo p q p' q').1 * (mHi r s r' s').2) ((mHi r s r' s').1 * (mLo p q p' q').2) = e3 at *
  clear h h'
  by_cases h1 : p * q' < p' * q <;> by_cases h2 : r' * s < r * s'
  · have d1 : mLo p q p' q' = (p', q') := by unfold mLo; rw [if_pos h1]
    have d2 : mHi r s r' s' = (r', s') := by unfold mHi; rw [if_pos h2]
    rw [d1, d2] at c3 k3 ⊢
    dsimp only at c3 k3 ⊢
    have k1 : 0 < e1 := k1.2 h1
    have k2 : e2 < 0 := k2.2 h2
    clear d1 d2
    by_cases h3 : p' * s' ≤ r' * q'
    · have k3 : ¬ 0 < e3 := fun h => by have := k3.1 h; omega
      rw [if_pos h3]
      clear h1 h2 h3
      refine fn_of Tryz.func72 rfl (Nat.le_of_ble_eq_true rfl) rfl rfl ?_
      (repeat' (first | refine r_4eabd4 ?_ | (refine is_f 64 ?_; refine r_bb2b31 (v1) ?_) | (refine is_f 64 ?_; refine r_bb2b31 (v2) ?_) | (refine is_f 95 ?_; refine r_bb2b31 (c1) ?_) | (refine is_f 95 ?_; refine r_bb2b31 (c2) ?_) | (refine is_f 95 ?_; refine r_bb2b31 (c3) ?_) | (refine r_48b933 (fun hb => ?_) (fun hb => ?_) <;> (try (exfalso; omega))) | (refine awp_cond rfl (fun hb => ?_) (fun hb => ?_) <;> (try simp only [Bool.not_eq_true', Bool.not_eq_false', decide_eq_true_eq, decide_eq_false_iff_not] at hb) <;> (try (exfalso; omega)))))
      all_goals (first | (exfalso; omega) | exact absurd rfl hb | exact ret2c [] (Rt.cn _ _ _ _ _) (.bool rfl) rfl rfl rfl rfl rfl (post_none rfl) rfl)
    · have k3 : 0 < e3 := k3.2 (by omega)
      rw [if_neg h3]
      clear h1 h2 h3
      refine fn_of Tryz.func72 rfl (Nat.le_of_ble_eq_true rfl) rfl rfl ?_
      (repeat' (first | refine r_4eabd4 ?_ | (refine is_f 64 ?_; refine r_bb2b31 (v1) ?_) | (refine is_f 64 ?_; refine r_bb2b31 (v2) ?_) | (refine is_f 95 ?_; refine r_bb2b31 (c1) ?_) | (refine is_f 95 ?_; refine r_bb2b31 (c2) ?_) | (refine is_f 95 ?_; refine r_bb2b31 (c3) ?_) | (refine r_48b933 (fun hb => ?_) (fun hb => ?_) <;> (try (exfalso; omega))) | (refine awp_cond rfl (fun hb => ?_) (fun hb => ?_) <;> (try simp only [Bool.not_eq_true', Bool.not_eq_false', decide_eq_true_eq, decide_eq_false_iff_not] at hb) <;> (try (exfalso; omega)))))
      all_goals (first | (exfalso; omega) | exact absurd rfl hb | exact ret2c [] (Rt.cn _ _ _ _ _) (.bool rfl) rfl rfl rfl rfl rfl (post_none rfl) rfl)
  · have d1 : mLo p q p' q' = (p', q') := by unfold mLo; rw [if_pos h1]
    have d2 : mHi r s r' s' = (r, s) := by unfold mHi; rw [if_neg h2]
    rw [d1, d2] at c3 k3 ⊢
    dsimp only at c3 k3 ⊢
    have k1 : 0 < e1 := k1.2 h1
    have k2 : ¬ e2 < 0 := fun h => h2 (k2.1 h)
    clear d1 d2
    by_cases h3 : p' * s ≤ r * q'
    · have k3 : ¬ 0 < e3 := fun h => by have := k3.1 h; omega
      rw [if_pos h3]
      clear h1 h2 h3
      refine fn_of Tryz.func72 rfl (Nat.le_of_ble_eq_true rfl) rfl rfl ?_
      (repeat' (first | refine r_4eabd4 ?_ | (refine is_f 64 ?_; refine r_bb2b31 (v1) ?_) | (refine is_f 64 ?_; refine r_bb2b31 (v2) ?_) | (refine is_f 95 ?_; refine r_bb2b31 (c1) ?_) | (refine is_f 95 ?_; refine r_bb2b31 (c2) ?_) | (refine is_f 95 ?_; refine r_bb2b31 (c3) ?_) | (refine r_48b933 (fun hb => ?_) (fun hb => ?_) <;> (try (exfalso; omega))) | (refine awp_cond rfl (fun hb => ?_) (fun hb => ?_) <;> (try simp only [Bool.not_eq_true', Bool.not_eq_false', decide_eq_true_eq, decide_eq_false_iff_not] at hb) <;> (try (exfalso; omega)))))
      all_goals (first | (exfalso; omega) | exact absurd rfl hb | exact ret2c [] (Rt.cn _ _ _ _ _) (.bool rfl) rfl rfl rfl rfl rfl (post_none rfl) rfl)
    · have k3 : 0 < e3 := k3.2 (by omega)
      rw [if_neg h3]
      clear h1 h2 h3
      refine fn_of Tryz.func72 rfl (Nat.le_of_ble_eq_true rfl) rfl rfl ?_
      (repeat' (first | refine r_4eabd4 ?_ | (refine is_f 64 ?_; refine r_bb2b31 (v1) ?_) | (refine is_f 64 ?_; refine r_bb2b31 (v2) ?_) | (refine is_f 95 ?_; refine r_bb2b31 (c1) ?_) | (refine is_f 95 ?_; refine r_bb2b31 (c2) ?_) | (refine is_f 95 ?_; refine r_bb2b31 (c3) ?_) | (refine r_48b933 (fun hb => ?_) (fun hb => ?_) <;> (try (exfalso; omega))) | (refine awp_cond rfl (fun hb => ?_) (fun hb => ?_) <;> (try simp only [Bool.not_eq_true', Bool.not_eq_false', decide_eq_true_eq, decide_eq_false_iff_not] at hb) <;> (try (exfalso; omega)))))
      all_goals (first | (exfalso; omega) | exact absurd rfl hb | exact ret2c [] (Rt.cn _ _ _ _ _) (.bool rfl) rfl rfl rfl rfl rfl (post_none rfl) rfl)
  · have d1 : mLo p q p' q' = (p, q) := by unfold mLo; rw [if_neg h1]
    have d2 : mHi r s r' s' = (r', s') := by unfold mHi; rw [if_pos h2]
    rw [d1, d2] at c3 k3 ⊢
    dsimp only at c3 k3 ⊢
    have k1 : ¬ 0 < e1 := fun h => h1 (k1.1 h)
    have k2 : e2 < 0 := k2.2 h2
    clear d1 d2
    by_cases h3 : p * s' ≤ r' * q
    · have k3 : ¬ 0 < e3 := fun h => by have := k3.1 h; omega
      rw [if_pos h3]
      clear h1 h2 h3
      refine fn_of Tryz.func72 rfl (Nat.le_of_ble_eq_true rfl) rfl rfl ?_
      (repeat' (first | refine r_4eabd4 ?_ | (refine is_f 64 ?_; refine r_bb2b31 (v1) ?_) | (refine is_f 64 ?_; refine r_bb2b31 (v2) ?_) | (refine is_f 95 ?_; refine r_bb2b31 (c1) ?_) | (refine is_f 95 ?_; refine r_bb2b31 (c2) ?_) | (refine is_f 95 ?_; refine r_bb2b31 (c3) ?_) | (refine r_48b933 (fun hb => ?_) (fun hb => ?_) <;> (try (exfalso; omega))) | (refine awp_cond rfl (fun hb => ?_) (fun hb => ?_) <;> (try simp only [Bool.not_eq_true', Bool.not_eq_false', decide_eq_true_eq, decide_eq_false_iff_not] at hb) <;> (try (exfalso; omega)))))
      all_goals (first | (exfalso; omega) | exact absurd rfl hb | exact ret2c [] (Rt.cn _ _ _ _ _) (.bool rfl) rfl rfl rfl rfl rfl (post_none rfl) rfl)
    · have k3 : 0 < e3 := k3.2 (by omega)
      rw [if_neg h3]
      clear h1 h2 h3
      refine fn_of Tryz.func72 rfl (Nat.le_of_ble_eq_true rfl) rfl rfl ?_
      (repeat' (first | refine r_4eabd4 ?_ | (refine is_f 64 ?_; refine r_bb2b31 (v1) ?_) | (refine is_f 64 ?_; refine r_bb2b31 (v2) ?_) | (refine is_f 95 ?_; refine r_bb2b31 (c1) ?_) | (refine is_f 95 ?_; refine r_bb2b31 (c2) ?_) | (refine is_f 95 ?_; refine r_bb2b31 (c3) ?_) | (refine r_48b933 (fun hb => ?_) (fun hb => ?_) <;> (try (exfalso; omega))) | (refine awp_cond rfl (fun hb => ?_) (fun hb => ?_) <;> (try simp only [Bool.not_eq_true', Bool.not_eq_false', decide_eq_true_eq, decide_eq_false_iff_not] at hb) <;> (try (exfalso; omega)))))
      all_goals (first | (exfalso; omega) | exact absurd rfl hb | exact ret2c [] (Rt.cn _ _ _ _ _) (.bool rfl) rfl rfl rfl rfl rfl (post_none rfl) rfl)
  · have d1 : mLo p q p' q' = (p, q) := by unfold mLo; rw [if_neg h1]
    have d2 : mHi r s r' s' = (r, s) := by unfold mHi; rw [if_neg h2]
    rw [d1, d2] at c3 k3 ⊢
    dsimp only at c3 k3 ⊢
    have k1 : ¬ 0 < e1 := fun h => h1 (k1.1 h)
    have k2 : ¬ e2 < 0 := fun h => h2 (k2.1 h)
    clear d1 d2
    by_cases h3 : p * s ≤ r * q
    · have k3 : ¬ 0 < e3 := fun h => by have := k3.1 h; omega
      rw [if_pos h3]
      clear h1 h2 h3
      refine fn_of Tryz.func72 rfl (Nat.le_of_ble_eq_true rfl) rfl rfl ?_
      (repeat' (first | refine r_4eabd4 ?_ | (refine is_f 64 ?_; refine r_bb2b31 (v1) ?_) | (refine is_f 64 ?_; refine r_bb2b31 (v2) ?_) | (refine is_f 95 ?_; refine r_bb2b31 (c1) ?_) | (refine is_f 95 ?_; refine r_bb2b31 (c2) ?_) | (refine is_f 95 ?_; refine r_bb2b31 (c3) ?_) | (refine r_48b933 (fun hb => ?_) (fun hb => ?_) <;> (try (exfalso; omega))) | (refine awp_cond rfl (fun hb => ?_) (fun hb => ?_) <;> (try simp only [Bool.not_eq_true', Bool.not_eq_false', decide_eq_true_eq, decide_eq_false_iff_not] at hb) <;> (try (exfalso; omega)))))
      all_goals (first | (exfalso; omega) | exact absurd rfl hb | exact ret2c [] (Rt.cn _ _ _ _ _) (.bool rfl) rfl rfl rfl rfl rfl (post_none rfl) rfl)
    · have k3 : 0 < e3 := k3.2 (by omega)
      rw [if_neg h3]
      clear h1 h2 h3
      refine fn_of Tryz.func72 rfl (Nat.le_of_ble_eq_true rfl) rfl rfl ?_
      (repeat' (first | refine r_4eabd4 ?_ | (refine is_f 64 ?_; refine r_bb2b31 (v1) ?_) | (refine is_f 64 ?_; refine r_bb2b31 (v2) ?_) | (refine is_f 95 ?_; refine r_bb2b31 (c1) ?_) | (refine is_f 95 ?_; refine r_bb2b31 (c2) ?_) | (refine is_f 95 ?_; refine r_bb2b31 (c3) ?_) | (refine r_48b933 (fun hb => ?_) (fun hb => ?_) <;> (try (exfalso; omega))) | (refine awp_cond rfl (fun hb => ?_) (fun hb => ?_) <;> (try simp only [Bool.not_eq_true', Bool.not_eq_false', decide_eq_true_eq, decide_eq_false_iff_not] at hb) <;> (try (exfalso; omega)))))
      all_goals (first | (exfalso; omega) | exact absurd rfl hb | exact ret2c [] (Rt.cn _ _ _ _ _) (.bool rfl) rfl rfl rfl rfl rfl (post_none rfl) rfl)
end Go.Proofs.YtibedaeefnjjlaaGreat

/- Grouping: the order of pieces. Conditions: valid cones. --ext6 -/
namespace Go.Proofs.YtibedaeefnjjlaaGreat
open Go.RowKit Go.Ab Go.Wd
set_option maxRecDepth 100000
set_option linter.unusedVariables false
set_option linter.unusedSimpArgs false

theorem isNaNI_m (x : Int) : Meets Tryz.prog 99 [.r (.v (.int .i64 x))] [] (.r (.v (.bool false))) [] := by
  refine fn_of Tryz.func99 rfl (Nat.le_of_ble_eq_true rfl) rfl rfl ?_
  (repeat' (first | refine r_4eabd4 ?_ | (refine r_48b933 (fun hb => ?_) (fun hb => ?_) <;> (try (exfalso; omega))) | (refine awp_cond rfl (fun hb => ?_) (fun hb => ?_) <;> (try simp only [Bool.not_eq_true', Bool.not_eq_false', decide_eq_true_eq, decide_eq_false_iff_not] at hb) <;> (try (exfalso; omega)))))
  all_goals (first | (exfalso; omega) | exact ret1 [] (.bool rfl) rfl rfl rfl)
theorem isNaNL_m (x : Int) : Meets Tryz.prog 98 [.r (.v (.int .i64 x))] [] (.r (.v (.bool false))) [] := by
  refine fn_of Tryz.func98 rfl (Nat.le_of_ble_eq_true rfl) rfl rfl ?_
  (repeat' (first | refine r_4eabd4 ?_ | (refine r_48b933 (fun hb => ?_) (fun hb => ?_) <;> (try (exfalso; omega))) | (refine awp_cond rfl (fun hb => ?_) (fun hb => ?_) <;> (try simp only [Bool.not_eq_true', Bool.not_eq_false', decide_eq_true_eq, decide_eq_false_iff_not] at hb) <;> (try (exfalso; omega)))))
  all_goals (first | (exfalso; omega) | exact ret1 [] (.bool rfl) rfl rfl rfl)
theorem cmpI_m (x y : Int) : Meets Tryz.prog 71 [.r (.v (.int .i64 x)), .r (.v (.int .i64 y))] [] (.r (.v (.int .i64 (cmpZ x y)))) [] := by
  have c1 : x < y → (-1 : Int) = cmpZ x y := fun h => by unfold cmpZ; rw [if_pos h]
  have c2 : y < x → (1 : Int) = cmpZ x y := fun h => by unfold cmpZ; rw [if_neg (by omega), if_pos h]
  have c3 : ¬ x < y → ¬ y < x → (0 : Int) = cmpZ x y := fun h g => by unfold cmpZ; rw [if_neg h, if_neg g]
  generalize cmpZ x y = z at *
  refine fn_of Tryz.func71 rfl (Nat.le_of_ble_eq_true rfl) rfl rfl ?_
  (repeat' (first | refine r_4eabd4 ?_ | (refine is_f 99 ?_; refine r_bb2b31 (isNaNI_m x) ?_) | (refine is_f 99 ?_; refine r_bb2b31 (isNaNI_m y) ?_) | (refine r_48b933 (fun hb => ?_) (fun hb => ?_) <;> (try (exfalso; omega))) | (refine awp_cond rfl (fun hb => ?_) (fun hb => ?_) <;> (try simp only [Bool.not_eq_true', Bool.not_eq_false', decide_eq_true_eq, decide_eq_false_iff_not] at hb) <;> (try (exfalso; omega)))))
  all_goals (first | (exfalso; omega) | exact ret1 [] (.int (c1 (by omega))) rfl rfl rfl | exact ret1 [] (.int (c2 (by omega))) rfl rfl rfl | exact ret1 [] (.int (c3 (by omega) (by omega))) rfl rfl rfl)
theorem cmpL_m (x y : Int) : Meets Tryz.prog 69 [.r (.v (.int .i64 x)), .r (.v (.int .i64 y))] [] (.r (.v (.int .i64 (cmpZ x y)))) [] := by
  have c1 : x < y → (-1 : Int) = cmpZ x y := fun h => by unfold cmpZ; rw [if_pos h]
  have c2 : y < x → (1 : Int) = cmpZ x y := fun h => by unfold cmpZ; rw [if_neg (by omega), if_pos h]
  have c3 : ¬ x < y → ¬ y < x → (0 : Int) = cmpZ x y := fun h g => by unfold cmpZ; rw [if_neg h, if_neg g]
  generalize cmpZ x y = z at *
  refine fn_of Tryz.func69 rfl (Nat.le_of_ble_eq_true rfl) rfl rfl ?_
  (repeat' (first | refine r_4eabd4 ?_ | (refine is_f 98 ?_; refine r_bb2b31 (isNaNL_m x) ?_) | (refine is_f 98 ?_; refine r_bb2b31 (isNaNL_m y) ?_) | (refine r_48b933 (fun hb => ?_) (fun hb => ?_) <;> (try (exfalso; omega))) | (refine awp_cond rfl (fun hb => ?_) (fun hb => ?_) <;> (try simp only [Bool.not_eq_true', Bool.not_eq_false', decide_eq_true_eq, decide_eq_false_iff_not] at hb) <;> (try (exfalso; omega)))))
  all_goals (first | (exfalso; omega) | exact ret1 [] (.int (c1 (by omega))) rfl rfl rfl | exact ret1 [] (.int (c2 (by omega))) rfl rfl rfl | exact ret1 [] (.int (c3 (by omega) (by omega))) rfl rfl rfl)

/-- A cone: open, or with two ends. -/
structure Cn where
  o : Bool
  p : Int
  q : Int
  r : Int
  s : Int
  deriving DecidableEq, Inhabited
/-- A piece. -/
structure Pc where
  ix : Int
  ct : Int
  ky : Int
  c : Cn
  deriving DecidableEq, Inhabited
def Cn.A (c : Cn) : AV := cn c.o c.p c.q c.r c.s
def Cn.ok (c : Cn) : Prop := (c.o = true ∧ c.p = 0 ∧ c.q = 0 ∧ c.r = 0 ∧ c.s = 0) ∨ (c.o = false ∧ VC c.p c.q c.r c.s)
def pcVs (x : Pc) : List Value := .int .i64 x.ix :: .int .i64 x.ct :: .int .i64 x.ky :: cnVs x.c.o x.c.p x.c.q x.c.r x.c.s
def pcA (x : Pc) : AV := .ag (vsA (pcVs x))
def cmpC (a b : Cn) : Int := if a.o then (if b.o then 0 else -1) else if b.o then 1 else orL [cmpZ (a.p * b.q) (b.p * a.q), cmpZ (a.r * b.s) (b.r * a.s)]
def cmpP (a b : Pc) : Int := orL [cmpZ a.ky b.ky, cmpC a.c b.c, cmpZ a.ix b.ix]

set_option maxHeartbeats 2000000 in
theorem cones11_m (p q r s p' q' r' s' : Int) : Meets Tryz.prog 70 [cn true p q r s, cn true p' q' r' s'] [] (.r (.v (.int .i64 0))) [] := by
  refine fn_of Tryz.func70 rfl (Nat.le_of_ble_eq_true rfl) rfl rfl ?_
  (repeat' (first | refine r_4eabd4 ?_ | (refine r_48b933 (fun hb => ?_) (fun hb => ?_) <;> (try (exfalso; omega))) | (refine awp_cond rfl (fun hb => ?_) (fun hb => ?_) <;> (try simp only [Bool.not_eq_true', Bool.not_eq_false', decide_eq_true_eq, decide_eq_false_iff_not] at hb) <;> (try (exfalso; omega)))))
  all_goals (first | (exfalso; omega) | exact absurd rfl hb | exact ret1 [] (.int rfl) rfl rfl rfl)
set_option maxHeartbeats 2000000 in
theorem cones10_m (p q r s p' q' r' s' : Int) : Meets Tryz.prog 70 [cn true p q r s, cn false p' q' r' s'] [] (.r (.v (.int .i64 (-1)))) [] := by
  refine fn_of Tryz.func70 rfl (Nat.le_of_ble_eq_true rfl) rfl rfl ?_
  (repeat' (first | refine r_4eabd4 ?_ | (refine r_48b933 (fun hb => ?_) (fun hb => ?_) <;> (try (exfalso; omega))) | (refine awp_cond rfl (fun hb => ?_) (fun hb => ?_) <;> (try simp only [Bool.not_eq_true', Bool.not_eq_false', decide_eq_true_eq, decide_eq_false_iff_not] at hb) <;> (try (exfalso; omega)))))
  all_goals (first | (exfalso; omega) | exact absurd rfl hb | exact ret1 [] (.int rfl) rfl rfl rfl)
set_option maxHeartbeats 2000000 in
theorem cones01_m (p q r s p' q' r' s' : Int) : Meets Tryz.prog 70 [cn false p q r s, cn true p' q' r' s'] [] (.r (.v (.int .i64 1))) [] := by
  refine fn_of Tryz.func70 rfl (Nat.le_of_ble_eq_true rfl) rfl rfl ?_
  (repeat' (first | refine r_4eabd4 ?_ | (refine r_48b933 (fun hb => ?_) (fun hb => ?_) <;> (try (exfalso; omega))) | (refine awp_cond rfl (fun hb => ?_) (fun hb => ?_) <;> (try simp only [Bool.not_eq_true', Bool.not_eq_false', decide_eq_true_eq, decide_eq_false_iff_not] at hb) <;> (try (exfalso; omega)))))
  all_goals (first | (exfalso; omega) | exact absurd rfl hb | exact ret1 [] (.int rfl) rfl rfl rfl)
set_option maxHeartbeats 4000000 in
theorem cones00_m (p q r s p' q' r' s' : Int) (h : VC p q r s) (h' : VC p' q' r' s') : Meets Tryz.prog 70 [cn false p q r s, cn false p' q' r' s'] [] (.r (.v (.int .i64 (orL [cmpZ (p * q') (p' * q), cmpZ (r * s') (r' * s)])))) [] := by
  have c1 := cmpQ_m p q p' q' h.1 h'.1
  have c2 := cmpQ_m r s r' s' h.2.1 h'.2.1
  generalize cmpZ (p * q') (p' * q) = z1 at *
  generalize cmpZ (r * s') (r' * s) = z2 at *
  have cO := cmpOr_m [z1, z2] (by simp)
  generalize orL [z1, z2] = r at *
  have hE : [[.v (.int .i64 z1)], [.v (.int .i64 z2)]] = nums .i64 [z1, z2] := rfl
  refine fn_of Tryz.func70 rfl (Nat.le_of_ble_eq_true rfl) rfl rfl ?_
  (repeat' (first | refine r_4eabd4 ?_ | (refine is_f 95 ?_; refine r_bb2b31 (c1) ?_) | (refine is_f 95 ?_; refine r_bb2b31 (c2) ?_) | (refine is_f 68 ?_; refine r_bede7e (cO) ?_) | (refine r_48b933 (fun hb => ?_) (fun hb => ?_) <;> (try (exfalso; omega))) | (refine awp_cond rfl (fun hb => ?_) (fun hb => ?_) <;> (try simp only [Bool.not_eq_true', Bool.not_eq_false', decide_eq_true_eq, decide_eq_false_iff_not] at hb) <;> (try (exfalso; omega)))))
  all_goals (first | (exfalso; omega) | exact absurd rfl hb | exact ret1 [] (.int rfl) rfl rfl rfl)
theorem cones_m (a b : Cn) (ha : a.ok) (hb : b.ok) : Meets Tryz.prog 70 [a.A, b.A] [] (.r (.v (.int .i64 (cmpC a b)))) [] := by
  obtain ⟨o, p, q, r, s⟩ := a
  obtain ⟨o', p', q', r', s'⟩ := b
  unfold cmpC Cn.A
  rcases ha with ⟨h1, h2, h3, h4, h5⟩ | ⟨h1, h2⟩ <;> rcases hb with ⟨g1, g2, g3, g4, g5⟩ | ⟨g1, g2⟩ <;> dsimp only at * <;> subst h1 g1
  · exact cones11_m p q r s p' q' r' s'
  · exact cones10_m p q r s p' q' r' s'
  · exact cones01_m p q r s p' q' r' s'
  · exact cones00_m p q r s p' q' r' s' h2 g2
set_option maxHeartbeats 4000000 in
theorem compareP_m (a b : Pc) (ha : a.c.ok) (hb : b.c.ok) : Meets Tryz.prog 36 [pcA a, pcA b] [] (.r (.v (.int .i64 (cmpP a b)))) [] := by
  have c1 := cmpL_m a.ky b.ky
  have c2 := cones_m a.c b.c ha hb
  have c3 := cmpI_m a.ix b.ix
  unfold cmpP
  generalize cmpZ a.ky b.ky = z1 at *
  generalize cmpC a.c b.c = z2 at *
  generalize cmpZ a.ix b.ix = z3 at *
  have cO := cmpOr_m [z1, z2, z3] (by simp)
  generalize orL [z1, z2, z3] = r at *
  have hE : [[.v (.int .i64 z1)], [.v (.int .i64 z2)], [.v (.int .i64 z3)]] = nums .i64 [z1, z2, z3] := rfl
  clear ha hb
  refine fn_of Tryz.func36 rfl (Nat.le_of_ble_eq_true rfl) rfl rfl ?_
  (repeat' (first | refine r_4eabd4 ?_ | (refine is_f 69 ?_; refine r_bb2b31 (c1) ?_) | (refine is_f 70 ?_; refine r_bb2b31 (c2) ?_) | (refine is_f 71 ?_; refine r_bb2b31 (c3) ?_) | (refine is_f 68 ?_; refine r_bede7e (cO) ?_) | (refine r_48b933 (fun hb => ?_) (fun hb => ?_) <;> (try (exfalso; omega))) | (refine awp_cond rfl (fun hb => ?_) (fun hb => ?_) <;> (try simp only [Bool.not_eq_true', Bool.not_eq_false', decide_eq_true_eq, decide_eq_false_iff_not] at hb) <;> (try (exfalso; omega)))))
  all_goals (first | (exfalso; omega) | exact ret1 [] (.int rfl) rfl rfl rfl)
end Go.Proofs.YtibedaeefnjjlaaGreat
