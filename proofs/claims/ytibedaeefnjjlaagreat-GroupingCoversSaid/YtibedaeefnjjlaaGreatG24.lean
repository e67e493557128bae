/- Texts of the second layer in one: Wg1. -/
import Derived.Test.YtibedaeefnjjlaaGreatG23
import Derived.Shelf.Spec.BitsCarry
/- The program's words: cmp.Compare, cmp.Or, compare, sub. Conditions: ranges. --ext6 -/
namespace Go.Proofs.YtibedaeefnjjlaaGreat
open Go.RowKit Go.Ab Go.Wd
set_option maxRecDepth 100000
set_option linter.unusedVariables false
set_option linter.unusedSimpArgs false

theorem B64_q : B64 ^ 4 = 115792089237316195423570985008687907853269984665640564039457584007913129639936 := by decide
theorem isNaN_m (x : Nat) : Meets Tryz.prog 165 [.r (.v (.int .u64 (x : Int)))] [] (.r (.v (.bool false))) [] := by
  refine fn_of Tryz.func165 rfl (Nat.le_of_ble_eq_true rfl) rfl rfl ?_
  (repeat' (first | refine r_4eabd4 ?_ | (refine r_48b933 (fun hb => ?_) (fun hb => ?_) <;> (try (exfalso; omega))) | (refine awp_cond rfl (fun hb => ?_) (fun hb => ?_) <;> (try simp only [Bool.not_eq_true', Bool.not_eq_false', decide_eq_true_eq, decide_eq_false_iff_not] at hb) <;> (try (exfalso; omega)))))
  all_goals (first | (exfalso; omega) | exact ret1 [] (.bool rfl) rfl rfl rfl)
theorem cmpU_m (x y : Nat) : Meets Tryz.prog 160 [.r (.v (.int .u64 (x : Int))), .r (.v (.int .u64 (y : Int)))] [] (.r (.v (.int .i64 (cmpN x y)))) [] := by
  have c1 : x < y → (-1 : Int) = cmpN x y := fun h => by unfold cmpN; rw [if_pos h]
  have c2 : y < x → (1 : Int) = cmpN x y := fun h => by unfold cmpN; rw [if_neg (by omega), if_pos h]
  have c3 : ¬ x < y → ¬ y < x → (0 : Int) = cmpN x y := fun h g => by unfold cmpN; rw [if_neg h, if_neg g]
  generalize cmpN x y = z at *
  refine fn_of Tryz.func160 rfl (Nat.le_of_ble_eq_true rfl) rfl rfl ?_
  (repeat' (first | refine r_4eabd4 ?_ | (refine is_f 165 ?_; refine r_bb2b31 (isNaN_m x) ?_) | (refine is_f 165 ?_; refine r_bb2b31 (isNaN_m y) ?_) | (refine r_48b933 (fun hb => ?_) (fun hb => ?_) <;> (try (exfalso; omega))) | (refine awp_cond rfl (fun hb => ?_) (fun hb => ?_) <;> (try simp only [Bool.not_eq_true', Bool.not_eq_false', decide_eq_true_eq, decide_eq_false_iff_not] at hb) <;> (try (exfalso; omega)))))
  all_goals (first | (exfalso; omega) | exact ret1 [] (.int (c1 (by omega))) rfl rfl rfl | exact ret1 [] (.int (c2 (by omega))) rfl rfl rfl | exact ret1 [] (.int (c3 (by omega) (by omega))) rfl rfl rfl)
def orL : List Int → Int
  | [] => 0
  | a :: l => if a ≠ 0 then a else orL l
theorem orL_drop (l : List Int) (i : Nat) (h : i < l.length) : orL (l.drop i) = if l.getD i 0 ≠ 0 then l.getD i 0 else orL (l.drop (i + 1)) := by
  rw [List.drop_eq_getElem_cons h, orL]
  simp [h]
def orS (l : List Int) (i : Nat) : St := ⟨[(3, .r (.v (.int .i64 0))), (6, .r (.sl 1 (nums .i64 l))), (7, .r (.v (.int .i64 (l.length : Int)))), (8, .r (.v (.int .i64 (i : Int))))], [], 0⟩
theorem cmpOr_m (l : List Int) (hl : l.length ≤ 1000) : Meets Tryz.prog 68 [.r (.sl 1 (nums .i64 l))] [] (.r (.v (.int .i64 (orL l)))) [] := by
  refine fn_of Tryz.func68 rfl (Nat.le_of_ble_eq_true rfl) rfl rfl ?_
  have hll : (nums .i64 l).length = l.length := nums_len _ l
  (repeat' (first | refine r_4eabd4 ?_ | (refine r_48b933 (fun hb => ?_) (fun hb => ?_) <;> (try (exfalso; omega))) | (refine awp_cond rfl (fun hb => ?_) (fun hb => ?_) <;> (try simp only [Bool.not_eq_true', Bool.not_eq_false', decide_eq_true_eq, decide_eq_false_iff_not] at hb) <;> (try (exfalso; omega)))))
  refine awp_loop' (orS l) (fun i => i ≤ l.length ∧ orL (l.drop i) = orL l) (fun i => l.length - i) 0 ⟨Nat.zero_le _, rfl⟩ (by (refine Le.mk [] [] q_5ec36 q_43730 q_16bb5 q_509a2)) fun i hx => ?_
  obtain ⟨hi, hv⟩ := hx
  rcases Nat.lt_or_ge i l.length with h | h
  · rw [orL_drop l i h] at hv
    have e1 : ¬ l.getD i 0 = 0 → l.getD i 0 = orL l := fun h => by rw [if_pos h] at hv; exact hv
    have e2 : ¬ ¬ l.getD i 0 = 0 → orL (l.drop (i + 1)) = orL l := fun h => by rw [if_neg h] at hv; exact hv
    have hw : IntKind.i64.wrap ((i : Int) + 1) = ((i + 1 : Nat) : Int) := nat_incI i (by omega)
    (repeat' (first | refine r_4eabd4 ?_ | (refine r_48b933 (fun hb => ?_) (fun hb => ?_) <;> (try (exfalso; omega))) | (refine awp_cond rfl (fun hb => ?_) (fun hb => ?_) <;> (try simp only [Bool.not_eq_true', Bool.not_eq_false', decide_eq_true_eq, decide_eq_false_iff_not] at hb) <;> (try (exfalso; omega)))))
    all_goals (first | (exfalso; omega) | exact ret1 [] (.int (e1 hb)) rfl rfl rfl | exact ⟨i + 1, ⟨h, e2 hb⟩, by (refine Le.mk [] [] q_5ec36 q_43730 q_16bb5 q_509a2), by show l.length - (i + 1) < l.length - i; omega⟩)
  · have : l.drop i = [] := List.drop_eq_nil_of_le h
    rw [this, orL] at hv
    rw [← hv]
    (repeat' (first | refine r_4eabd4 ?_ | (refine r_48b933 (fun hb => ?_) (fun hb => ?_) <;> (try (exfalso; omega))) | (refine awp_cond rfl (fun hb => ?_) (fun hb => ?_) <;> (try simp only [Bool.not_eq_true', Bool.not_eq_false', decide_eq_true_eq, decide_eq_false_iff_not] at hb) <;> (try (exfalso; omega)))))
    all_goals (first | (exfalso; omega) | exact ret1 [] (.int rfl) rfl rfl rfl)
theorem cmp4 (m n : Nat) (hm : m < B64 ^ 4) (hn : n < B64 ^ 4) : orL [cmpN (m / B64 / B64 / B64 % B64) (n / B64 / B64 / B64 % B64), cmpN (m / B64 / B64 % B64) (n / B64 / B64 % B64), cmpN (m / B64 % B64) (n / B64 % B64), cmpN (m % B64) (n % B64)] = cmpN m n := by
  have hm4 : m / B64 / B64 / B64 / B64 = 0 := by rw [B64_q] at hm; unfold B64; omega
  have hn4 : n / B64 / B64 / B64 / B64 = 0 := by rw [B64_q] at hn; unfold B64; omega
  have key : ∀ a b x y : Nat, x < B64 → y < B64 → cmpN (x + B64 * a) (y + B64 * b) = if cmpN a b ≠ 0 then cmpN a b else cmpN x y := by
    intro a b x y hx hy
    have n1 : (-1 : Int) ≠ 0 := by decide
    have n2 : (1 : Int) ≠ 0 := by decide
    have n3 : ¬ (0 : Int) ≠ 0 := by simp
    clear hm hn hm4 hn4
    unfold B64 at *
    unfold cmpN
    rcases Nat.lt_trichotomy a b with h | h | h
    · have g : x + 18446744073709551616 * a < y + 18446744073709551616 * b := by omega
      rw [if_pos g, if_pos h, if_pos n1]
    · subst h
      rw [if_neg (Nat.lt_irrefl a), if_neg (Nat.lt_irrefl a), if_neg n3]
      rcases Nat.lt_trichotomy x y with h | h | h
      · have g : x + 18446744073709551616 * a < y + 18446744073709551616 * a := by omega
        rw [if_pos g, if_pos h]
      · subst h; rw [if_neg (Nat.lt_irrefl _), if_neg (Nat.lt_irrefl _), if_neg (Nat.lt_irrefl _), if_neg (Nat.lt_irrefl _)]
      · have g : y + 18446744073709551616 * a < x + 18446744073709551616 * a := by omega
        rw [if_neg (Nat.lt_asymm g), if_pos g, if_neg (Nat.lt_asymm h), if_pos h]
    · have g : y + 18446744073709551616 * b < x + 18446744073709551616 * a := by omega
      rw [if_neg (Nat.lt_asymm g), if_pos g, if_neg (Nat.lt_asymm h), if_pos h, if_pos n2]
  have hp : ∀ x : Nat, x % B64 < B64 := fun x => Nat.mod_lt _ (by decide)
  have e : ∀ x : Nat, x = x % B64 + B64 * (x / B64) := fun x => (Nat.mod_add_div x B64).symm
  have k1 := key (m / B64) (n / B64) (m % B64) (n % B64) (hp _) (hp _)
  have k2 := key (m / B64 / B64) (n / B64 / B64) (m / B64 % B64) (n / B64 % B64) (hp _) (hp _)
  have k3 := key (m / B64 / B64 / B64) (n / B64 / B64 / B64) (m / B64 / B64 % B64) (n / B64 / B64 % B64) (hp _) (hp _)
  have k4 := key (m / B64 / B64 / B64 / B64) (n / B64 / B64 / B64 / B64) (m / B64 / B64 / B64 % B64) (n / B64 / B64 / B64 % B64) (hp _) (hp _)
  rw [← e, ← e] at k1 k2 k3 k4
  rw [hm4, hn4] at k4
  have k5 : cmpN 0 0 = 0 := by decide
  rw [k5, if_neg (by simp)] at k4
  simp only [orL, ← k4]
  rw [k1, k2, k3]
  clear k1 k2 k3 k4 key e
  generalize cmpN (m / B64 / B64 / B64) (n / B64 / B64 / B64) = z3
  generalize cmpN (m / B64 / B64 % B64) (n / B64 / B64 % B64) = z2
  generalize cmpN (m / B64 % B64) (n / B64 % B64) = z1
  generalize cmpN (m % B64) (n % B64) = z0
  by_cases h3 : z3 = 0 <;> by_cases h2 : z2 = 0 <;> by_cases h1 : z1 = 0 <;> by_cases h0 : z0 = 0 <;> simp [h3, h2, h1, h0]
theorem cmpW_m (m n : Nat) (hm : m < B64 ^ 4) (hn : n < B64 ^ 4) : Meets Tryz.prog 150 [w4 m, w4 n] [] (.r (.v (.int .i64 (cmpN m n)))) [] := by
  rw [← cmp4 m n hm hn]
  refine fn_of Tryz.func150 rfl (Nat.le_of_ble_eq_true rfl) rfl rfl ?_
  have c3 := cmpU_m (m / B64 / B64 / B64 % B64) (n / B64 / B64 / B64 % B64)
  have c2 := cmpU_m (m / B64 / B64 % B64) (n / B64 / B64 % B64)
  have c1 := cmpU_m (m / B64 % B64) (n / B64 % B64)
  have c0 := cmpU_m (m % B64) (n % B64)
  unfold w4
  generalize m / B64 / B64 / B64 % B64 = x3 at *
  generalize n / B64 / B64 / B64 % B64 = y3 at *
  generalize m / B64 / B64 % B64 = x2 at *
  generalize n / B64 / B64 % B64 = y2 at *
  generalize m / B64 % B64 = x1 at *
  generalize n / B64 % B64 = y1 at *
  generalize m % B64 = x0 at *
  generalize n % B64 = y0 at *
  generalize cmpN x3 y3 = z3 at *
  generalize cmpN x2 y2 = z2 at *
  generalize cmpN x1 y1 = z1 at *
  generalize cmpN x0 y0 = z0 at *
  have cO := cmpOr_m [z3, z2, z1, z0] (by simp)
  generalize orL [z3, z2, z1, z0] = r at *
  have hE : [[.v (.int .i64 z3)], [.v (.int .i64 z2)], [.v (.int .i64 z1)], [.v (.int .i64 z0)]] = nums .i64 [z3, z2, z1, z0] := rfl
  (repeat' (first | refine r_4eabd4 ?_ | (refine is_f 160 ?_; refine r_bb2b31 (c3) ?_) | (refine is_f 160 ?_; refine r_bb2b31 (c2) ?_) | (refine is_f 160 ?_; refine r_bb2b31 (c1) ?_) | (refine is_f 160 ?_; refine r_bb2b31 (c0) ?_) | (refine is_f 68 ?_; refine r_bede7e (cO) ?_) | (refine r_48b933 (fun hb => ?_) (fun hb => ?_) <;> (try (exfalso; omega))) | (refine awp_cond rfl (fun hb => ?_) (fun hb => ?_) <;> (try simp only [Bool.not_eq_true', Bool.not_eq_false', decide_eq_true_eq, decide_eq_false_iff_not] at hb) <;> (try (exfalso; omega)))))
  all_goals (first | (exfalso; omega) | exact ret1 [] (.int rfl) rfl rfl rfl)
end Go.Proofs.YtibedaeefnjjlaaGreat
