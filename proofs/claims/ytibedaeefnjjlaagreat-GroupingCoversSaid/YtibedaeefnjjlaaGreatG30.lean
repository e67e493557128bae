/- Texts of the second layer in one: Wg7. -/
import Derived.Test.YtibedaeefnjjlaaGreatG24
/- The program's whole numbers with a sign: Valid, clean, signed, Of, Sign, Neg, Compare. Conditions: ranges. --ext6 -/
namespace Go.Proofs.YtibedaeefnjjlaaGreat
open Go.RowKit Go.Ab Go.Wd
set_option maxRecDepth 100000
set_option linter.unusedVariables false
set_option linter.unusedSimpArgs false

/-- The number of a sign and a magnitude. -/
def zb (b : Bool) (n : Nat) : Int := if b then -(n : Int) else (n : Int)
/-- A number as the programs lay it. -/
def wz (z : Int) : AV := wd (decide (z < 0)) z.natAbs
def cmpZ (x y : Int) : Int := if x < y then -1 else if y < x then 1 else 0
def sgZ (x : Int) : Int := if x < 0 then -1 else if x = 0 then 0 else 1
theorem wz_zb (b : Bool) (n : Nat) : wz (zb b n) = wd (b && decide (n ≠ 0)) n := by
  unfold wz zb
  cases b with
  | false =>
    have : decide ((n : Int) < 0) = false := decide_eq_false (by omega)
    simp [this]
  | true =>
    by_cases h : n = 0
    · subst h; rfl
    · have : decide (-(n : Int) < 0) = true := decide_eq_true (by omega)
      have h2 : decide (n ≠ 0) = true := decide_eq_true h
      rw [if_pos rfl, this, h2, Int.natAbs_neg, Int.natAbs_natCast]; rfl
theorem wz_nat (n : Nat) : wz (n : Int) = wd false n := by
  have := wz_zb false n
  simpa [zb] using this
theorem wz_neg (n : Nat) (h : n ≠ 0) : wz (-(n : Int)) = wd true n := by
  have := wz_zb true n
  simpa [zb, h] using this
theorem Rt.wz {H : Nat → Option Blk} {L : Nat} {G : List Nat} (z : Int) : Rt H L G (Go.Proofs.YtibedaeefnjjlaaGreat.wz z) (Go.Proofs.YtibedaeefnjjlaaGreat.wz z) [] := Rt.wd _ _
theorem eqw4 (n : Nat) (hn : n < B64 ^ 4) : eqA [.r (.v (.int .u64 ((n % B64 : Nat) : Int))), .r (.v (.int .u64 ((n / B64 % B64 : Nat) : Int))), .r (.v (.int .u64 ((n / B64 / B64 % B64 : Nat) : Int))), .r (.v (.int .u64 ((n / B64 / B64 / B64 % B64 : Nat) : Int)))] [.r (.v (.int .u64 0)), .r (.v (.int .u64 0)), .r (.v (.int .u64 0)), .r (.v (.int .u64 0))] = decide (n = 0) := by
  simp only [eqA]
  by_cases h : n = 0
  · subst h; decide
  · rw [decide_eq_false h]
    rw [B64_q] at hn
    have : ¬ ((n % B64 : Nat) = 0 ∧ (n / B64 % B64 : Nat) = 0 ∧ (n / B64 / B64 % B64 : Nat) = 0 ∧ (n / B64 / B64 / B64 % B64 : Nat) = 0) := by
      unfold B64; omega
    generalize n % B64 = a at *
    generalize n / B64 % B64 = b at *
    generalize n / B64 / B64 % B64 = c at *
    generalize n / B64 / B64 / B64 % B64 = d at *
    by_cases h1 : a = 0 <;> by_cases h2 : b = 0 <;> by_cases h3 : c = 0 <;> by_cases h4 : d = 0 <;> simp_all <;> omega
def vW (b : Bool) (n : Nat) : Bool := !b || decide (n ≠ 0)
theorem validG_m (b : Bool) (n : Nat) (hn : n < B64 ^ 4) : Meets Tryz.prog 125 [wd b n] [] (.r (.v (.bool (vW b n)))) [] := by
  cases b with
  | false =>
    refine fn_of Tryz.func125 rfl (Nat.le_of_ble_eq_true rfl) rfl rfl ?_
    (repeat' (first | refine r_4eabd4 ?_ | (refine r_48b933 (fun hb => ?_) (fun hb => ?_) <;> (try (exfalso; omega))) | (refine awp_cond rfl (fun hb => ?_) (fun hb => ?_) <;> (try simp only [Bool.not_eq_true', Bool.not_eq_false', decide_eq_true_eq, decide_eq_false_iff_not] at hb) <;> (try (exfalso; omega)))))
    all_goals exact ret1 [] (.bool rfl) rfl rfl rfl
  | true =>
    have hE := eqw4 n hn
    have hT : n = 0 → false = vW true n := fun h => by subst h; rfl
    have hF : n ≠ 0 → true = vW true n := fun h => by unfold vW; rw [decide_eq_true h]; rfl
    refine fn_of Tryz.func125 rfl (Nat.le_of_ble_eq_true rfl) rfl rfl ?_
    (repeat' (first | refine r_4eabd4 ?_ | (refine r_48b933 (fun hb => ?_) (fun hb => ?_) <;> (try (exfalso; omega))) | (refine awp_cond rfl (fun hb => ?_) (fun hb => ?_) <;> (try simp only [Bool.not_eq_true', Bool.not_eq_false', decide_eq_true_eq, decide_eq_false_iff_not] at hb) <;> (try (exfalso; omega)))))
    · have hb' : ¬ decide (n = 0) = true := fun h => hb (hE.trans h)
      exact ret1 [] (.bool (hF fun h => hb' (decide_eq_true h))) rfl rfl rfl
    · have hb' : ¬ ¬ decide (n = 0) = true := fun h => hb fun h' => h (hE.symm.trans h')
      exact ret1 [] (.bool (hT (of_decide_eq_true (Classical.not_not.1 hb')))) rfl rfl rfl
theorem cleanG_m (b : Bool) (n : Nat) (hn : n < B64 ^ 4) : Meets Tryz.prog 144 [wd b n] [] (wz (zb b n)) [] := by
  have cV := validG_m b n hn
  rw [wz_zb]
  unfold vW at cV
  by_cases h : b = true ∧ n = 0
  · obtain ⟨rfl, rfl⟩ := h
    refine fn_of Tryz.func144 rfl (Nat.le_of_ble_eq_true rfl) rfl rfl ?_
    (repeat' (first | refine r_4eabd4 ?_ | (refine is_f 125 ?_; refine r_bb2b31 (cV) ?_) | (refine r_48b933 (fun hb => ?_) (fun hb => ?_) <;> (try (exfalso; omega))) | (refine awp_cond rfl (fun hb => ?_) (fun hb => ?_) <;> (try simp only [Bool.not_eq_true', Bool.not_eq_false', decide_eq_true_eq, decide_eq_false_iff_not] at hb) <;> (try (exfalso; omega)))))
    all_goals (first | (exfalso; omega) | exact ret1c [] (Rt.wd false 0) rfl rfl rfl rfl (post_none rfl) rfl)
  · have e1 : (!b || decide (n ≠ 0)) = true := by
      cases b with
      | false => rfl
      | true => simp only [Bool.not_true, Bool.false_or, decide_eq_true_eq]; exact fun h' => h ⟨rfl, h'⟩
    have e2 : (b && decide (n ≠ 0)) = b := by
      cases b with
      | false => rfl
      | true => simp only [Bool.true_and, decide_eq_true_eq]; exact fun h' => h ⟨rfl, h'⟩
    rw [e1] at cV
    rw [e2]
    refine fn_of Tryz.func144 rfl (Nat.le_of_ble_eq_true rfl) rfl rfl ?_
    (repeat' (first | refine r_4eabd4 ?_ | (refine is_f 125 ?_; refine r_bb2b31 (cV) ?_) | (refine r_48b933 (fun hb => ?_) (fun hb => ?_) <;> (try (exfalso; omega))) | (refine awp_cond rfl (fun hb => ?_) (fun hb => ?_) <;> (try simp only [Bool.not_eq_true', Bool.not_eq_false', decide_eq_true_eq, decide_eq_false_iff_not] at hb) <;> (try (exfalso; omega)))))
    all_goals (first | (exfalso; omega) | exact ret1c [] (Rt.wd b n) rfl rfl rfl rfl (post_none rfl) rfl)
theorem cleanZ_m (z : Int) (hz : z.natAbs < B64 ^ 4) : Meets Tryz.prog 144 [wz z] [] (wz z) [] := by
  have h := cleanG_m (decide (z < 0)) z.natAbs hz
  have e : zb (decide (z < 0)) z.natAbs = z := by
    unfold zb
    by_cases h : z < 0
    · rw [decide_eq_true h, if_pos rfl]; omega
    · rw [decide_eq_false h, if_neg (by simp)]; omega
  rw [e] at h
  exact h
theorem signedG_m (b : Bool) (n : Nat) (hn : n < B64 ^ 4) : Meets Tryz.prog 155 [.r (.v (.bool b)), w4 n] [] (wz (zb b n)) [] := by
  refine fn_of Tryz.func155 rfl (Nat.le_of_ble_eq_true rfl) rfl rfl ?_
  have cC := cleanG_m b n hn
  (repeat' (first | refine r_4eabd4 ?_ | (refine is_f 144 ?_; refine r_bb2b31 (cC) ?_) | (refine r_48b933 (fun hb => ?_) (fun hb => ?_) <;> (try (exfalso; omega))) | (refine awp_cond rfl (fun hb => ?_) (fun hb => ?_) <;> (try simp only [Bool.not_eq_true', Bool.not_eq_false', decide_eq_true_eq, decide_eq_false_iff_not] at hb) <;> (try (exfalso; omega)))))
  all_goals exact ret1c [] (Rt.wz _) rfl rfl rfl rfl (post_none rfl) rfl
end Go.Proofs.YtibedaeefnjjlaaGreat
