/- Texts of the second layer in one: Wr6 Wr7 Wr9. -/
import Derived.Test.YtibedaeefnjjlaaGreatG36
import Derived.Test.YtibedaeefnjjlaaGreatG23
import Derived.Test.YtibedaeefnjjlaaGreatG21
set_option maxRecDepth 100000
set_option linter.unusedVariables false
set_option linter.unusedSimpArgs false
namespace Go.Proofs.YtibedaeefnjjlaaGreat
open Go.RowKit Go.Ab Go.Wd
theorem tw_len0 {n : Nat} : (wns (tw n)).length = 0 ↔ n = 0 := by
 rw [wns_len]
 constructor
 ·intro h
  rcases Nat.eq_zero_or_pos n with h' | h'
  ·exact h'
  ·rw [tw_pos (by omega)] at h; simp at h
 ·intro h; subst h; rw [tw_zero]; rfl
theorem validR_m (b : Bool) (n : Nat) (hn : n < B64 ^ 4) : Meets Tryz.prog 45 [wd b n] [] (.r (.v (.bool (vW b n)))) [] := by
 have cO := of_m b n hn
 have h0 := tw_len0 (n := n)
 have hT : n = 0 → b = true → false = vW b n := fun h g => by subst h g; rfl
 have hF : n ≠ 0 → true = vW b n := fun h => by unfold vW; rw [decide_eq_true h]; simp
 cases b with
 | false =>
  refine fn_of Tryz.func45 rfl (Nat.le_of_ble_eq_true rfl) rfl rfl ?_
  (repeat' (first | refine r_4eabd4 ?_ | (refine is_f 81 ?_; refine r_bb2b31 (cO) ?_) | (refine r_0efca5 (fun hb => ?_) (fun hb => ?_) <;> (try (exfalso; omega))) | fail))
  all_goals exact ret1 [] (.bool rfl) rfl rfl rfl
 | true =>
  by_cases h : n = 0
  ·have hl := h0.2 h
   refine fn_of Tryz.func45 rfl (Nat.le_of_ble_eq_true rfl) rfl rfl ?_
   (repeat' (first | refine r_4eabd4 ?_ | (refine is_f 81 ?_; refine r_bb2b31 (cO) ?_) | (refine r_0efca5 (fun hb => ?_) (fun hb => ?_) <;> (try (exfalso; omega))) | fail))
   all_goals (first | (exfalso; omega) | exact ret1 [] (.bool (hT h rfl)) rfl rfl rfl)
  ·have hl : ¬ (wns (tw n)).length = 0 := fun g => h (h0.1 g)
   refine fn_of Tryz.func45 rfl (Nat.le_of_ble_eq_true rfl) rfl rfl ?_
   (repeat' (first | refine r_4eabd4 ?_ | (refine is_f 81 ?_; refine r_bb2b31 (cO) ?_) | (refine r_0efca5 (fun hb => ?_) (fun hb => ?_) <;> (try (exfalso; omega))) | fail))
   all_goals (first | (exfalso; omega) | exact ret1 [] (.bool (hF h)) rfl rfl rfl)
theorem cleanR_m (b : Bool) (n : Nat) (hn : n < B64 ^ 4) : Meets Tryz.prog 78 [wd b n] [] (wz (zb b n)) [] := by
 have cV := validR_m b n hn
 rw [wz_zb]
 unfold vW at cV
 by_cases h : b = true ∧ n = 0
 ·obtain ⟨rfl, rfl⟩ := h
  refine fn_of Tryz.func78 rfl (Nat.le_of_ble_eq_true rfl) rfl rfl ?_
  (repeat' (first | refine r_4eabd4 ?_ | (refine is_f 45 ?_; refine r_bb2b31 (cV) ?_) | (refine r_0efca5 (fun hb => ?_) (fun hb => ?_) <;> (try (exfalso; omega))) | fail))
  all_goals (first | (exfalso; omega) | exact ret1c [] (Rt.wd false 0) rfl rfl rfl rfl (post_none rfl) rfl)
 ·have e1 : (!b || decide (n ≠ 0)) = true := by
   cases b with
   | false => rfl
   | true => simp only [Bool.not_true, Bool.false_or, decide_eq_true_eq]; exact fun h' => h ⟨rfl, h'⟩
  have e2 : (b && decide (n ≠ 0)) = b := by
   cases b with
   | false => rfl
   | true => simp only [Bool.true_and, decide_eq_true_eq]; exact fun h' => h ⟨rfl, h'⟩
  rw [e1] at cV
  rw [e2]
  refine fn_of Tryz.func78 rfl (Nat.le_of_ble_eq_true rfl) rfl rfl ?_
  (repeat' (first | refine r_4eabd4 ?_ | (refine is_f 45 ?_; refine r_bb2b31 (cV) ?_) | (refine r_0efca5 (fun hb => ?_) (fun hb => ?_) <;> (try (exfalso; omega))) | fail))
  all_goals (first | (exfalso; omega) | exact ret1c [] (Rt.wd b n) rfl rfl rfl rfl (post_none rfl) rfl)
theorem zb_wz (z : Int) : zb (decide (z < 0)) z.natAbs = z := by
 unfold zb
 by_cases h : z < 0
 ·rw [decide_eq_true h, if_pos rfl]; omega
 ·rw [decide_eq_false h, if_neg (by simp)]; omega
theorem cleanRZ_m (z : Int) (hz : z.natAbs < B64 ^ 4) : Meets Tryz.prog 78 [wz z] [] (wz z) [] := by
 have h := cleanR_m (decide (z < 0)) z.natAbs hz
 rw [zb_wz] at h
 exact h
theorem validRZ_m (z : Int) (hz : z.natAbs < B64 ^ 4) : Meets Tryz.prog 45 [wz z] [] (.r (.v (.bool true))) [] := by
 have h := validR_m (decide (z < 0)) z.natAbs hz
 have e : vW (decide (z < 0)) z.natAbs = true := by
  unfold vW
  by_cases h : z < 0
  ·rw [decide_eq_true h, decide_eq_true (by omega : z.natAbs ≠ 0)]; rfl
  ·rw [decide_eq_false h]; rfl
 rw [e] at h
 exact h
theorem wideZ_m (b : Bool) (n : Nat) (hn : n < B64 ^ 4) : Meets Tryz.prog 79 [.r (.v (.bool b)), .r (.sl 1 (wns (tw n)))] [] (.tu [wz (zb b n), .r (.v (.bool true))]) [] := by
 rw [wz_zb]; exact wide_m b n hn
theorem rOf_m (v : Int) (hv : I64 v) : Meets Tryz.prog 21 [.r (.v (.int .i64 v))] [] (wz v) [] := by
 have hv2 : -9223372036854775808 ≤ v ∧ v < 9223372036854775808 := hv
 rcases int_sign v with ⟨n, rfl⟩ | ⟨n, hn, rfl⟩
 ·rw [wz_nat]
  have h0 : IntKind.u64.wrap (n : Int) = ((n % B64 : Nat) : Int) := by rw [IntKind.wrap_u64]; unfold B64; omega
  have h1 : n / B64 = 0 := by unfold B64; omega
  have h2 : wd false n = .ag [.r (.v (.bool false)), .r (.v (.int .u64 ((n % B64 : Nat) : Int))), .r (.v (.int .u64 0)), .r (.v (.int .u64 0)), .r (.v (.int .u64 0))] := by
   unfold wd; rw [h1]; rfl
  refine fn_of Tryz.func21 rfl (Nat.le_of_ble_eq_true rfl) rfl rfl ?_
  (repeat' (first | refine r_4eabd4 ?_ | (refine r_0efca5 (fun hb => ?_) (fun hb => ?_) <;> (try (exfalso; omega))) | fail))
  all_goals (first | (exfalso; omega) | (rw [h2]; exact ret1c [] (.ag _ _ _ (Rt.agR [.v (.bool false), .v (.int .u64 ((n % B64 : Nat) : Int)), .v (.int .u64 0), .v (.int .u64 0), .v (.int .u64 0)])) rfl rfl rfl rfl (post_none rfl) rfl))
 ·rw [wz_neg n hn]
  have h0 : IntKind.u64.wrap (-(n : Int)) = 18446744073709551616 - (n : Int) := by rw [IntKind.wrap_u64]; omega
  have hneg : IntKind.u64.wrap (0 - (18446744073709551616 - (n : Int))) = ((n % B64 : Nat) : Int) := by rw [IntKind.wrap_u64]; unfold B64; omega
  have h1 : n / B64 = 0 := by unfold B64; omega
  have h2 : wd true n = .ag [.r (.v (.bool true)), .r (.v (.int .u64 ((n % B64 : Nat) : Int))), .r (.v (.int .u64 0)), .r (.v (.int .u64 0)), .r (.v (.int .u64 0))] := by
   unfold wd; rw [h1]; rfl
  refine fn_of Tryz.func21 rfl (Nat.le_of_ble_eq_true rfl) rfl rfl ?_
  (repeat' (first | refine r_4eabd4 ?_ | (refine r_0efca5 (fun hb => ?_) (fun hb => ?_) <;> (try (exfalso; omega))) | fail))
  all_goals (first | (exfalso; omega) | (rw [h2]; exact ret1c [] (.ag _ _ _ (Rt.agR [.v (.bool true), .v (.int .u64 ((n % B64 : Nat) : Int)), .v (.int .u64 0), .v (.int .u64 0), .v (.int .u64 0)])) rfl rfl rfl rfl (post_none rfl) rfl))
theorem rOfU_m (n : Nat) (hn : n < B64) : Meets Tryz.prog 84 [.r (.v (.int .u64 (n : Int)))] [] (wz (n : Int)) [] := by
 rw [wz_nat]
 have h1 : n / B64 = 0 := by unfold B64 at *; omega
 have h0 : n % B64 = n := Nat.mod_eq_of_lt hn
 have h2 : wd false n = .ag [.r (.v (.bool false)), .r (.v (.int .u64 (n : Int))), .r (.v (.int .u64 0)), .r (.v (.int .u64 0)), .r (.v (.int .u64 0))] := by
  unfold wd; rw [h1, h0]; rfl
 rw [h2]
 refine fn_of Tryz.func84 rfl (Nat.le_of_ble_eq_true rfl) rfl rfl ?_
 (repeat' (first | refine r_4eabd4 ?_ | (refine r_0efca5 (fun hb => ?_) (fun hb => ?_) <;> (try (exfalso; omega))) | fail))
 all_goals exact ret1c [] (.ag _ _ _ (Rt.agR [.v (.bool false), .v (.int .u64 (n : Int)), .v (.int .u64 0), .v (.int .u64 0), .v (.int .u64 0)])) rfl rfl rfl rfl (post_none rfl) rfl
theorem rSign_m (z : Int) (hz : z.natAbs < B64 ^ 4) : Meets Tryz.prog 46 [wz z] [] (.r (.v (.int .i64 (sgZ z)))) [] := by
 rcases int_sign z with ⟨n, rfl⟩ | ⟨n, hn, rfl⟩
 ·have cO := of_m false n (by simpa using hz)
  have h0 := tw_len0 (n := n)
  rw [wz_nat]
  have hT : (wns (tw n)).length = 0 → (0 : Int) = sgZ (n : Int) := fun h => by rw [h0.1 h]; rfl
  have hF : ¬ (wns (tw n)).length = 0 → (1 : Int) = sgZ (n : Int) := fun h => by have := fun g => h (h0.2 g); unfold sgZ; rw [if_neg (by omega), if_neg (by omega)]
  refine fn_of Tryz.func46 rfl (Nat.le_of_ble_eq_true rfl) rfl rfl ?_
  (repeat' (first | refine r_4eabd4 ?_ | (refine is_f 81 ?_; refine r_bb2b31 (cO) ?_) | (refine r_0efca5 (fun hb => ?_) (fun hb => ?_) <;> (try (exfalso; omega))) | fail))
  all_goals (first | exact ret1 [] (.int (hT (by omega))) rfl rfl rfl | exact ret1 [] (.int (hF (by omega))) rfl rfl rfl)
 ·have cO := of_m true n (by simpa using hz)
  have h0 := tw_len0 (n := n)
  have hl : ¬ (wns (tw n)).length = 0 := fun g => hn (h0.1 g)
  rw [wz_neg n hn]
  have hT : (-1 : Int) = sgZ (-(n : Int)) := by unfold sgZ; rw [if_pos (by omega)]
  refine fn_of Tryz.func46 rfl (Nat.le_of_ble_eq_true rfl) rfl rfl ?_
  (repeat' (first | refine r_4eabd4 ?_ | (refine is_f 81 ?_; refine r_bb2b31 (cO) ?_) | (refine r_0efca5 (fun hb => ?_) (fun hb => ?_) <;> (try (exfalso; omega))) | fail))
  all_goals (first | (exfalso; omega) | exact ret1 [] (.int hT) rfl rfl rfl)
theorem rNeg_m (z : Int) (hz : z.natAbs < B64 ^ 4) : Meets Tryz.prog 50 [wz z] [] (wz (-z)) [] := by
 rcases int_sign z with ⟨n, rfl⟩ | ⟨n, hn, rfl⟩
 ·have cO := of_m false n (by simpa using hz)
  have cS := wideZ_m true n (by simpa using hz)
  rw [show zb true n = -(n : Int) from rfl] at cS
  rw [wz_nat]
  refine fn_of Tryz.func50 rfl (Nat.le_of_ble_eq_true rfl) rfl rfl ?_
  (repeat' (first | refine r_4eabd4 ?_ | (refine is_f 81 ?_; refine r_bb2b31 (cO) ?_) | (refine is_f 79 ?_; refine r_bb2b31 (cS) ?_) | (refine r_0efca5 (fun hb => ?_) (fun hb => ?_) <;> (try (exfalso; omega))) | fail))
  all_goals exact ret1c [] (Rt.wz _) rfl rfl rfl rfl (post_none rfl) rfl
 ·have cO := of_m true n (by simpa using hz)
  have cS := wideZ_m false n (by simpa using hz)
  rw [show zb false n = (n : Int) from rfl] at cS
  rw [wz_neg n hn, Int.neg_neg]
  refine fn_of Tryz.func50 rfl (Nat.le_of_ble_eq_true rfl) rfl rfl ?_
  (repeat' (first | refine r_4eabd4 ?_ | (refine is_f 81 ?_; refine r_bb2b31 (cO) ?_) | (refine is_f 79 ?_; refine r_bb2b31 (cS) ?_) | (refine r_0efca5 (fun hb => ?_) (fun hb => ?_) <;> (try (exfalso; omega))) | fail))
  all_goals exact ret1c [] (Rt.wz _) rfl rfl rfl rfl (post_none rfl) rfl
end Go.Proofs.YtibedaeefnjjlaaGreat
namespace Go.Proofs.YtibedaeefnjjlaaGreat
open Go.RowKit Go.Ab Go.Wd
theorem cmpN_range (m n : Nat) : cmpN m n = -1 ∨ cmpN m n = 0 ∨ cmpN m n = 1 := by
 unfold cmpN; split
 ·exact .inl rfl
 ·split
  ·exact .inr (.inr rfl)
  ·exact .inr (.inl rfl)
theorem sgZ_nat (n : Nat) : sgZ (n : Int) = if n = 0 then 0 else 1 := by
 unfold sgZ; rw [if_neg (by omega)]
 by_cases h : n = 0
 ·rw [if_pos h, if_pos (by omega)]
 ·rw [if_neg h, if_neg (by omega)]
theorem sgZ_neg (n : Nat) (h : n ≠ 0) : sgZ (-(n : Int)) = -1 := by unfold sgZ; rw [if_pos (by omega)]
set_option maxHeartbeats 4000000 in
theorem rCompare_m (x y : Int) (hx : x.natAbs < B64 ^ 4) (hy : y.natAbs < B64 ^ 4) : Meets Tryz.prog 44 [wz x, wz y] [] (.r (.v (.int .i64 (cmpZ x y)))) [] := by
 have s1 := rSign_m x hx
 have s2 := rSign_m y hy
 rcases int_sign x with ⟨m, rfl⟩ | ⟨m, hm, rfl⟩ <;> rcases int_sign y with ⟨n, rfl⟩ | ⟨n, hn, rfl⟩
 ·have hM : m < B64 ^ 4 := by simpa using hx
  have hN : n < B64 ^ 4 := by simpa using hy
  have l1 := tw_len 4 m hM
  have l2 := tw_len 4 n hN
  have cC := compare_m m n (by omega) (by omega)
  have o1 := of_m false m hM
  have o2 := of_m false n hN
  rw [cmpZ_nn]
  rw [wz_nat] at s1 s2
  rw [wz_nat, wz_nat]
  rw [sgZ_nat] at s1 s2
  have hr := cmpN_range m n
  have k1 : m = 0 → n = 0 → cmpN m n = 0 := fun h g => by subst h g; rfl
  have k2 : m = 0 → n ≠ 0 → cmpN m n = -1 := fun h g => by unfold cmpN; rw [if_pos (by omega)]
  have k3 : m ≠ 0 → n = 0 → cmpN m n = 1 := fun h g => by unfold cmpN; rw [if_neg (by omega), if_pos (by omega)]
  generalize cmpN m n = e at *
  have hr1 : IntKind.i64.wrap (1 * e) = e := by rw [IntKind.wrap_i64]; omega
  by_cases h1 : m = 0 <;> by_cases h2 : n = 0
  ·rw [if_pos h1] at s1
   rw [if_pos h2] at s2
   have hr0 : IntKind.i64.wrap (0 * e) = e := by rw [k1 h1 h2]; rfl
   refine fn_of Tryz.func44 rfl (Nat.le_of_ble_eq_true rfl) rfl rfl ?_
   (repeat' (first | refine r_4eabd4 ?_ | (refine is_f 46 ?_; refine r_bb2b31 (s1) ?_) | (refine is_f 46 ?_; refine r_bb2b31 (s2) ?_) | (refine is_f 81 ?_; refine r_bb2b31 (o1) ?_) | (refine is_f 81 ?_; refine r_bb2b31 (o2) ?_) | (refine is_f 82 ?_; refine r_bb2b31 (cC) ?_) | (refine r_0efca5 (fun hb => ?_) (fun hb => ?_) <;> (try (exfalso; omega))) | fail))
   all_goals (first | (exfalso; omega) | exact ret1 [] (.int rfl) rfl rfl rfl)
  ·rw [if_pos h1] at s1
   rw [if_neg h2] at s2
   have k := k2 h1 h2
   refine fn_of Tryz.func44 rfl (Nat.le_of_ble_eq_true rfl) rfl rfl ?_
   (repeat' (first | refine r_4eabd4 ?_ | (refine is_f 46 ?_; refine r_bb2b31 (s1) ?_) | (refine is_f 46 ?_; refine r_bb2b31 (s2) ?_) | (refine is_f 81 ?_; refine r_bb2b31 (o1) ?_) | (refine is_f 81 ?_; refine r_bb2b31 (o2) ?_) | (refine is_f 82 ?_; refine r_bb2b31 (cC) ?_) | (refine r_0efca5 (fun hb => ?_) (fun hb => ?_) <;> (try (exfalso; omega))) | fail))
   all_goals (first | (exfalso; omega) | exact ret1 [] (.int k.symm) rfl rfl rfl)
  ·rw [if_neg h1] at s1
   rw [if_pos h2] at s2
   have k := k3 h1 h2
   refine fn_of Tryz.func44 rfl (Nat.le_of_ble_eq_true rfl) rfl rfl ?_
   (repeat' (first | refine r_4eabd4 ?_ | (refine is_f 46 ?_; refine r_bb2b31 (s1) ?_) | (refine is_f 46 ?_; refine r_bb2b31 (s2) ?_) | (refine is_f 81 ?_; refine r_bb2b31 (o1) ?_) | (refine is_f 81 ?_; refine r_bb2b31 (o2) ?_) | (refine is_f 82 ?_; refine r_bb2b31 (cC) ?_) | (refine r_0efca5 (fun hb => ?_) (fun hb => ?_) <;> (try (exfalso; omega))) | fail))
   all_goals (first | (exfalso; omega) | exact ret1 [] (.int k.symm) rfl rfl rfl)
  ·rw [if_neg h1] at s1
   rw [if_neg h2] at s2
   refine fn_of Tryz.func44 rfl (Nat.le_of_ble_eq_true rfl) rfl rfl ?_
   (repeat' (first | refine r_4eabd4 ?_ | (refine is_f 46 ?_; refine r_bb2b31 (s1) ?_) | (refine is_f 46 ?_; refine r_bb2b31 (s2) ?_) | (refine is_f 81 ?_; refine r_bb2b31 (o1) ?_) | (refine is_f 81 ?_; refine r_bb2b31 (o2) ?_) | (refine is_f 82 ?_; refine r_bb2b31 (cC) ?_) | (refine r_0efca5 (fun hb => ?_) (fun hb => ?_) <;> (try (exfalso; omega))) | fail))
   all_goals (first | (exfalso; omega) | exact ret1 [] (.int rfl) rfl rfl rfl)
 ·have e : (1 : Int) = cmpZ (m : Int) (-(n : Int)) := by unfold cmpZ; rw [if_neg (by omega), if_pos (by omega)]
  rw [sgZ_neg n hn] at s2
  have hs : 0 ≤ sgZ (m : Int) := by rw [sgZ_nat]; split <;> omega
  rw [wz_nat] at s1
  rw [wz_neg n hn] at s2
  rw [wz_nat, wz_neg n hn]
  generalize sgZ (m : Int) = sg at *
  refine fn_of Tryz.func44 rfl (Nat.le_of_ble_eq_true rfl) rfl rfl ?_
  (repeat' (first | refine r_4eabd4 ?_ | (refine is_f 46 ?_; refine r_bb2b31 (s1) ?_) | (refine is_f 46 ?_; refine r_bb2b31 (s2) ?_) | (refine r_0efca5 (fun hb => ?_) (fun hb => ?_) <;> (try (exfalso; omega))) | fail))
  all_goals (first | (exfalso; omega) | exact ret1 [] (.int e) rfl rfl rfl)
 ·have e : (-1 : Int) = cmpZ (-(m : Int)) (n : Int) := by unfold cmpZ; rw [if_pos (by omega)]
  rw [sgZ_neg m hm] at s1
  have hs : 0 ≤ sgZ (n : Int) := by rw [sgZ_nat]; split <;> omega
  rw [wz_neg m hm] at s1
  rw [wz_nat] at s2
  rw [wz_nat, wz_neg m hm]
  generalize sgZ (n : Int) = sg at *
  refine fn_of Tryz.func44 rfl (Nat.le_of_ble_eq_true rfl) rfl rfl ?_
  (repeat' (first | refine r_4eabd4 ?_ | (refine is_f 46 ?_; refine r_bb2b31 (s1) ?_) | (refine is_f 46 ?_; refine r_bb2b31 (s2) ?_) | (refine r_0efca5 (fun hb => ?_) (fun hb => ?_) <;> (try (exfalso; omega))) | fail))
  all_goals (first | (exfalso; omega) | exact ret1 [] (.int e) rfl rfl rfl)
 ·have hM : m < B64 ^ 4 := by simpa using hx
  have hN : n < B64 ^ 4 := by simpa using hy
  have l1 := tw_len 4 m hM
  have l2 := tw_len 4 n hN
  have cC := compare_m m n (by omega) (by omega)
  have o1 := of_m true m hM
  have o2 := of_m true n hN
  have hr := cmpN_range m n
  have hr1 : IntKind.i64.wrap (-1 * cmpN m n) = cmpN n m := by
   unfold cmpN
   rcases Nat.lt_trichotomy m n with h | h | h
   ·rw [if_pos h, if_neg (by omega), if_pos h]; rfl
   ·subst h; rw [if_neg (Nat.lt_irrefl m), if_neg (Nat.lt_irrefl m)]; rfl
   ·rw [if_neg (by omega), if_pos h, if_pos h]; rfl
  rw [cmpZ_neg]
  rw [sgZ_neg m hm, wz_neg m hm] at s1
  rw [sgZ_neg n hn, wz_neg n hn] at s2
  rw [wz_neg m hm, wz_neg n hn]
  generalize cmpN m n = e at *
  generalize cmpN n m = e2 at *
  refine fn_of Tryz.func44 rfl (Nat.le_of_ble_eq_true rfl) rfl rfl ?_
  (repeat' (first | refine r_4eabd4 ?_ | (refine is_f 46 ?_; refine r_bb2b31 (s1) ?_) | (refine is_f 46 ?_; refine r_bb2b31 (s2) ?_) | (refine is_f 81 ?_; refine r_bb2b31 (o1) ?_) | (refine is_f 81 ?_; refine r_bb2b31 (o2) ?_) | (refine is_f 82 ?_; refine r_bb2b31 (cC) ?_) | (refine r_0efca5 (fun hb => ?_) (fun hb => ?_) <;> (try (exfalso; omega))) | fail))
  all_goals (first | (exfalso; omega) | exact ret1 [] (.int rfl) rfl rfl rfl)
set_option maxHeartbeats 4000000 in
theorem rMul_m (x y : Int) (hx : x.natAbs < B64 ^ 4) (hy : y.natAbs < B64 ^ 4) (hxy : (x * y).natAbs < B64 ^ 4) : Meets Tryz.prog 43 [wz x, wz y] [] (.tu [wz (x * y), .r (.v (.bool true))]) [] := by
 have c1 := cleanRZ_m x hx
 have c2 := cleanRZ_m y hy
 rw [Int.natAbs_mul] at hxy
 rcases int_sign x with ⟨m, rfl⟩ | ⟨m, hm, rfl⟩ <;> rcases int_sign y with ⟨n, rfl⟩ | ⟨n, hn, rfl⟩
 ·have hM : m < B64 ^ 4 := by simpa using hx
  have hN : n < B64 ^ 4 := by simpa using hy
  have hS : m * n < B64 ^ 4 := by simpa using hxy
  have l1 := tw_len 4 m hM
  have l2 := tw_len 4 n hN
  have cA := refMulL_m (tw m) (tw n) (tw_wds m) (tw_wds n) (by omega) (by omega)
  rw [val_tw, val_tw] at cA
  have o1 := of_m false m hM
  have o2 := of_m false n hN
  have cS := wideZ_m false (m * n) hS
  rw [zb_f] at cS
  rw [show (m : Int) * (n : Int) = ((m * n : Nat) : Int) by rw [Int.natCast_mul]]
  rw [wz_nat m] at c1
  rw [wz_nat n] at c2
  rw [wz_nat m, wz_nat n]
  generalize m * n = s at *
  refine fn_of Tryz.func43 rfl (Nat.le_of_ble_eq_true rfl) rfl rfl ?_
  (repeat' (first | refine r_4eabd4 ?_ | (refine is_f 78 ?_; refine r_bb2b31 (c1) ?_) | (refine is_f 78 ?_; refine r_bb2b31 (c2) ?_) | (refine is_f 81 ?_; refine r_bb2b31 (o1) ?_) | (refine is_f 81 ?_; refine r_bb2b31 (o2) ?_) | (refine is_f 80 ?_; refine r_bb2b31 (cA) ?_) | (refine is_f 79 ?_; refine r_bb2b31 (cS) ?_) | (refine r_0efca5 (fun hb => ?_) (fun hb => ?_) <;> (try (exfalso; omega))) | fail))
  all_goals (first | exact absurd rfl hb | exact ret2c [] (Rt.wz _) (.bool rfl) rfl rfl rfl rfl rfl (post_none rfl) rfl)
 ·have hM : m < B64 ^ 4 := by simpa using hx
  have hN : n < B64 ^ 4 := by simpa using hy
  have hS : m * n < B64 ^ 4 := by simpa using hxy
  have l1 := tw_len 4 m hM
  have l2 := tw_len 4 n hN
  have cA := refMulL_m (tw m) (tw n) (tw_wds m) (tw_wds n) (by omega) (by omega)
  rw [val_tw, val_tw] at cA
  have o1 := of_m false m hM
  have o2 := of_m true n hN
  have cS := wideZ_m true (m * n) hS
  rw [zb_t] at cS
  rw [show (m : Int) * -(n : Int) = -((m * n : Nat) : Int) by rw [Int.mul_neg, Int.natCast_mul]]
  rw [wz_nat m] at c1
  rw [wz_neg n hn] at c2
  rw [wz_nat m, wz_neg n hn]
  generalize m * n = s at *
  refine fn_of Tryz.func43 rfl (Nat.le_of_ble_eq_true rfl) rfl rfl ?_
  (repeat' (first | refine r_4eabd4 ?_ | (refine is_f 78 ?_; refine r_bb2b31 (c1) ?_) | (refine is_f 78 ?_; refine r_bb2b31 (c2) ?_) | (refine is_f 81 ?_; refine r_bb2b31 (o1) ?_) | (refine is_f 81 ?_; refine r_bb2b31 (o2) ?_) | (refine is_f 80 ?_; refine r_bb2b31 (cA) ?_) | (refine is_f 79 ?_; refine r_bb2b31 (cS) ?_) | (refine r_0efca5 (fun hb => ?_) (fun hb => ?_) <;> (try (exfalso; omega))) | fail))
  all_goals (first | exact absurd rfl hb | exact ret2c [] (Rt.wz _) (.bool rfl) rfl rfl rfl rfl rfl (post_none rfl) rfl)
 ·have hM : m < B64 ^ 4 := by simpa using hx
  have hN : n < B64 ^ 4 := by simpa using hy
  have hS : m * n < B64 ^ 4 := by simpa using hxy
  have l1 := tw_len 4 m hM
  have l2 := tw_len 4 n hN
  have cA := refMulL_m (tw m) (tw n) (tw_wds m) (tw_wds n) (by omega) (by omega)
  rw [val_tw, val_tw] at cA
  have o1 := of_m true m hM
  have o2 := of_m false n hN
  have cS := wideZ_m true (m * n) hS
  rw [zb_t] at cS
  rw [show -(m : Int) * (n : Int) = -((m * n : Nat) : Int) by rw [Int.neg_mul, Int.natCast_mul]]
  rw [wz_neg m hm] at c1
  rw [wz_nat n] at c2
  rw [wz_neg m hm, wz_nat n]
  generalize m * n = s at *
  refine fn_of Tryz.func43 rfl (Nat.le_of_ble_eq_true rfl) rfl rfl ?_
  (repeat' (first | refine r_4eabd4 ?_ | (refine is_f 78 ?_; refine r_bb2b31 (c1) ?_) | (refine is_f 78 ?_; refine r_bb2b31 (c2) ?_) | (refine is_f 81 ?_; refine r_bb2b31 (o1) ?_) | (refine is_f 81 ?_; refine r_bb2b31 (o2) ?_) | (refine is_f 80 ?_; refine r_bb2b31 (cA) ?_) | (refine is_f 79 ?_; refine r_bb2b31 (cS) ?_) | (refine r_0efca5 (fun hb => ?_) (fun hb => ?_) <;> (try (exfalso; omega))) | fail))
  all_goals (first | exact absurd rfl hb | exact ret2c [] (Rt.wz _) (.bool rfl) rfl rfl rfl rfl rfl (post_none rfl) rfl)
 ·have hM : m < B64 ^ 4 := by simpa using hx
  have hN : n < B64 ^ 4 := by simpa using hy
  have hS : m * n < B64 ^ 4 := by simpa using hxy
  have l1 := tw_len 4 m hM
  have l2 := tw_len 4 n hN
  have cA := refMulL_m (tw m) (tw n) (tw_wds m) (tw_wds n) (by omega) (by omega)
  rw [val_tw, val_tw] at cA
  have o1 := of_m true m hM
  have o2 := of_m true n hN
  have cS := wideZ_m false (m * n) hS
  rw [zb_f] at cS
  rw [show -(m : Int) * -(n : Int) = ((m * n : Nat) : Int) by rw [Int.neg_mul_neg, Int.natCast_mul]]
  rw [wz_neg m hm] at c1
  rw [wz_neg n hn] at c2
  rw [wz_neg m hm, wz_neg n hn]
  generalize m * n = s at *
  refine fn_of Tryz.func43 rfl (Nat.le_of_ble_eq_true rfl) rfl rfl ?_
  (repeat' (first | refine r_4eabd4 ?_ | (refine is_f 78 ?_; refine r_bb2b31 (c1) ?_) | (refine is_f 78 ?_; refine r_bb2b31 (c2) ?_) | (refine is_f 81 ?_; refine r_bb2b31 (o1) ?_) | (refine is_f 81 ?_; refine r_bb2b31 (o2) ?_) | (refine is_f 80 ?_; refine r_bb2b31 (cA) ?_) | (refine is_f 79 ?_; refine r_bb2b31 (cS) ?_) | (refine r_0efca5 (fun hb => ?_) (fun hb => ?_) <;> (try (exfalso; omega))) | fail))
  all_goals (first | exact absurd rfl hb | exact ret2c [] (Rt.wz _) (.bool rfl) rfl rfl rfl rfl rfl (post_none rfl) rfl)
end Go.Proofs.YtibedaeefnjjlaaGreat
namespace Go.Proofs.YtibedaeefnjjlaaGreat
open Go.RowKit Go.Ab Go.Wd
theorem rUnsigned_m (n : Nat) (hn : n < B64) : Meets Tryz.prog 83 [wz (n : Int)] [] (.tu [.r (.v (.int .u64 (n : Int))), .r (.v (.bool true))]) [] := by
 have hB : n < B64 ^ 4 := by rw [B64_q]; unfold B64 at hn; omega
 have c1 := cleanRZ_m (n : Int) (by simpa using hB)
 have o1 := of_m false n hB
 rw [wz_nat] at c1 ⊢
 have l1 : (wns (tw n)).length ≤ 1 := by rw [wns_len]; exact tw_len 1 n (by rw [Nat.pow_one]; exact hn)
 have hm : ((n % B64 : Nat) : Int) = (n : Int) := by rw [Nat.mod_eq_of_lt hn]
 refine fn_of Tryz.func83 rfl (Nat.le_of_ble_eq_true rfl) rfl rfl ?_
 (repeat' (first | refine r_4eabd4 ?_ | (refine is_f 78 ?_; refine r_bb2b31 (c1) ?_) | (refine is_f 81 ?_; refine r_bb2b31 (o1) ?_) | (refine r_0efca5 (fun hb => ?_) (fun hb => ?_) <;> (try (exfalso; omega))) | fail))
 all_goals (first | (exfalso; omega) | exact ret2 [] (.int hm) (.bool rfl) rfl rfl rfl rfl)
theorem rUnsigned_no (n : Nat) (hn : B64 ≤ n) (hB : n < B64 ^ 4) : Meets Tryz.prog 83 [wz (n : Int)] [] (.tu [.r (.v (.int .u64 0)), .r (.v (.bool false))]) [] := by
 have c1 := cleanRZ_m (n : Int) (by simpa using hB)
 have o1 := of_m false n hB
 rw [wz_nat] at c1 ⊢
 have l1 : 1 < (wns (tw n)).length := by
  rw [wns_len]
  rcases Nat.lt_or_ge 1 (tw n).length with h | h
  ·exact h
  ·have := tw_len_lt 1 n h; rw [Nat.pow_one] at this; omega
 refine fn_of Tryz.func83 rfl (Nat.le_of_ble_eq_true rfl) rfl rfl ?_
 (repeat' (first | refine r_4eabd4 ?_ | (refine is_f 78 ?_; refine r_bb2b31 (c1) ?_) | (refine is_f 81 ?_; refine r_bb2b31 (o1) ?_) | (refine r_0efca5 (fun hb => ?_) (fun hb => ?_) <;> (try (exfalso; omega))) | fail))
 all_goals (first | (exfalso; omega) | exact ret2 [] (.int rfl) (.bool rfl) rfl rfl rfl rfl)
set_option maxHeartbeats 4000000 in
theorem rDivModN_m (m n : Nat) (hM : m < B64 ^ 4) (hN : n < B64 ^ 4) (hn0 : n ≠ 0) (cD : Meets Tryz.prog 85 [.r (.sl 1 (wns (tw m))), .r (.sl 1 (wns (tw n)))] [] (.tu [.r (.sl 1 (wns (tw (m / n)))), .r (.sl 1 (wns (tw (m % n))))]) []) :
  Meets Tryz.prog 49 [wz (m : Int), wz (n : Int)] [] (.tu [wz ((m / n : Nat) : Int), wz ((m % n : Nat) : Int), .r (.v (.bool true))]) [] := by
 have c1 := cleanRZ_m (m : Int) (by simpa using hM)
 have c2 := cleanRZ_m (n : Int) (by simpa using hN)
 have cS := rSign_m (n : Int) (by simpa using hN)
 have hsg : ¬ sgZ (n : Int) = 0 := by rw [sgZ_nat, if_neg hn0]; omega
 have o1 := of_m false m hM
 have o2 := of_m false n hN
 have hq : m / n < B64 ^ 4 := Nat.lt_of_le_of_lt (Nat.div_le_self _ _) hM
 have hr : m % n < B64 ^ 4 := Nat.lt_of_le_of_lt (Nat.mod_le _ _) hM
 have w1 := wideZ_m false (m / n) hq
 have w2 := wideZ_m false (m % n) hr
 rw [zb_f] at w1 w2
 rw [wz_nat] at c1 c2 cS
 rw [wz_nat m, wz_nat n]
 generalize sgZ (n : Int) = sg at *
 generalize m / n = q at *
 generalize m % n = r at *
 refine fn_of Tryz.func49 rfl (Nat.le_of_ble_eq_true rfl) rfl rfl ?_
 (repeat' (first | refine r_4eabd4 ?_ | (refine is_f 78 ?_; refine r_bb2b31 (c1) ?_) | (refine is_f 78 ?_; refine r_bb2b31 (c2) ?_) | (refine is_f 46 ?_; refine r_bb2b31 (cS) ?_) | (refine is_f 81 ?_; refine r_bb2b31 (o1) ?_) | (refine is_f 81 ?_; refine r_bb2b31 (o2) ?_) | (refine is_f 85 ?_; refine r_bb2b31 (cD) ?_) | (refine is_f 79 ?_; refine r_bb2b31 (w1) ?_) | (refine is_f 79 ?_; refine r_bb2b31 (w2) ?_) | (refine r_0efca5 (fun hb => ?_) (fun hb => ?_) <;> (try (exfalso; omega))) | fail))
 all_goals (first | (exfalso; omega) | exact absurd rfl hb | exact ret3cc [] (Rt.wz _) (Rt.wz _) (.bool rfl) rfl rfl rfl rfl rfl rfl rfl rfl (post_none rfl) rfl)
end Go.Proofs.YtibedaeefnjjlaaGreat
