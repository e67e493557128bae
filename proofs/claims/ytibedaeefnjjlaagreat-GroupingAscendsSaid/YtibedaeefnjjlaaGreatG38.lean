/- Texts of the second layer in one: Rr1 Rr2. -/
import Derived.Test.YtibedaeefnjjlaaGreatG37
import Derived.Test.YtibedaeefnjjlaaGreatG25
import Derived.Test.YtibedaeefnjjlaaGreatG27
set_option maxRecDepth 100000
set_option linter.unusedVariables false
set_option linter.unusedSimpArgs false
namespace Go.Proofs.YtibedaeefnjjlaaGreat
open Go.RowKit Go.Ab Go.Wd
set_option maxHeartbeats 4000000 in
theorem rSmallW_m (b : Bool) (n : Nat) (hn : n < B64 ^ 4) : Meets Tryz.prog 77 [wd b n] [] (.r (.v (.bool (decide (n < N127))))) [] := by
 have k1 : ¬ ((n / B64 / B64 / B64 % B64 : Nat) : Int) = 0 → false = decide (n < N127) := fun h => by
  refine (decide_eq_false ?_).symm
  unfold N127; unfold B64 at h; omega
 have k2 : ¬ ((n / B64 / B64 % B64 : Nat) : Int) = 0 → false = decide (n < N127) := fun h => by
  refine (decide_eq_false ?_).symm
  unfold N127; unfold B64 at h; omega
 have k3 : ¬ ((n / B64 % B64 : Nat) : Int) < 9223372036854775808 → false = decide (n < N127) := fun h => by
  refine (decide_eq_false ?_).symm
  unfold N127; unfold B64 at h; omega
 have k4 : ((n / B64 / B64 / B64 % B64 : Nat) : Int) = 0 → ((n / B64 / B64 % B64 : Nat) : Int) = 0 → ((n / B64 % B64 : Nat) : Int) < 9223372036854775808 → true = decide (n < N127) := fun h1 h2 h3 => by
  refine (decide_eq_true ?_).symm
  rw [B64_q] at hn
  unfold N127; unfold B64 at h1 h2 h3; omega
 unfold wd
 clear hn
 generalize decide (n < N127) = r at *
 generalize n / B64 / B64 / B64 % B64 = w3 at *
 generalize n / B64 / B64 % B64 = w2 at *
 generalize n / B64 % B64 = w1 at *
 generalize n % B64 = w0 at *
 refine fn_of Tryz.func77 rfl (Nat.le_of_ble_eq_true rfl) rfl rfl ?_
 (repeat' (first | refine r_4eabd4 ?_ | (refine r_0efca5 (fun hb => ?_) (fun hb => ?_) <;> (try (exfalso; omega))) | fail))
 all_goals (first | (exfalso; omega) | exact ret1 [] (.bool (k4 (by assumption) (by assumption) (by assumption))) rfl rfl rfl | exact ret1 [] (.bool (k1 (by assumption))) rfl rfl rfl | exact ret1 [] (.bool (k2 (by assumption))) rfl rfl rfl | exact ret1 [] (.bool (k3 (by assumption))) rfl rfl rfl)
theorem rAbs_m (z : Int) (hz : W4 z) : Meets Tryz.prog 48 [wz z] [] (wz ((z.natAbs : Nat) : Int)) [] := by
 rw [wz_nat]
 unfold wz
 refine fn_of Tryz.func48 rfl (Nat.le_of_ble_eq_true rfl) rfl rfl ?_
 (repeat' (first | refine r_4eabd4 ?_ | (refine r_0efca5 (fun hb => ?_) (fun hb => ?_) <;> (try (exfalso; omega))) | fail))
 all_goals exact ret1c [] (Rt.wd false z.natAbs) rfl rfl rfl rfl (post_none rfl) rfl
theorem rOne_m : Meets Tryz.prog 60 [] [] (wz 1) [] := by
 have c := rOf_m 1 (by constructor <;> decide)
 refine fn_of Tryz.func60 rfl (Nat.le_of_ble_eq_true rfl) rfl rfl ?_
 (repeat' (first | refine r_4eabd4 ?_ | (refine is_f 21 ?_; refine r_bb2b31 (c) ?_) | (refine r_0efca5 (fun hb => ?_) (fun hb => ?_) <;> (try (exfalso; omega))) | fail))
 all_goals exact ret1c [] (Rt.wz 1) rfl rfl rfl rfl (post_none rfl) rfl
def rgI (m n x y : Nat) : St := ⟨[(2, .pt 0 0), (3, .pt 1 0), (4, .pt 2 0), (5, .r (.v (.int .u64 (x : Int)))), (7, .r (.v (.int .u64 (y : Int))))], [(0, some (.var 36 (cellsA (wd false m)))), (1, some (.var 36 (cellsA (wd false n)))), (2, some (.var 36 (cellsA (wd false 0))))], 3⟩
end Go.Proofs.YtibedaeefnjjlaaGreat
namespace Go.Proofs.YtibedaeefnjjlaaGreat
open Go.RowKit Go.Ab Go.Wd
def VS (p q : Int) : Prop := VR p q ∧ p.natAbs < B64 ∧ q.natAbs < B64
theorem rSmallZ_m (z : Int) (hz : W4 z) : Meets Tryz.prog 77 [wz z] [] (.r (.v (.bool (decide (z.natAbs < N127))))) [] := rSmallW_m _ _ hz
theorem rOfQ_m (v : Int) (hv : I64 v) : Meets Tryz.prog 31 [.r (.v (.int .i64 v))] [] (rt v 1) [] := by
 have c1 := rOf_m v hv
 refine fn_of Tryz.func31 rfl (Nat.le_of_ble_eq_true rfl) rfl rfl ?_
 (repeat' (first | refine r_4eabd4 ?_ | (refine is_f 21 ?_; refine r_bb2b31 (c1) ?_) | (refine is_f 60 ?_; refine r_bb2b31 (rOne_m) ?_) | (refine r_0efca5 (fun hb => ?_) (fun hb => ?_) <;> (try (exfalso; omega))) | fail))
 all_goals exact ret1c [] (Rt.rt v 1) rfl rfl rfl rfl (post_none rfl) rfl
end Go.Proofs.YtibedaeefnjjlaaGreat
