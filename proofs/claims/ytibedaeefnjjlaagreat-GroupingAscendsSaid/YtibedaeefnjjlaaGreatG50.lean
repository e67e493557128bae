/- Texts of the second layer in one: Pi1 Pi2 Pi3 Pi4. -/
import Derived.Test.YtibedaeefnjjlaaGreatG49
import Derived.Test.YtibedaeefnjjlaaGreatG12
import Derived.Test.YtibedaeefnjjlaaGreatG42
import Derived.Test.YtibedaeefnjjlaaGreatG35
import Derived.Test.YtibedaeefnjjlaaGreatG31
import Derived.Test.YtibedaeefnjjlaaGreatG30
import Derived.Test.YtibedaeefnjjlaaGreatG32
set_option maxRecDepth 100000
set_option linter.unusedVariables false
set_option linter.unusedSimpArgs false
namespace Go.Proofs.YtibedaeefnjjlaaGreat
open Go.RowKit Go.Ab Go.Wd
theorem floor_facts (a b : Int) (hb : 0 < b) : (Int.tmod a b ≠ 0 → a < 0 → a / b = Int.tdiv a b - 1) ∧ (Int.tmod a b = 0 → a / b = Int.tdiv a b) ∧ (¬ a < 0 → a / b = Int.tdiv a b) := by
 have h1 := Int.mul_tdiv_add_tmod a b
 refine ⟨fun hr ha => ?_, fun hr => ?_, fun ha => (Int.tdiv_eq_ediv_of_nonneg (by omega)).symm⟩
 ·obtain ⟨n, rfl⟩ : ∃ n : Nat, a = -(n : Int) := ⟨a.natAbs, by omega⟩
  have h5 : Int.tmod (-(n : Int)) b = -((n : Int) % b) := by rw [Int.neg_tmod, Int.tmod_eq_emod_of_nonneg (by omega)]
  have h6 := Int.emod_nonneg (n : Int) (show b ≠ 0 by omega)
  have h7 := Int.emod_lt_of_pos (n : Int) hb
  have h8 : b * (Int.tdiv (-(n : Int)) b - 1) = b * Int.tdiv (-(n : Int)) b - b := by rw [Int.mul_sub]; omega
  have := (Int.ediv_emod_unique (a := -(n : Int)) (b := b) (r := Int.tmod (-(n : Int)) b + b) (q := Int.tdiv (-(n : Int)) b - 1) hb).2 ⟨by omega, by omega, by omega⟩
  exact this.1
 ·have := (Int.ediv_emod_unique (a := a) (b := b) (r := 0) (q := Int.tdiv a b) hb).2 ⟨by omega, by omega, by omega⟩
  exact this.1
theorem floor_bnd (a b : Int) (hb : 0 < b) (ha : I64 a) : I64 (a / b) ∧ I64 (Int.tdiv a b) ∧ (Int.tmod a b ≠ 0 → a < 0 → -9223372036854775808 ≤ Int.tdiv a b - 1) := by
 have hq : I64 (a / b) := by
  unfold I64 at *
  have e1 : a / b ≤ max a 0 := by
   rcases Int.lt_or_le a 0 with h | h
   ·have : a / b < 0 := Int.ediv_neg_of_neg_of_pos h hb
    omega
   ·have := Int.ediv_le_self b h
    omega
  have e2 : min a 0 ≤ a / b := by
   rcases Int.lt_or_le a 0 with h | h
   ·have : a ≤ a / b := by
     rw [Int.le_ediv_iff_mul_le hb]
     have : a * b ≤ a * 1 := Int.mul_le_mul_of_nonpos_left (by omega) (by omega)
     omega
    omega
   ·have := Int.ediv_nonneg h (Int.le_of_lt hb)
    omega
  omega
 obtain ⟨f1, f2, f3⟩ := floor_facts a b hb
 have hm : a < 0 → Int.tdiv a b ≤ 0 := fun h => by
  obtain ⟨n, rfl⟩ : ∃ n : Nat, a = -(n : Int) := ⟨a.natAbs, by omega⟩
  rw [Int.neg_tdiv, Int.tdiv_eq_ediv_of_nonneg (by omega)]
  have := Int.ediv_nonneg (show (0 : Int) ≤ n by omega) (Int.le_of_lt hb)
  omega
 refine ⟨hq, ?_, fun h1 h2 => ?_⟩
 ·unfold I64 at *
  by_cases h : a < 0
  ·by_cases hr : Int.tmod a b = 0
   ·rw [← f2 hr]; exact hq
   ·have := f1 hr h
    have := hm h
    omega
  ·rw [← f3 h]; exact hq
 ·have := f1 h1 h2
  unfold I64 at hq
  omega
theorem key_base (a b : Int) (hb : 0 < b) : a / b * b ≤ a ∧ a < a / b * b + b := by
 have h2 := Int.mul_ediv_add_emod a b
 have h3 := Int.emod_nonneg a (show b ≠ 0 by omega)
 have h4 := Int.emod_lt_of_pos a hb
 rw [Int.mul_comm] at h2
 omega
set_option maxHeartbeats 4000000 in
theorem floorDiv_m (a b : Int) (ha : I64 a) (hb : 0 < b) : Meets Tryz.prog 123 [.r (.v (.int .i64 a)), .r (.v (.int .i64 b))] [] (.tu [.r (.v (.int .i64 (a / b))), .r (.v (.bool true))]) [] := by
 obtain ⟨f1, f2, f3⟩ := floor_facts a b hb
 obtain ⟨g1, g2, g3⟩ := floor_bnd a b hb ha
 obtain ⟨t, ht⟩ : ∃ t, Int.tdiv a b = t := ⟨_, rfl⟩
 obtain ⟨r, hrm⟩ : ∃ r, Int.tmod a b = r := ⟨_, rfl⟩
 have hq : IntKind.i64.wrap (Int.tdiv a b) = t := by rw [ht] at g2 ⊢; unfold I64 at g2; rw [IntKind.wrap_i64]; omega
 have hb0 : b ≠ 0 := by omega
 rw [hrm, ht] at f1
 rw [hrm, ht] at f2
 rw [ht] at f3 g2
 rw [hrm, ht] at g3
 generalize a / b = q at *
 refine fn_of Tryz.func123 rfl (Nat.le_of_ble_eq_true rfl) rfl rfl ?_
 by_cases hr : r = 0
 ·have hf := f2 hr
  clear f1 f2 f3 g1 g2 g3 ha ht
  subst hr hf
  (repeat' (first | refine r_4eabd4 ?_ | (refine r_0efca5 (fun hb => ?_) (fun hb => ?_) <;> (try (exfalso; omega))) | fail))
  all_goals (first | (exfalso; omega) | exact ret2 [] (.int rfl) (.bool rfl) rfl rfl rfl rfl)
 ·by_cases ha0 : a < 0
  ·have hf := f1 hr ha0
   have hw : IntKind.i64.wrap (t - 1) = q := by have := g3 hr ha0; unfold I64 at g2; rw [IntKind.wrap_i64]; omega
   clear f1 f2 f3 g1 g2 g3 ha ht hf
   (repeat' (first | refine r_4eabd4 ?_ | (refine r_0efca5 (fun hb => ?_) (fun hb => ?_) <;> (try (exfalso; omega))) | fail))
   all_goals (first | (exfalso; omega) | exact ret2 [] (.int rfl) (.bool rfl) rfl rfl rfl rfl | (cases hb1 : decide (a < 0) <;> simp_all))
  ·have hf := f3 ha0
   clear f1 f2 f3 g1 g2 g3 ha ht
   subst hf
   (repeat' (first | refine r_4eabd4 ?_ | (refine r_0efca5 (fun hb => ?_) (fun hb => ?_) <;> (try (exfalso; omega))) | fail))
   all_goals (first | (exfalso; omega) | exact ret2 [] (.int rfl) (.bool rfl) rfl rfl rfl rfl)
def unitE (e : Int) : Int := if e < 1 then 1 else e
theorem unitE_pos (e : Int) : 0 < unitE e := by unfold unitE; split <;> omega
theorem unit_m (e : Int) : Meets Tryz.prog 91 [.r (.v (.int .i64 e))] [] (.r (.v (.int .i64 (unitE e)))) [] := by
 have h : (if (1 : Int) > e then 1 else e) = unitE e := rfl
 refine fn_of Tryz.func91 rfl (Nat.le_of_ble_eq_true rfl) rfl rfl ?_
 (repeat' (first | refine r_4eabd4 ?_ | (refine r_0efca5 (fun hb => ?_) (fun hb => ?_) <;> (try (exfalso; omega))) | fail))
 all_goals exact ret1 [] (.int h) rfl rfl rfl
def keyE (v e : Int) : Int := v / unitE e
theorem key_m (v e : Int) (hv : I64 v) : Meets Tryz.prog 88 [.r (.v (.int .i64 v)), .r (.v (.int .i64 e))] [] (.r (.v (.int .i64 (keyE v e)))) [] := by
 have c1 := unit_m e
 have c2 := floorDiv_m v (unitE e) hv (unitE_pos e)
 refine fn_of Tryz.func88 rfl (Nat.le_of_ble_eq_true rfl) rfl rfl ?_
 (repeat' (first | refine r_4eabd4 ?_ | (refine is_f 91 ?_; refine r_bb2b31 (c1) ?_) | (refine is_f 123 ?_; refine r_bb2b31 (c2) ?_) | (refine r_0efca5 (fun hb => ?_) (fun hb => ?_) <;> (try (exfalso; omega))) | fail))
 all_goals exact ret1 [] (.int rfl) rfl rfl rfl
theorem base_m (k e : Int) (hk : I64 k) (he : I64 e) : Meets Tryz.prog 57 [.r (.v (.int .i64 k)), .r (.v (.int .i64 e))] [] (wz (k * unitE e)) [] := by
 have c1 := unit_m e
 have hu : I64 (unitE e) := by unfold I64 unitE at *; split <;> omega
 have o1 := rOf_m k hk
 have o2 := rOf_m (unitE e) hu
 have hk1 : k.natAbs < N127 := by unfold I64 at hk; unfold N127; omega
 have hu1 : (unitE e).natAbs < N127 := by unfold I64 at hu; unfold N127; omega
 have cM := rMul_m k (unitE e) (N127_w4 hk1) (N127_w4 hu1) (mul_w4 hk1 hu1)
 generalize k * unitE e = z at *
 generalize unitE e = u at *
 refine fn_of Tryz.func57 rfl (Nat.le_of_ble_eq_true rfl) rfl rfl ?_
 (repeat' (first | refine r_4eabd4 ?_ | (refine is_f 91 ?_; refine r_bb2b31 (c1) ?_) | (refine is_f 21 ?_; refine r_bb2b31 (o1) ?_) | (refine is_f 21 ?_; refine r_bb2b31 (o2) ?_) | (refine is_f 43 ?_; refine r_bb2b31 (cM) ?_) | (refine r_0efca5 (fun hb => ?_) (fun hb => ?_) <;> (try (exfalso; omega))) | fail))
 all_goals exact ret1c [] (Rt.wz z) rfl rfl rfl rfl (post_none rfl) rfl
theorem rcTol_m (t : Int) (h : 0 ≤ t ∧ t ≤ 4611686018427387904) : Meets Tryz.prog 51 [.r (.v (.int .i64 t))] [] (.r (.v (.bool true))) [] := by
 refine fn_of Tryz.func51 rfl (Nat.le_of_ble_eq_true rfl) rfl rfl ?_
 (repeat' (first | refine r_4eabd4 ?_ | (refine r_0efca5 (fun hb => ?_) (fun hb => ?_) <;> (try (exfalso; omega))) | fail))
 all_goals (first | (exfalso; omega) | exact ret1 [] (.bool rfl) rfl rfl rfl)
end Go.Proofs.YtibedaeefnjjlaaGreat
namespace Go.Proofs.YtibedaeefnjjlaaGreat
open Go.RowKit Go.Ab Go.Wd
theorem mkQ_VR (m : Int) (d : Nat) (hd : 0 < d) (hm : m.natAbs < N127) (hd2 : d < N127) : VR (mkQ m d).1 (mkQ m d).2 := by
 obtain ⟨h1, h2, h3, h4, h5⟩ := mkQ_mul m d hd
 exact ⟨h2, by omega, by omega, h5⟩
theorem lim66 : wz (((73786976294838206464 : Nat)) : Int) = .ag [.r (.v (.bool false)), .r (.v (.int .u64 0)), .r (.v (.int .u64 4)), .r (.v (.int .u64 0)), .r (.v (.int .u64 0))] := by
 have e0 : (73786976294838206464 % B64 : Nat) = 0 := by decide
 have e1 : (73786976294838206464 / B64 % B64 : Nat) = 4 := by decide
 have e2 : (73786976294838206464 / B64 / B64 % B64 : Nat) = 0 := by decide
 have e3 : (73786976294838206464 / B64 / B64 / B64 % B64 : Nat) = 0 := by decide
 rw [wz_nat]
 unfold wd
 rw [e0, e1, e2, e3]
 rfl
def zcn : List AV := vsA (cnVs false 0 0 0 0)
def thA (base v e : Int) (dt : Nat) : St := ⟨[(1, .r (.v (.int .i64 v))), (2, .r (.v (.int .i64 e))), (3, .r (.v (.int .u64 (dt : Int)))), (4, .pt 0 0), (8, .pt 1 0)], [(0, some (.var 36 (cellsA (wz base)))), (1, some (.var 40 zcn))], 2⟩
def thB (lo hi : Int) (dt : Nat) : St := ⟨[(3, .r (.v (.int .u64 (dt : Int)))), (8, .pt 0 0), (14, .pt 1 0), (16, .pt 2 0)], [(0, some (.var 40 zcn)), (1, some (.var 36 (cellsA (wz lo)))), (2, some (.var 36 (cellsA (wz hi))))], 3⟩
set_option maxHeartbeats 8000000 in
theorem rcThrough_m (base v e : Int) (dt : Nat) (hb : base.natAbs < 73786976294838206464) (hv : I64 v) (he : 0 ≤ e ∧ e ≤ 4611686018427387904) (hd : 0 < dt) (hd2 : dt < B64) :
  Meets Tryz.prog 56 [wz base, .r (.v (.int .i64 v)), .r (.v (.int .i64 e)), .r (.v (.int .u64 (dt : Int)))] [] (.tu [cn false (mkQ (v - base - e) dt).1 (mkQ (v - base - e) dt).2 (mkQ (v - base + e) dt).1 (mkQ (v - base + e) dt).2, .r (.v (.bool true))]) [] := by
 have hI : I64 e := by unfold I64; omega
 have w4 : ∀ z : Int, z.natAbs < 170141183460469231731687303715884105728 → W4 z := fun z hz => N127_w4 (by unfold N127; omega)
 unfold I64 at hv
 have hdN : dt < N127 := B64_N127 hd2
 have hd4 : dt < B64 ^ 4 := N127_w4 hdN
 have v1 := validRZ_m base (w4 base (by omega))
 have cC := rCompare_m ((base.natAbs : Nat) : Int) ((73786976294838206464 : Nat) : Int) (by rw [Int.natAbs_natCast]; exact w4 base (by omega)) (w4 _ (by decide))
 have hc : cmpZ ((base.natAbs : Nat) : Int) ((73786976294838206464 : Nat) : Int) = -1 := by unfold cmpZ; rw [if_pos (by omega)]
 rw [hc, lim66] at cC
 have cT := rcTol_m e he
 have o1 := rOf_m v hv
 have o2 := rOf_m e hI
 have s1 := rSub_m v base (w4 v (by omega)) (w4 base (by omega)) (w4 _ (by omega))
 have s2 := rSub_m (v - base) e (w4 _ (by omega)) (w4 e (by omega)) (w4 _ (by omega))
 have s3 := rAdd_m (v - base) e (w4 _ (by omega)) (w4 e (by omega)) (w4 _ (by omega))
 have oU := rOfU_m dt hd2
 have q1 := mkQ_VR (v - base - e) dt hd (by unfold N127; omega) hdN
 have q2 := mkQ_VR (v - base + e) dt hd (by unfold N127; omega) hdN
 have m1 := make_g (v - base - e) dt (w4 _ (by omega)) hd4 (by omega) q1
 have m2 := make_g (v - base + e) dt (w4 _ (by omega)) hd4 (by omega) q2
 clear q1 q2 w4 hdN hd4 hb hc hI
 generalize (mkQ (v - base - e) dt).1 = p at *
 generalize (mkQ (v - base - e) dt).2 = q at *
 generalize (mkQ (v - base + e) dt).1 = r at *
 generalize (mkQ (v - base + e) dt).2 = s at *
 generalize v - base - e = lo at *
 generalize v - base + e = hi at *
 generalize v - base = d at *
 rw [wz_nat] at cC
 refine fn_of Tryz.func56 rfl (Nat.le_of_ble_eq_true rfl) rfl rfl ?_
 (repeat' (first | (first | refine awp_halt 6 ?_ | refine awp_haltR 6 ?_) | refine r_2ec44d ?_ | refine r_d3423f ?_ | (refine is_f 45 ?_; refine r_e7cc0f (v1) ?_) | (refine is_f 44 ?_; refine r_e7cc0f (cC) ?_) | (refine is_f 51 ?_; refine r_e7cc0f (cT) ?_) | (refine r_0efca5 (fun hb => ?_) (fun hb => ?_) <;> (try (exfalso; omega))) | fail))
 all_goals (first | (exfalso; omega) | skip)
 refine halt ?_
 refine awp_le (T := thA base v e dt) (by (refine Le.mk [(0,0),(1,1)] [] q_5ec36 q_871b6 q_bbfed q_509a2)) ?_
 (repeat' (first | (first | refine awp_halt 9 ?_ | refine awp_haltR 9 ?_) | refine r_2ec44d ?_ | refine r_d3423f ?_ | (refine is_f 21 ?_; refine r_e7cc0f (o1) ?_) | (refine is_f 21 ?_; refine r_e7cc0f (o2) ?_) | (refine is_f 89 ?_; refine r_e7cc0f (s1) ?_) | (refine is_f 89 ?_; refine r_e7cc0f (s2) ?_) | (refine is_f 90 ?_; refine r_e7cc0f (s3) ?_) | (refine r_0efca5 (fun hb => ?_) (fun hb => ?_) <;> (try (exfalso; omega))) | fail))
 refine halt ?_
 refine awp_le (T := thB lo hi dt) (by (refine Le.mk [(0,1),(1,3),(2,4)] [] q_5ec36 q_871b6 q_bbfed q_509a2)) ?_
 (repeat' (first | refine r_95e112 ?_ | (refine is_f 84 ?_; refine r_e7cc0f (oU) ?_) | (refine is_f 22 ?_; refine r_e7cc0f (m1) ?_) | (refine is_f 22 ?_; refine r_e7cc0f (m2) ?_) | (refine r_0efca5 (fun hb => ?_) (fun hb => ?_) <;> (try (exfalso; omega))) | fail))
 all_goals exact ret2c [] (Rt.cn false p q r s) (.bool rfl) rfl rfl rfl rfl rfl (post_none rfl) rfl
end Go.Proofs.YtibedaeefnjjlaaGreat
namespace Go.Proofs.YtibedaeefnjjlaaGreat
open Go.RowKit Go.Ab Go.Wd
structure Ps where
 tol : Int
 ix : Int
 ct : Int
 fT : Int
 fV : Int
 last : Int
 ky : Int
 c : Cn
def psV (t i ct a b la ky : Int) (o : Bool) (p q r s : Int) : List Value := .int .i64 t :: .int .i64 i :: .int .i64 ct :: .int .i64 a :: .int .i64 b :: .int .i64 la :: .int .i64 ky :: cnVs o p q r s
def psVs (x : Ps) : List Value := psV x.tol x.ix x.ct x.fT x.fV x.last x.ky x.c.o x.c.p x.c.q x.c.r x.c.s
def stA (x : Ps) : AV := .ag (vsA (psVs x))
theorem Rt.stA {H : Nat → Option Blk} {L : Nat} {G : List Nat} (x : Ps) : Rt H L G (Go.Proofs.YtibedaeefnjjlaaGreat.stA x) (Go.Proofs.YtibedaeefnjjlaaGreat.stA x) [] := .ag _ _ _ (Rt.agR ((psVs x).map RV.v))
def Ps.tolOk (x : Ps) : Prop := 0 ≤ x.tol ∧ x.tol ≤ 4611686018427387904 ∧ 0 ≤ x.ix ∧ x.ix ≤ 1073741824
def Ps.ok0 (x : Ps) : Prop := x.tolOk ∧ x.ct = 0 ∧ x.fT = 0 ∧ x.fV = 0 ∧ x.last = 0 ∧ x.ky = 0 ∧ x.c = ⟨false, 0, 0, 0, 0⟩
def Ps.ok1 (x : Ps) : Prop := x.tolOk ∧ x.ct = 1 ∧ I64 x.fV ∧ x.ky = keyE x.fV x.tol ∧ x.last = x.fT ∧ x.c = ⟨true, 0, 0, 0, 0⟩
def Ps.ok2 (x : Ps) : Prop := x.tolOk ∧ 1 < x.ct ∧ x.ct ≤ 1073741824 ∧ I64 x.fV ∧ x.ky = keyE x.fV x.tol ∧ x.fT < x.last ∧ x.c.o = false ∧ VC x.c.p x.c.q x.c.r x.c.s
theorem eqr_smp {d : Nat} (a b : Int) : EqR Tryz.prog (d + 2) 65 (.agg [Value.int .i64 a, Value.int .i64 b].toArray) (.agg [Value.int .i64 a, Value.int .i64 b].toArray) true := by
 have hu : Tryz.prog.underlying 2 = some (.int .i64) := by kernel_rfl
 have h : EqR Tryz.prog (d + 1 + 1) 65 (.agg [Value.int .i64 a, Value.int .i64 b].toArray) (.agg [Value.int .i64 a, Value.int .i64 b].toArray) ((a == a) && ((b == b) && true)) := by
  refine eqr_struct (l := [(2, 0), (2, 1)]) (fun _ o => if o = 0 then a == a else b == b) (by kernel_rfl) (by kernel_rfl) (by kernel_rfl) (by kernel_rfl) fun w x hx => ?_
  simp only [List.mem_cons, List.not_mem_nil, or_false] at hx
  rcases hx with rfl | rfl
  ·exact ⟨.int .i64 a, .int .i64 a, run_part_cellE hu rfl rfl w, run_part_cellE hu rfl rfl w, eqr_int hu⟩
  ·exact ⟨.int .i64 b, .int .i64 b, run_part_cellE hu rfl rfl w, run_part_cellE hu rfl rfl w, eqr_int hu⟩
 have e : ((a == a) && ((b == b) && true)) = true := by simp
 rw [e] at h
 exact h
set_option maxHeartbeats 8000000 in
theorem eqr_psG {d : Nat} {t i ct a b la ky : Int} {o : Bool} {p q r s : Int} (hp : W4 p) (hq : W4 q) (hr : W4 r) (hs : W4 s) : EqR Tryz.prog (d + 6) 67 (.agg (psV t i ct a b la ky o p q r s).toArray) (.agg (psV t i ct a b la ky o p q r s).toArray) true := by
 have hu : Tryz.prog.underlying 2 = some (.int .i64) := by kernel_rfl
 have hu2 : Tryz.prog.underlying 3 = some (.int .i64) := by kernel_rfl
 have hS : Tryz.prog.underlying 65 = some (.struct (Tryz.prog.fieldsOf 65)) := by kernel_rfl
 have hc : Tryz.prog.underlying 40 = some (.struct (Tryz.prog.fieldsOf 40)) := by kernel_rfl
 have h : EqR Tryz.prog (d + 5 + 1) 67 (.agg (psV t i ct a b la ky o p q r s).toArray) (.agg (psV t i ct a b la ky o p q r s).toArray) ((t == t) && ((i == i) && ((ct == ct) && (true && ((la == la) && ((ky == ky) && (decide (o = o ∧ p = p ∧ q = q ∧ r = r ∧ s = s) && true))))))) := by
  refine eqr_struct (l := [(2, 0), (3, 1), (3, 2), (65, 3), (2, 5), (2, 6), (40, 7)]) (fun _ k => if k = 0 then t == t else if k = 1 then i == i else if k = 2 then ct == ct else if k = 3 then true else if k = 5 then la == la else if k = 6 then ky == ky else decide (o = o ∧ p = p ∧ q = q ∧ r = r ∧ s = s)) (by kernel_rfl) (by kernel_rfl) (by kernel_rfl) (by kernel_rfl) fun w x hx => ?_
  simp only [List.mem_cons, List.not_mem_nil, or_false] at hx
  rcases hx with rfl | rfl | rfl | rfl | rfl | rfl | rfl
  ·exact ⟨.int .i64 t, .int .i64 t, run_part_cellE hu rfl rfl w, run_part_cellE hu rfl rfl w, eqr_int hu⟩
  ·exact ⟨.int .i64 i, .int .i64 i, run_part_cellE hu2 rfl rfl w, run_part_cellE hu2 rfl rfl w, eqr_int hu2⟩
  ·exact ⟨.int .i64 ct, .int .i64 ct, run_part_cellE hu2 rfl rfl w, run_part_cellE hu2 rfl rfl w, eqr_int hu2⟩
  ·exact ⟨_, _, run_part_aggE (n := 2) hS rfl (by kernel_rfl) w, run_part_aggE (n := 2) hS rfl (by kernel_rfl) w, eqr_smp a b⟩
  ·exact ⟨.int .i64 la, .int .i64 la, run_part_cellE hu rfl rfl w, run_part_cellE hu rfl rfl w, eqr_int hu⟩
  ·exact ⟨.int .i64 ky, .int .i64 ky, run_part_cellE hu rfl rfl w, run_part_cellE hu rfl rfl w, eqr_int hu⟩
  ·have hx : (psV t i ct a b la ky o p q r s).toArray.extract 7 (7 + 21) = (cnVs o p q r s).toArray := by
    have h1 : (psV t i ct a b la ky o p q r s).drop 7 = cnVs o p q r s := rfl
    have h2 : (cnVs o p q r s).length = 21 := rfl
    rw [List.extract_toArray, List.extract_eq_take_drop, h1, List.take_of_length_le (by omega)]
   have hg := run_part_aggE (xs := (psV t i ct a b la ky o p q r s).toArray) (off := 7) (n := 21) hc rfl (by kernel_rfl) w
   rw [hx] at hg
   exact ⟨_, _, hg, hg, eqr_cn hp hq hp hq hr hs hr hs⟩
 have e : ((t == t) && ((i == i) && ((ct == ct) && (true && ((la == la) && ((ky == ky) && (decide (o = o ∧ p = p ∧ q = q ∧ r = r ∧ s = s) && true))))))) = true := by simp
 rw [e] at h
 exact h
section
variable {env : Nat → AV} {H : Nat → Option Blk} {d : Option Tmp} {ty : TypeId} {pos : String} {af : Array Edge} {g : Option (Nat × Bool)} {u : TypeId} {x y : Operand}
theorem p_eqps (t i : Int) (hx : evA env x = .ag (vsA (psV t i 0 0 0 0 0 false 0 0 0 0))) (hy : evA env y = .ag (vsA (psV t i 0 0 0 0 0 false 0 0 0 0))) : ReadOk Tryz.prog ⟨d, .binOp .eql 67 x y u, ty, pos, af, g⟩ env H [] (.r (.v (.bool true))) :=
 p_eqR (vs := psV t i 0 0 0 0 0 false 0 0 0 0) (us := psV t i 0 0 0 0 0 false 0 0 0 0) (by kernel_rfl) (eqr_psG (d := 9994) w4_zero w4_zero w4_zero w4_zero) hx hy
end
set_option maxHeartbeats 8000000 in
theorem psValid0_m (x : Ps) (h : x.ok0) : Meets Tryz.prog 54 [stA x] [] (.r (.v (.bool true))) [] := by
 obtain ⟨t, i, ct, fT, fV, la, ky, c⟩ := x
 obtain ⟨⟨h1, h2, h3, h4⟩, h5, h6, h7, h8, h9, h10⟩ := h
 unfold stA psVs
 dsimp only at *
 subst h5 h6 h7 h8 h9 h10
 have cT := rcTol_m t ⟨h1, h2⟩
 refine fn_of Tryz.func54 rfl (Nat.le_of_ble_eq_true rfl) rfl rfl ?_
 (repeat' (first | (refine is_bin ?_; refine is_b_eql ?_; refine w_read rfl q_85eb5 (p_eqps t i rfl rfl) ?_) | refine r_95e112 ?_ | (refine is_f 51 ?_; refine r_e7cc0f (cT) ?_) | (refine r_0efca5 (fun hb => ?_) (fun hb => ?_) <;> (try (exfalso; omega))) | fail))
 all_goals (first | (exfalso; omega) | exact ret1 [] (.bool rfl) rfl rfl rfl)
set_option maxHeartbeats 8000000 in
theorem psValid1_m (x : Ps) (h : x.ok1) : Meets Tryz.prog 54 [stA x] [] (.r (.v (.bool true))) [] := by
 obtain ⟨t, i, ct, fT, fV, la, ky, c⟩ := x
 obtain ⟨⟨h1, h2, h3, h4⟩, h5, h6, h7, h8, h9⟩ := h
 unfold stA psVs
 dsimp only at *
 have cK := key_m fV t h6
 rw [← h7] at cK
 subst h5 h8 h9
 clear h7
 have cT := rcTol_m t ⟨h1, h2⟩
 have cS := rcStart_m
 refine fn_of Tryz.func54 rfl (Nat.le_of_ble_eq_true rfl) rfl rfl ?_
 (repeat' (first | (refine is_bin ?_; refine is_b_eql ?_; refine w_read rfl q_85eb5 (p_eqcn0 rfl rfl) ?_) | refine r_95e112 ?_ | (refine is_f 51 ?_; refine r_e7cc0f (cT) ?_) | (refine is_f 88 ?_; refine r_e7cc0f (cK) ?_) | (refine is_f 19 ?_; refine r_e7cc0f (cS) ?_) | (refine r_0efca5 (fun hb => ?_) (fun hb => ?_) <;> (try (exfalso; omega))) | fail))
 all_goals (first | (exfalso; omega) | exact ret1 [] (.bool rfl) rfl rfl rfl)
set_option maxHeartbeats 8000000 in
theorem psValid2_m (x : Ps) (h : x.ok2) : Meets Tryz.prog 54 [stA x] [] (.r (.v (.bool true))) [] := by
 obtain ⟨t, i, ct, fT, fV, la, ky, ⟨o, p, q, r, s⟩⟩ := x
 obtain ⟨⟨h1, h2, h3, h4⟩, h5, h5', h6, h7, h8, h9, h10⟩ := h
 unfold stA psVs
 dsimp only at *
 have cK := key_m fV t h6
 rw [← h7] at cK
 subst h9
 clear h7
 have cT := rcTol_m t ⟨h1, h2⟩
 have cV := rcValidG_m p q r s h10.1 h10.2.1 h10.2.2
 refine fn_of Tryz.func54 rfl (Nat.le_of_ble_eq_true rfl) rfl rfl ?_
 (repeat' (first | refine r_95e112 ?_ | (refine is_f 51 ?_; refine r_e7cc0f (cT) ?_) | (refine is_f 88 ?_; refine r_e7cc0f (cK) ?_) | (refine is_f 40 ?_; refine r_e7cc0f (cV) ?_) | (refine r_0efca5 (fun hb => ?_) (fun hb => ?_) <;> (try (exfalso; omega))) | fail))
 all_goals (first | (exfalso; omega) | exact ret1 [] (.bool rfl) rfl rfl rfl)
def psBegin (x : Ps) (tm v : Int) : Ps := ⟨x.tol, x.ix + x.ct, 1, tm, v, tm, keyE v x.tol, ⟨true, 0, 0, 0, 0⟩⟩
set_option maxHeartbeats 8000000 in
theorem psBegin_m (x : Ps) (tm v : Int) (hv : I64 v) (hw : 0 ≤ x.ix ∧ 0 ≤ x.ct ∧ x.ix + x.ct < 4611686018427387904) : Meets Tryz.prog 55 [stA x, .ag [.r (.v (.int .i64 tm)), .r (.v (.int .i64 v))]] [] (stA (psBegin x tm v)) [] := by
 obtain ⟨t, i, ct, fT, fV, la, ky, ⟨o, p, q, r, s⟩⟩ := x
 unfold psBegin stA psVs
 dsimp only at *
 have cK := key_m v t hv
 have cS := rcStart_m
 obtain ⟨n, hn⟩ : ∃ n, n = i + ct := ⟨_, rfl⟩
 have ha : IntKind.i64.wrap (i + ct) = n := by rw [IntKind.wrap_i64]; omega
 generalize keyE v t = k at *
 rw [← hn]
 clear hn
 refine fn_of Tryz.func55 rfl (Nat.le_of_ble_eq_true rfl) rfl rfl ?_
 (repeat' (first | (refine is_build ?_; refine w_read rfl q_85eb5 (p_build (cs := vsA (psV t n 1 tm v tm k true 0 0 0 0)) [] (by kernel_rfl) (by kernel_rfl) (fun i b h => nomatch h)) ?_) | refine r_95e112 ?_ | (refine is_f 88 ?_; refine r_e7cc0f (cK) ?_) | (refine is_f 19 ?_; refine r_e7cc0f (cS) ?_) | (refine r_0efca5 (fun hb => ?_) (fun hb => ?_) <;> (try (exfalso; omega))) | fail))
 all_goals exact ret1c [] (Rt.stA ⟨t, n, 1, tm, v, tm, k, ⟨true, 0, 0, 0, 0⟩⟩) rfl rfl rfl rfl (post_none rfl) rfl
end Go.Proofs.YtibedaeefnjjlaaGreat
namespace Go.Proofs.YtibedaeefnjjlaaGreat
open Go.RowKit Go.Ab Go.Wd
theorem rmeet_some {a b c : Cn} (ha : a.ok) (hb : b.ok) (h : meetC a b = some c) : Meets Tryz.prog 59 [a.A, b.A] [] (.tu [c.A, .r (.v (.bool true))]) [] := by
 obtain ⟨o, p, q, r, s⟩ := a
 obtain ⟨o', p', q', r', s'⟩ := b
 unfold meetC at h
 unfold Cn.A
 rcases ha with ⟨h1, h2, h3, h4, h5⟩ | ⟨h1, h2⟩ <;> dsimp only at * <;> subst h1
 ·subst h2 h3 h4 h5
  rw [if_pos rfl] at h
  injection h with h
  subst h
  refine rcMeet0l_m _ _ _ _ _ ?_
  rcases hb with ⟨g1, g2, g3, g4, g5⟩ | ⟨g1, g2⟩ <;> dsimp only at * <;> subst g1
  ·subst g2 g3 g4 g5; exact rcValid0_m
  ·exact rcValidG_m _ _ _ _ g2.1 g2.2.1 g2.2.2
 ·rw [if_neg (by simp)] at h
  rcases hb with ⟨g1, g2, g3, g4, g5⟩ | ⟨g1, g2⟩ <;> dsimp only at * <;> subst g1
  ·rw [if_pos rfl] at h
   injection h with h
   subst h g2 g3 g4 g5
   exact rcMeet0rG_m _ _ _ _ h2.1 h2.2.1 h2.2.2
  ·rw [if_neg (by simp)] at h
   have := rcMeetG_m p q r s p' q' r' s' h2.1 h2.2.1 h2.2.2 g2.1 g2.2.1 g2.2.2
   split at h
   ·rename_i h3
    rw [if_pos h3] at this
    injection h with h
    subst h
    exact this
   ·cases h
theorem rmeet_none {a b : Cn} (ha : a.ok) (hb : b.ok) (h : meetC a b = none) : Meets Tryz.prog 59 [a.A, b.A] [] (.tu [cn false 0 0 0 0, .r (.v (.bool false))]) [] := by
 obtain ⟨o, p, q, r, s⟩ := a
 obtain ⟨o', p', q', r', s'⟩ := b
 unfold meetC at h
 unfold Cn.A
 rcases ha with ⟨h1, h2, h3, h4, h5⟩ | ⟨h1, h2⟩ <;> dsimp only at * <;> subst h1
 ·rw [if_pos rfl] at h; cases h
 ·rw [if_neg (by simp)] at h
  rcases hb with ⟨g1, g2, g3, g4, g5⟩ | ⟨g1, g2⟩ <;> dsimp only at * <;> subst g1
  ·rw [if_pos rfl] at h; cases h
  ·rw [if_neg (by simp)] at h
   have := rcMeetG_m p q r s p' q' r' s' h2.1 h2.2.1 h2.2.2 g2.1 g2.2.1 g2.2.2
   split at h
   ·cases h
   ·rename_i h3
    rw [if_neg h3] at this
    exact this
def Ps.pc (x : Ps) : Pc := ⟨x.ix, x.ct, x.ky, x.c⟩
theorem psValid_m (x : Ps) (h : x.ok1 ∨ x.ok2) : Meets Tryz.prog 54 [stA x] [] (.r (.v (.bool true))) [] := h.elim (psValid1_m x) (psValid2_m x)
set_option maxHeartbeats 8000000 in
theorem psFinish0_m (x : Ps) (h : x.ok0) : Meets Tryz.prog 26 [stA x] [] (.tu [.r (.v (.slice none 0 0)), .r (.v (.int .i64 0))]) [] := by
 have cV := psValid0_m x h
 have h1 := h.2.1
 obtain ⟨t, i, ct, fT, fV, la, ky, c⟩ := x
 unfold stA psVs at *
 dsimp only at *
 clear h
 refine fn_of Tryz.func26 rfl (Nat.le_of_ble_eq_true rfl) rfl rfl ?_
 (repeat' (first | refine r_95e112 ?_ | (refine is_f 54 ?_; refine r_e7cc0f (cV) ?_) | (refine r_0efca5 (fun hb => ?_) (fun hb => ?_) <;> (try (exfalso; omega))) | fail))
 all_goals (first | (exfalso; omega) | exact ret2 [] (.r _) (.int rfl) rfl rfl rfl rfl)
set_option maxHeartbeats 8000000 in
theorem psFinish_m (x : Ps) (h : x.ok1 ∨ x.ok2) : Meets Tryz.prog 26 [stA x] [] (.tu [.fr 42 24 (pcs [x.pc]), .r (.v (.int .i64 0))]) [] := by
 have cV := psValid_m x h
 have h1 : x.ct ≠ 0 := by rcases h with h | h <;> (have := h.2.1; omega)
 obtain ⟨t, i, ct, fT, fV, la, ky, ⟨o, p, q, r, s⟩⟩ := x
 unfold stA psVs Ps.pc at *
 dsimp only at *
 clear h
 refine fn_of Tryz.func26 rfl (Nat.le_of_ble_eq_true rfl) rfl rfl ?_
 (repeat' (first | (first | refine awp_halt 5 ?_ | refine awp_haltR 5 ?_) | refine r_2ec44d ?_ | refine r_d3423f ?_ | (refine is_f 54 ?_; refine r_e7cc0f (cV) ?_) | (refine r_0efca5 (fun hb => ?_) (fun hb => ?_) <;> (try (exfalso; omega))) | fail))
 all_goals (first | (exfalso; omega) | skip)
 refine halt ?_
 (repeat' (first | refine r_95e112 ?_ | (refine r_0efca5 (fun hb => ?_) (fun hb => ?_) <;> (try (exfalso; omega))) | fail))
 all_goals (first | (exfalso; omega) | exact ret2 [] (.fr 1 _ _ _ rfl) (.int rfl) rfl rfl rfl rfl)
end Go.Proofs.YtibedaeefnjjlaaGreat
