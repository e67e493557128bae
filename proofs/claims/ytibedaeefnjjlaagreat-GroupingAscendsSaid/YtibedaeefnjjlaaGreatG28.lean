/- Texts of the second layer in one: Co1. -/
import Derived.Test.YtibedaeefnjjlaaGreatG27
set_option maxRecDepth 100000
set_option linter.unusedVariables false
set_option linter.unusedSimpArgs false
namespace Go.Proofs.YtibedaeefnjjlaaGreat
open Go.RowKit Go.Ab Go.Wd
def cn (o : Bool) (p q r s : Int) : AV := .ag (vsA (cnVs o p q r s))
theorem Rt.cn {H : Nat → Option Blk} {L : Nat} {G : List Nat} (o : Bool) (p q r s : Int) : Rt H L G (Go.Proofs.YtibedaeefnjjlaaGreat.cn o p q r s) (Go.Proofs.YtibedaeefnjjlaaGreat.cn o p q r s) [] := by
 refine .ag _ _ _ ?_
 have : vsA (cnVs o p q r s) = ((cnVs o p q r s).map RV.v).map AV.r := by unfold vsA; rw [List.map_map]; rfl
 rw [this]; exact Rt.agR _
def VC (p q r s : Int) : Prop := VR p q ∧ VR r s ∧ p * s ≤ r * q
theorem w4_zero : W4 0 := by unfold W4; rw [B64_q]; decide
set_option maxHeartbeats 8000000 in
theorem coneStart_m : Meets Tryz.prog 93 [] [] (cn true 0 0 0 0) [] := by
 refine fn_of Tryz.func93 rfl (Nat.le_of_ble_eq_true rfl) rfl rfl ?_
 (repeat' (first | refine r_4eabd4 ?_ | (refine r_0efca5 (fun hb => ?_) (fun hb => ?_) <;> (try (exfalso; omega))) | fail))
 all_goals exact ret1c [] (Rt.cn _ _ _ _ _) rfl rfl rfl rfl (post_none rfl) rfl
section
variable {env : Nat → AV} {H : Nat → Option Blk} {d : Option Tmp} {ty : TypeId} {pos : String} {af : Array Edge} {g : Option (Nat × Bool)} {u : TypeId} {x y : Operand}
theorem p_eqcn0 (hx : evA env x = cn true 0 0 0 0) (hy : evA env y = cn true 0 0 0 0) : ReadOk Tryz.prog ⟨d, .binOp .eql 40 x y u, ty, pos, af, g⟩ env H [] (.r (.v (.bool true))) :=
 p_eqR (vs := cnVs true 0 0 0 0) (us := cnVs true 0 0 0 0) (by kernel_rfl) (eqr_cn (d := 9995) w4_zero w4_zero w4_zero w4_zero w4_zero w4_zero w4_zero w4_zero) hx hy
end
set_option maxHeartbeats 8000000 in
theorem coneValid0_m : Meets Tryz.prog 64 [cn true 0 0 0 0] [] (.r (.v (.bool true))) [] := by
 refine fn_of Tryz.func64 rfl (Nat.le_of_ble_eq_true rfl) rfl rfl ?_
 (repeat' (first | (refine is_bin ?_; refine is_b_eql ?_; refine w_read rfl q_85eb5 (p_eqcn0 rfl rfl) ?_) | refine r_4eabd4 ?_ | (refine is_f 93 ?_; refine r_bb2b31 (coneStart_m) ?_) | (refine r_0efca5 (fun hb => ?_) (fun hb => ?_) <;> (try (exfalso; omega))) | fail))
 all_goals exact ret1 [] (.bool rfl) rfl rfl rfl
set_option maxHeartbeats 8000000 in
theorem coneValid_m (p q r s : Int) (h : VC p q r s) : Meets Tryz.prog 64 [cn false p q r s] [] (.r (.v (.bool true))) [] := by
 obtain ⟨h1, h2, h3⟩ := h
 have v1 := validQ_m p q h1.w4n h1.w4d
 have v2 := validQ_m r s h2.w4n h2.w4d
 rw [decide_eq_true h1] at v1
 rw [decide_eq_true h2] at v2
 have cC := cmpQ_m p q r s h1 h2
 have hcmp := cmpZ_le h3
 generalize cmpZ (p * s) (r * q) = e at *
 refine fn_of Tryz.func64 rfl (Nat.le_of_ble_eq_true rfl) rfl rfl ?_
 (repeat' (first | refine r_4eabd4 ?_ | (refine is_f 94 ?_; refine r_bb2b31 (v1) ?_) | (refine is_f 94 ?_; refine r_bb2b31 (v2) ?_) | (refine is_f 95 ?_; refine r_bb2b31 (cC) ?_) | (refine r_0efca5 (fun hb => ?_) (fun hb => ?_) <;> (try (exfalso; omega))) | fail))
 all_goals (first | (exfalso; omega) | exact ret1 [] (.bool rfl) rfl rfl rfl)
set_option maxHeartbeats 8000000 in
theorem coneChoose0_m : Meets Tryz.prog 39 [cn true 0 0 0 0] [] (rt 0 1) [] := by
 have cO := ofQ_m 0 (by constructor <;> decide)
 refine fn_of Tryz.func39 rfl (Nat.le_of_ble_eq_true rfl) rfl rfl ?_
 (repeat' (first | refine r_4eabd4 ?_ | (refine is_f 64 ?_; refine r_bb2b31 (coneValid0_m) ?_) | (refine is_f 75 ?_; refine r_bb2b31 (cO) ?_) | (refine r_0efca5 (fun hb => ?_) (fun hb => ?_) <;> (try (exfalso; omega))) | fail))
 all_goals exact ret1c [] (Rt.rt _ _) rfl rfl rfl rfl (post_none rfl) rfl
set_option maxHeartbeats 8000000 in
theorem coneChoose_m (p q r s : Int) (h : VC p q r s) : Meets Tryz.prog 39 [cn false p q r s] [] (rt (btw p q r s).1 (btw p q r s).2) [] := by
 have cV := coneValid_m p q r s h
 have cB := betweenQ_m p q r s h.1 h.2.1 h.2.2
 refine fn_of Tryz.func39 rfl (Nat.le_of_ble_eq_true rfl) rfl rfl ?_
 (repeat' (first | refine r_4eabd4 ?_ | (refine is_f 64 ?_; refine r_bb2b31 (cV) ?_) | (refine is_f 76 ?_; refine r_bb2b31 (cB) ?_) | (refine r_0efca5 (fun hb => ?_) (fun hb => ?_) <;> (try (exfalso; omega))) | fail))
 all_goals exact ret1c [] (Rt.rt _ _) rfl rfl rfl rfl (post_none rfl) rfl
end Go.Proofs.YtibedaeefnjjlaaGreat
