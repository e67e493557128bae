/- Texts of the second layer in one: Co1. -/
import Derived.Test.YtibedaeefnjjlaaGreatG17
set_option maxHeartbeats 8000000
set_option maxRecDepth 100000
set_option linter.unusedVariables false
set_option linter.unusedSimpArgs false
namespace Go.Proofs.YtibedaeefnjjlaaGreat
open Go.RowKit Go.Ab Go.Wd
def cn (o : Bool) (p q r s : Int) : AV := .ag (vsA (cnVs o p q r s))
theorem Rt.cn {H : Nat → Option Blk} {L : Nat} {G : List Nat} (o : Bool) (p q r s : Int) : Rt H L G (Go.Proofs.YtibedaeefnjjlaaGreat.cn o p q r s) (Go.Proofs.YtibedaeefnjjlaaGreat.cn o p q r s) [] := by
 refine .ag _ _ _ ?_
 have : vsA (cnVs o p q r s) = ((cnVs o p q r s).map RV.v).map AV.r := by unfold vsA; rw [List.map_map]; rfl
 rw [this]; exact Rt.agR _
def VC (p q r s : Int) : Prop := VR p q ∧ VR r s ∧ p * s ≤ r * q
theorem zc3 : W4 0 := by unfold W4; rw [zfg]; decide
theorem zg2 : zan Tryz.prog 93 [] [] (cn true 0 0 0 0) [] := by
 refine zap Tryz.func93 rfl (Nat.le_of_ble_eq_true rfl) rfl rfl ?_
 (repeat' (first | refine zad ?_ | (refine zac (fun hb => ?_) (fun hb => ?_) <;> (try (exfalso; omega))) | fail))
 all_goals exact zbO [] (Rt.cn _ _ _ _ _) rfl rfl rfl rfl (zak rfl) rfl
section
variable {env : Nat → AV} {H : Nat → Option Blk} {d : Option Tmp} {ty : TypeId} {pos : String} {af : Array Edge} {g : Option (Nat × Bool)} {u : TypeId} {x y : Operand}
theorem zkY (hx : evA env x = cn true 0 0 0 0) (hy : evA env y = cn true 0 0 0 0) : zax Tryz.prog ⟨d, .binOp .eql 40 x y u, ty, pos, af, g⟩ env H [] (.r (.v (.bool true))) :=
 zou (vs := cnVs true 0 0 0 0) (us := cnVs true 0 0 0 0) (by kernel_rfl) (zqI (d := 9995) zc3 zc3 zc3 zc3 zc3 zc3 zc3 zc3) hx hy
end
theorem zcT : zan Tryz.prog 64 [cn true 0 0 0 0] [] (.r (.v (.bool true))) [] := by
 refine zap Tryz.func64 rfl (Nat.le_of_ble_eq_true rfl) rfl rfl ?_
 (repeat' (first | (refine zbP ?_; refine zbl ?_; refine zag rfl zab (zkY rfl rfl) ?_) | refine zad ?_ | (refine is_f 93 ?_; refine zaa (zg2) ?_) | (refine zac (fun hb => ?_) (fun hb => ?_) <;> (try (exfalso; omega))) | fail))
 all_goals exact ret1 [] (.bool rfl) rfl rfl rfl
theorem zcD (p q r s : Int) (h : VC p q r s) : zan Tryz.prog 64 [cn false p q r s] [] (.r (.v (.bool true))) [] := by
 obtain ⟨h1, h2, h3⟩ := h
 have v1 := zfe p q h1.w4n h1.w4d
 have v2 := zfe r s h2.w4n h2.w4d
 rw [decide_eq_true h1] at v1
 rw [decide_eq_true h2] at v2
 have cC := zgv p q r s h1 h2
 have hcmp := zga h3
 generalize cmpZ (p * s) (r * q) = e at *
 refine zap Tryz.func64 rfl (Nat.le_of_ble_eq_true rfl) rfl rfl ?_
 (repeat' (first | refine zad ?_ | (refine is_f 94 ?_; refine zaa (v1) ?_) | (refine is_f 94 ?_; refine zaa (v2) ?_) | (refine is_f 95 ?_; refine zaa (cC) ?_) | (refine zac (fun hb => ?_) (fun hb => ?_) <;> (try (exfalso; omega))) | fail))
 all_goals (first | (exfalso; omega) | exact ret1 [] (.bool rfl) rfl rfl rfl)
theorem ziR : zan Tryz.prog 39 [cn true 0 0 0 0] [] (rt 0 1) [] := by
 have cO := zth 0 (by constructor <;> decide)
 refine zap Tryz.func39 rfl (Nat.le_of_ble_eq_true rfl) rfl rfl ?_
 (repeat' (first | refine zad ?_ | (refine is_f 64 ?_; refine zaa (zcT) ?_) | (refine is_f 75 ?_; refine zaa (cO) ?_) | (refine zac (fun hb => ?_) (fun hb => ?_) <;> (try (exfalso; omega))) | fail))
 all_goals exact zbO [] (Rt.rt _ _) rfl rfl rfl rfl (zak rfl) rfl
theorem zjI (p q r s : Int) (h : VC p q r s) : zan Tryz.prog 39 [cn false p q r s] [] (rt (btw p q r s).1 (btw p q r s).2) [] := by
 have cV := zcD p q r s h
 have cB := zmC p q r s h.1 h.2.1 h.2.2
 refine zap Tryz.func39 rfl (Nat.le_of_ble_eq_true rfl) rfl rfl ?_
 (repeat' (first | refine zad ?_ | (refine is_f 64 ?_; refine zaa (cV) ?_) | (refine is_f 76 ?_; refine zaa (cB) ?_) | (refine zac (fun hb => ?_) (fun hb => ?_) <;> (try (exfalso; omega))) | fail))
 all_goals exact zbO [] (Rt.rt _ _) rfl rfl rfl rfl (zak rfl) rfl
end Go.Proofs.YtibedaeefnjjlaaGreat
