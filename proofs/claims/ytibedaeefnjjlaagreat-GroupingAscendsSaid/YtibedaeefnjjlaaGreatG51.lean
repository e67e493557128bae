/- Texts of the second layer in one: Pi5 Pi6. -/
import Derived.Test.YtibedaeefnjjlaaGreatG50
import Derived.Test.YtibedaeefnjjlaaGreatG34
import Derived.Test.YtibedaeefnjjlaaGreatG12
import Derived.Test.YtibedaeefnjjlaaGreatG47
set_option maxRecDepth 100000
set_option linter.unusedVariables false
set_option linter.unusedSimpArgs false
namespace Go.Proofs.YtibedaeefnjjlaaGreat
open Go.RowKit Go.Ab Go.Wd
def thC (x : Ps) (tm v : Int) : Cn := ⟨false, (mkQ (v - x.ky * unitE x.tol - x.tol) (tm - x.fT).toNat).1, (mkQ (v - x.ky * unitE x.tol - x.tol) (tm - x.fT).toNat).2, (mkQ (v - x.ky * unitE x.tol + x.tol) (tm - x.fT).toNat).1, (mkQ (v - x.ky * unitE x.tol + x.tol) (tm - x.fT).toNat).2⟩
theorem base_bnd (fV tol : Int) (hv : I64 fV) (ht : 0 ≤ tol ∧ tol ≤ 4611686018427387904) : (keyE fV tol * unitE tol).natAbs < 18446744073709551616 ∧ I64 (keyE fV tol) := by
 have h := key_base fV (unitE tol) (unitE_pos tol)
 have hu : unitE tol ≤ 4611686018427387904 := by unfold unitE; split <;> omega
 have h2 := (floor_bnd fV (unitE tol) (unitE_pos tol) hv).1
 refine ⟨?_, h2⟩
 unfold keyE
 unfold I64 at hv
 generalize fV / unitE tol * unitE tol = z at *
 omega
theorem mkQ_VC (m e : Int) (d : Nat) (hd : 0 < d) (hd2 : d < B64) (hm : m.natAbs + e.natAbs < N127) (he : 0 ≤ e) : VC (mkQ (m - e) d).1 (mkQ (m - e) d).2 (mkQ (m + e) d).1 (mkQ (m + e) d).2 :=
 ⟨mkQ_VR _ d hd (by omega) (B64_N127 hd2), mkQ_VR _ d hd (by omega) (B64_N127 hd2), mkQ_le _ _ d hd (by omega)⟩
theorem thC_ok (x : Ps) (tm v : Int) (h : x.tolOk) (hf : I64 x.fV) (hk : x.ky = keyE x.fV x.tol) (hv : I64 v) (ht : I64 tm) (hfT : I64 x.fT) (hlt : x.fT < tm) : (thC x tm v).ok := by
 obtain ⟨b1, b2⟩ := base_bnd x.fV x.tol hf ⟨h.1, h.2.1⟩
 rw [← hk] at b1
 have h1 := h.1
 have h2 := h.2.1
 unfold I64 at *
 refine .inr ⟨rfl, mkQ_VC _ _ _ (by omega) (by unfold B64; omega) (by unfold N127; omega) h1⟩
theorem Rt.psV {H : Nat → Option Blk} {L : Nat} {G : List Nat} (t i ct a b la ky : Int) (o : Bool) (p q r s : Int) : Rt H L G (.ag (vsA (Go.Proofs.YtibedaeefnjjlaaGreat.psV t i ct a b la ky o p q r s))) (.ag (vsA (Go.Proofs.YtibedaeefnjjlaaGreat.psV t i ct a b la ky o p q r s))) [] := .ag _ _ _ (Rt.agR ((Go.Proofs.YtibedaeefnjjlaaGreat.psV t i ct a b la ky o p q r s).map RV.v))
section
variable (x : Ps) (tm v : Int)
set_option maxHeartbeats 8000000 in
theorem psStep0_m (h : x.ok0) (hv : I64 v) (hix : x.ix < 1073741824) : Meets Tryz.prog 25 [stA x, .ag [.r (.v (.int .i64 tm)), .r (.v (.int .i64 v))]] [] (.tu [stA (psBegin x tm v), .r (.v (.slice none 0 0)), .r (.v (.int .i64 0))]) [] := by
 have cV := psValid0_m x h
 have h1 := h.2.1
 have h3 := h.1.2.2.1
 have cB := psBegin_m x tm v hv ⟨h3, by omega, by omega⟩
 generalize psBegin x tm v = y at *
 obtain ⟨t, i, ct, fT, fV, la, ky, c⟩ := x
 obtain ⟨t', i', ct', fT', fV', la', ky', c'⟩ := y
 unfold stA psVs at *
 dsimp only at *
 subst h1
 clear h
 have ha : IntKind.i64.wrap (i + 0) = i := by rw [IntKind.wrap_i64]; omega
 refine fn_of Tryz.func25 rfl (Nat.le_of_ble_eq_true rfl) rfl rfl ?_
 (repeat' (first | refine r_95e112 ?_ | (refine is_f 54 ?_; refine r_e7cc0f (cV) ?_) | (refine is_f 55 ?_; refine r_e7cc0f (cB) ?_) | (refine r_0efca5 (fun hb => ?_) (fun hb => ?_) <;> (try (exfalso; omega))) | fail))
 all_goals (first | (exfalso; omega) | skip)
 all_goals exact ret3c [] (Rt.psV _ _ _ _ _ _ _ _ _ _ _ _) (.r _) (.int rfl) rfl rfl rfl rfl rfl rfl (post_none rfl) rfl
theorem psThrough (h : x.ok1 ∨ x.ok2) (hv : I64 v) (ht : I64 tm) (hf : I64 x.fT) (hlt : x.fT < tm) :
  Meets Tryz.prog 57 [.r (.v (.int .i64 x.ky)), .r (.v (.int .i64 x.tol))] [] (wz (x.ky * unitE x.tol)) [] ∧
  Meets Tryz.prog 58 [.r (.v (.int .i64 tm)), .r (.v (.int .i64 x.fT))] [] (.r (.v (.int .u64 ((tm - x.fT).toNat : Int)))) [] ∧
  Meets Tryz.prog 56 [wz (x.ky * unitE x.tol), .r (.v (.int .i64 v)), .r (.v (.int .i64 x.tol)), .r (.v (.int .u64 ((tm - x.fT).toNat : Int)))] [] (.tu [(thC x tm v).A, .r (.v (.bool true))]) [] ∧ (thC x tm v).ok ∧ x.c.ok := by
 have hT : x.tolOk := h.elim (fun h => h.1) (fun h => h.1)
 have hfV : I64 x.fV := h.elim (fun h => h.2.2.1) (fun h => h.2.2.2.1)
 have hk : x.ky = keyE x.fV x.tol := h.elim (fun h => h.2.2.2.1) (fun h => h.2.2.2.2.1)
 obtain ⟨b1, b2⟩ := base_bnd x.fV x.tol hfV ⟨hT.1, hT.2.1⟩
 rw [← hk] at b1 b2
 have h1 := hT.1
 have h2 := hT.2.1
 have hI : I64 x.tol := by unfold I64; omega
 refine ⟨base_m _ _ b2 hI, ?_, ?_, thC_ok x tm v hT hfV hk hv ht hf hlt, ?_⟩
 ·have := refDist_m tm x.fT ht hf
  rwa [show dst tm x.fT = ((tm - x.fT).toNat : Int) by unfold dst; rw [if_neg (by omega)]; omega] at this
 ·unfold I64 at ht hf
  exact rcThrough_m _ v x.tol (tm - x.fT).toNat (by omega) hv ⟨h1, h2⟩ (by omega) (by unfold B64; omega)
 ·rcases h with h | h
  ·rw [h.2.2.2.2.2]; exact .inl ⟨rfl, rfl, rfl, rfl, rfl⟩
  ·exact .inr ⟨h.2.2.2.2.2.2.1, h.2.2.2.2.2.2.2⟩
def zps : List AV := vsA (([.int .i64 0, .int .i64 0, .int .i64 0, .int .i64 0, .int .i64 0, .int .i64 0, .int .i64 0, .bool false, .bool false, .int .u64 0, .int .u64 0, .int .u64 0, .int .u64 0, .bool false, .int .u64 0, .int .u64 0, .int .u64 0, .int .u64 0, .bool false, .int .u64 0, .int .u64 0, .int .u64 0, .int .u64 0, .bool false, .int .u64 0, .int .u64 0, .int .u64 0, .int .u64 0] : List Value))
def p4S (t i ct fT fV la ky : Int) (o : Bool) (p q r s : Int) (tm v : Int) (o2 : Bool) (p2 q2 r2 s2 : Int) : St := ⟨[(2, .pt 0 0), (3, .pt 1 0), (4, .pt 2 0), (7, .pt 3 0)], [(0, some (.var 67 (vsA (psV t i ct fT fV la ky o p q r s)))), (1, some (.var 65 [.r (.v (.int .i64 tm)), .r (.v (.int .i64 v))])), (2, some (.var 67 zps)), (3, some (.var 40 (vsA (cnVs o2 p2 q2 r2 s2))))], 4⟩
set_option maxHeartbeats 16000000 in
theorem psStepN_m (h : x.ok1 ∨ x.ok2) (hv : I64 v) (ht : I64 tm) (hf : I64 x.fT) (hlt : x.last < tm) (hlf : x.fT ≤ x.last) (hix : x.ix + x.ct < 1073741824) (hm : meetC x.c (thC x tm v) = none) : Meets Tryz.prog 25 [stA x, .ag [.r (.v (.int .i64 tm)), .r (.v (.int .i64 v))]] [] (.tu [stA (psBegin x tm v), .fr 42 24 (pcs [x.pc]), .r (.v (.int .i64 0))]) [] := by
 obtain ⟨c1, c2, c3, k1, k2⟩ := psThrough x tm v h hv ht hf (by omega)
 have cV := psValid_m x h
 have cM := rmeet_none k2 k1 hm
 have cF := psFinish_m x h
 have hct : 0 < x.ct := h.elim (fun h => by have := h.2.1; omega) (fun h => by have := h.2.1; omega)
 have h0 : 0 ≤ x.ix := h.elim (fun h => h.1.2.2.1) (fun h => h.1.2.2.1)
 have cB := psBegin_m x tm v hv ⟨h0, by omega, by omega⟩
 generalize (tm - x.fT).toNat = dt at *
 generalize x.ky * unitE x.tol = bs at *
 clear hm k1 k2 h
 generalize thC x tm v = th at *
 generalize psBegin x tm v = y at *
 generalize hpc : pcs [x.pc] = pl at *
 clear hpc
 have ha : IntKind.i64.wrap (x.ix + x.ct) = x.ix + x.ct := by rw [IntKind.wrap_i64]; omega
 obtain ⟨t, i, ct, fT, fV, la, ky, ⟨o, p, q, r, s⟩⟩ := x
 obtain ⟨t', i', ct', fT', fV', la', ky', ⟨o', p', q', r', s'⟩⟩ := y
 obtain ⟨o2, p2, q2, r2, s2⟩ := th
 unfold stA psVs Cn.A at *
 dsimp only at *
 refine fn_of Tryz.func25 rfl (Nat.le_of_ble_eq_true rfl) rfl rfl ?_
 (repeat' (first | (first | refine awp_halt 10 ?_ | refine awp_haltR 10 ?_) | refine r_2ec44d ?_ | refine r_d3423f ?_ | (refine is_f 54 ?_; refine r_e7cc0f (cV) ?_) | (refine is_f 57 ?_; refine r_e7cc0f (c1) ?_) | (refine is_f 58 ?_; refine r_e7cc0f (c2) ?_) | (refine is_f 56 ?_; refine r_e7cc0f (c3) ?_) | (refine r_0efca5 (fun hb => ?_) (fun hb => ?_) <;> (try (exfalso; omega))) | fail))
 all_goals (first | (exfalso; omega) | skip)
 refine halt ?_
 refine awp_le (T := p4S t i ct fT fV la ky o p q r s tm v o2 p2 q2 r2 s2) (by
  unfold p4S
  refine Le.mk [(0, 0), (1, 1), (2, 2), (3, 3)] [] rfl (by (repeat' (first | exact le_nil | refine le_na ?_ | refine le_r ?_ rfl rfl | refine le_int ?_ (by omega) rfl | refine le_ow ?_ rfl rfl | refine le_pt ?_ rfl rfl | refine le_fz ?_ rfl q_bf1c9 rfl rfl | refine le_sv ?_ rfl rfl | refine le_ol ?_ rfl rfl | refine le_ag ?_ ?_ rfl | refine le_cl ?_ ?_ rfl | refine cfl_pt ?_ rfl | refine cfl_r ?_ rfl | refine cfl_rp ?_ rfl | exact CfL.nil))) ?_ (fun g h => nomatch h)
  exact ⟨⟨_, rfl, .var _ _ _ (cfl_vsA0 _)⟩, ⟨_, rfl, .var _ _ _ (.cons _ _ _ _ (.r _) (.cons _ _ _ _ (.r _) .nil))⟩, ⟨_, rfl, .var _ _ _ (show CfL _ _ _ zps zps from cfl_vsA0 _)⟩, ⟨_, rfl, .var _ _ _ (show CfL _ _ _ (vsA (cnVs o2 p2 q2 r2 s2)) (vsA (cnVs o2 p2 q2 r2 s2)) from cfl_vsA0 _)⟩, trivial⟩) ?_
 (repeat' (first | refine r_95e112 ?_ | (refine is_f 59 ?_; refine r_e7cc0f (cM) ?_) | (refine is_f 26 ?_; refine r_e7cc0f (cF) ?_) | (refine is_f 55 ?_; refine r_e7cc0f (cB) ?_) | (refine r_0efca5 (fun hb => ?_) (fun hb => ?_) <;> (try (exfalso; omega))) | fail))
 all_goals (first | (exfalso; omega) | exact ret3c [] (Rt.psV _ _ _ _ _ _ _ _ _ _ _ _) (.fr 5 _ _ _ rfl) (.int rfl) rfl rfl rfl rfl rfl rfl (post_none rfl) rfl)
def p5S (t i ct fT fV la ky : Int) (o : Bool) (p q r s : Int) (tm v : Int) (o2 : Bool) (p2 q2 r2 s2 : Int) : St := ⟨[(2, .pt 0 0), (3, .pt 1 0), (4, .pt 2 0), (9, .pt 3 0)], [(0, some (.var 67 (vsA (psV t i ct fT fV la ky o p q r s)))), (1, some (.var 65 [.r (.v (.int .i64 tm)), .r (.v (.int .i64 v))])), (2, some (.var 67 zps)), (3, some (.var 40 (vsA (cnVs o2 p2 q2 r2 s2))))], 4⟩
def p6S (t i ct fT fV la ky : Int) (o : Bool) (p q r s : Int) : St := ⟨[(2, .pt 0 0), (4, .pt 1 0)], [(0, some (.var 67 (vsA (psV t i ct fT fV la ky o p q r s)))), (1, some (.var 67 zps))], 2⟩
def psNext (x : Ps) (tm : Int) (m : Cn) : Ps := ⟨x.tol, x.ix, x.ct + 1, x.fT, x.fV, tm, x.ky, m⟩
set_option maxHeartbeats 16000000 in
theorem psStepM_m (h : x.ok1 ∨ x.ok2) (hv : I64 v) (ht : I64 tm) (hf : I64 x.fT) (hlt : x.last < tm) (hlf : x.fT ≤ x.last) (hix : x.ix + x.ct < 1073741824) (m : Cn) (hm : meetC x.c (thC x tm v) = some m) : Meets Tryz.prog 25 [stA x, .ag [.r (.v (.int .i64 tm)), .r (.v (.int .i64 v))]] [] (.tu [stA (psNext x tm m), .r (.v (.slice none 0 0)), .r (.v (.int .i64 0))]) [] := by
 obtain ⟨c1, c2, c3, k1, k2⟩ := psThrough x tm v h hv ht hf (by omega)
 have cV := psValid_m x h
 have cM := rmeet_some k2 k1 hm
 have hct : 0 < x.ct := h.elim (fun h => by have := h.2.1; omega) (fun h => by have := h.2.1; omega)
 have h0 : 0 ≤ x.ix := h.elim (fun h => h.1.2.2.1) (fun h => h.1.2.2.1)
 generalize (tm - x.fT).toNat = dt at *
 generalize x.ky * unitE x.tol = bs at *
 clear hm k1 k2 h
 generalize thC x tm v = th at *
 unfold psNext
 have ha : IntKind.i64.wrap (x.ix + x.ct) = x.ix + x.ct := by rw [IntKind.wrap_i64]; omega
 obtain ⟨t, i, ct, fT, fV, la, ky, ⟨o, p, q, r, s⟩⟩ := x
 obtain ⟨o2, p2, q2, r2, s2⟩ := th
 obtain ⟨o3, p3, q3, r3, s3⟩ := m
 unfold stA psVs Cn.A at *
 dsimp only at *
 obtain ⟨n, hn⟩ : ∃ n, n = ct + 1 := ⟨_, rfl⟩
 have ha2 : IntKind.i64.wrap (ct + 1) = n := by rw [IntKind.wrap_i64]; omega
 rw [← hn]
 clear hn
 refine fn_of Tryz.func25 rfl (Nat.le_of_ble_eq_true rfl) rfl rfl ?_
 (repeat' (first | (first | refine awp_halt 10 ?_ | refine awp_haltR 10 ?_) | refine r_2ec44d ?_ | refine r_d3423f ?_ | (refine is_f 54 ?_; refine r_e7cc0f (cV) ?_) | (refine is_f 57 ?_; refine r_e7cc0f (c1) ?_) | (refine is_f 58 ?_; refine r_e7cc0f (c2) ?_) | (refine is_f 56 ?_; refine r_e7cc0f (c3) ?_) | (refine r_0efca5 (fun hb => ?_) (fun hb => ?_) <;> (try (exfalso; omega))) | fail))
 all_goals (first | (exfalso; omega) | skip)
 refine halt ?_
 refine awp_le (T := p4S t i ct fT fV la ky o p q r s tm v o2 p2 q2 r2 s2) (by
  unfold p4S
  refine Le.mk [(0, 0), (1, 1), (2, 2), (3, 3)] [] rfl (by (repeat' (first | exact le_nil | refine le_na ?_ | refine le_r ?_ rfl rfl | refine le_int ?_ (by omega) rfl | refine le_ow ?_ rfl rfl | refine le_pt ?_ rfl rfl | refine le_fz ?_ rfl q_bf1c9 rfl rfl | refine le_sv ?_ rfl rfl | refine le_ol ?_ rfl rfl | refine le_ag ?_ ?_ rfl | refine le_cl ?_ ?_ rfl | refine cfl_pt ?_ rfl | refine cfl_r ?_ rfl | refine cfl_rp ?_ rfl | exact CfL.nil))) ?_ (fun g h => nomatch h)
  exact ⟨⟨_, rfl, .var _ _ _ (cfl_vsA0 _)⟩, ⟨_, rfl, .var _ _ _ (.cons _ _ _ _ (.r _) (.cons _ _ _ _ (.r _) .nil))⟩, ⟨_, rfl, .var _ _ _ (show CfL _ _ _ zps zps from cfl_vsA0 _)⟩, ⟨_, rfl, .var _ _ _ (show CfL _ _ _ (vsA (cnVs o2 p2 q2 r2 s2)) (vsA (cnVs o2 p2 q2 r2 s2)) from cfl_vsA0 _)⟩, trivial⟩) ?_
 (repeat' (first | (first | refine awp_halt 14 ?_ | refine awp_haltR 14 ?_) | refine r_2ec44d ?_ | refine r_d3423f ?_ | (refine is_f 59 ?_; refine r_e7cc0f (cM) ?_) | (refine r_0efca5 (fun hb => ?_) (fun hb => ?_) <;> (try (exfalso; omega))) | fail))
 all_goals (first | (exfalso; omega) | skip)
 refine halt ?_
 refine awp_le (T := p5S t i ct fT fV la ky o p q r s tm v o3 p3 q3 r3 s3) (by
  unfold p5S
  refine Le.mk [(0, 0), (1, 1), (2, 2), (3, 4)] [] rfl (by (repeat' (first | exact le_nil | refine le_na ?_ | refine le_r ?_ rfl rfl | refine le_int ?_ (by omega) rfl | refine le_ow ?_ rfl rfl | refine le_pt ?_ rfl rfl | refine le_fz ?_ rfl q_bf1c9 rfl rfl | refine le_sv ?_ rfl rfl | refine le_ol ?_ rfl rfl | refine le_ag ?_ ?_ rfl | refine le_cl ?_ ?_ rfl | refine cfl_pt ?_ rfl | refine cfl_r ?_ rfl | refine cfl_rp ?_ rfl | exact CfL.nil))) ?_ (fun g h => nomatch h)
  exact ⟨⟨_, rfl, .var _ _ _ (cfl_vsA0 _)⟩, ⟨_, rfl, .var _ _ _ (.cons _ _ _ _ (.r _) (.cons _ _ _ _ (.r _) .nil))⟩, ⟨_, rfl, .var _ _ _ (show CfL _ _ _ zps zps from cfl_vsA0 _)⟩, ⟨_, rfl, .var _ _ _ (show CfL _ _ _ (vsA (cnVs o3 p3 q3 r3 s3)) (vsA (cnVs o3 p3 q3 r3 s3)) from cfl_vsA0 _)⟩, trivial⟩) ?_
 (repeat' (first | (first | refine awp_halt 16 ?_ | refine awp_haltR 16 ?_) | refine r_2ec44d ?_ | refine r_d3423f ?_ | (refine r_0efca5 (fun hb => ?_) (fun hb => ?_) <;> (try (exfalso; omega))) | fail))
 all_goals (first | (exfalso; omega) | skip)
 refine halt ?_
 refine awp_le (T := p6S t i n fT fV tm ky o3 p3 q3 r3 s3) (by
  unfold p6S
  refine Le.mk [(0, 0), (1, 2)] [] rfl (by (repeat' (first | exact le_nil | refine le_na ?_ | refine le_r ?_ rfl rfl | refine le_int ?_ (by omega) rfl | refine le_ow ?_ rfl rfl | refine le_pt ?_ rfl rfl | refine le_fz ?_ rfl q_bf1c9 rfl rfl | refine le_sv ?_ rfl rfl | refine le_ol ?_ rfl rfl | refine le_ag ?_ ?_ rfl | refine le_cl ?_ ?_ rfl | refine cfl_pt ?_ rfl | refine cfl_r ?_ rfl | refine cfl_rp ?_ rfl | exact CfL.nil))) ?_ (fun g h => nomatch h)
  exact ⟨⟨_, rfl, .var _ _ _ (show CfL _ _ _ (vsA (psV t i n fT fV tm ky o3 p3 q3 r3 s3)) (vsA (psV t i n fT fV tm ky o3 p3 q3 r3 s3)) from cfl_vsA0 _)⟩, ⟨_, rfl, .var _ _ _ (show CfL _ _ _ zps zps from cfl_vsA0 _)⟩, trivial⟩) ?_
 (repeat' (first | refine r_95e112 ?_ | (refine r_0efca5 (fun hb => ?_) (fun hb => ?_) <;> (try (exfalso; omega))) | fail))
 all_goals (first | (exfalso; omega) | exact ret3c [] (Rt.psV _ _ _ _ _ _ _ _ _ _ _ _) (.r _) (.int rfl) rfl rfl rfl rfl rfl rfl (post_none rfl) rfl)
end
end Go.Proofs.YtibedaeefnjjlaaGreat
namespace Go.Proofs.YtibedaeefnjjlaaGreat
open Go.RowKit Go.Ab Go.Wd
def psStep (x : Ps) (e : Int × Int) : Ps × List Pc := if x.ct = 0 then (psBegin x e.1 e.2, []) else match meetC x.c (thC x e.1 e.2) with | some m => (psNext x e.1 m, []) | none => (psBegin x e.1 e.2, [x.pc])
def psGo : List (Int × Int) → Ps × List Pc → Ps × List Pc
 | [], y => y
 | e :: l, y => psGo l ((psStep y.1 e).1, y.2 ++ (psStep y.1 e).2)
theorem psGo_snoc : ∀ (l : List (Int × Int)) (e : Int × Int) (y : Ps × List Pc), psGo (l ++ [e]) y = ((psStep (psGo l y).1 e).1, (psGo l y).2 ++ (psStep (psGo l y).1 e).2)
 | [], e, y => rfl
 | a :: l, e, y => by rw [List.cons_append, psGo, psGo, psGo_snoc l e]
def psStart (eps : Int) : Ps := ⟨eps, 0, 0, 0, 0, 0, 0, ⟨false, 0, 0, 0, 0⟩⟩
def psAll (l : List (Int × Int)) (eps : Int) : List Pc := (psGo l (psStart eps, [])).2 ++ (if l = [] then [] else [(psGo l (psStart eps, [])).1.pc])
structure PsI (eps : Int) (n : Nat) (la : Int) (x : Ps) (out : List Pc) : Prop where
 st : (n = 0 ∧ x = psStart eps) ∨ (0 < n ∧ (x.ok1 ∨ x.ok2))
 sum : x.ix + x.ct = (n : Int)
 tol : x.tol = eps
 last : 0 < n → x.last = la ∧ x.fT ≤ x.last ∧ I64 x.fT
 ok : ∀ p ∈ out, p.c.ok
 ix : ∀ p ∈ out, 0 ≤ p.ix ∧ p.ix < x.ix
 nd : (out.map Pc.ix).Nodup
 len : out.length ≤ n
theorem psStart_ok {eps : Int} (h : 0 ≤ eps ∧ eps ≤ 4611686018427387904) : (psStart eps).ok0 := ⟨⟨h.1, h.2, Int.le_refl _, by show (0 : Int) ≤ 1073741824; omega⟩, rfl, rfl, rfl, rfl, rfl, rfl⟩
theorem psI0 (eps la : Int) : PsI eps 0 la (psStart eps) [] := ⟨.inl ⟨rfl, rfl⟩, rfl, rfl, fun h => absurd h (by omega), fun _ h => (nomatch h), fun _ h => (nomatch h), .nil, Nat.le_refl _⟩
theorem PsI.tolOk {eps : Int} {n : Nat} {la : Int} {x : Ps} {out : List Pc} (h : PsI eps n la x out) (he : 0 ≤ eps ∧ eps ≤ 4611686018427387904) (hn : n ≤ 1073741823) : x.tolOk ∧ 0 ≤ x.ct := by
 rcases h.st with ⟨_, rfl⟩ | ⟨_, h1 | h1⟩
 ·exact ⟨(psStart_ok he).1, Int.le_refl _⟩
 ·exact ⟨h1.1, by have := h1.2.1; omega⟩
 ·exact ⟨h1.1, by have := h1.2.1; omega⟩
theorem begin_ok1 {x : Ps} {tm v : Int} (ht : x.tolOk) (hi : 0 ≤ x.ix + x.ct ∧ x.ix + x.ct ≤ 1073741824) (hv : I64 v) : (psBegin x tm v).ok1 := ⟨⟨ht.1, ht.2.1, hi.1, hi.2⟩, rfl, hv, rfl, rfl, rfl⟩
theorem psI_begin {eps : Int} {n : Nat} {la : Int} {x : Ps} {out : List Pc} {tm v : Int} (h : PsI eps n la x out) (he : 0 ≤ eps ∧ eps ≤ 4611686018427387904) (hn : n ≤ 1073741823) (hv : I64 v) (ht : I64 tm) (add : List Pc) (ha : add = [] ∧ n = 0 ∨ add = [x.pc] ∧ 0 < n) : PsI eps (n + 1) tm (psBegin x tm v) (out ++ add) := by
 obtain ⟨t1, t2⟩ := h.tolOk he hn
 have hs := h.sum
 have h0 := t1.2.2.1
 have hct : 0 < n → 0 < x.ct := fun hp => by
  rcases h.st with ⟨h1, _⟩ | ⟨_, h1 | h1⟩
  ·omega
  ·have := h1.2.1; omega
  ·have := h1.2.1; omega
 refine ⟨.inr ⟨by omega, .inl (begin_ok1 t1 (by omega) hv)⟩, ?_, h.tol, fun _ => ⟨rfl, Int.le_refl _, ht⟩, ?_, ?_, ?_, ?_⟩
 ·show x.ix + x.ct + 1 = ((n + 1 : Nat) : Int); omega
 ·intro p hp
  rcases List.mem_append.1 hp with hp | hp
  ·exact h.ok p hp
  ·rcases ha with ⟨rfl, _⟩ | ⟨rfl, hpos⟩
   ·exact nomatch hp
   ·rw [List.mem_singleton] at hp; subst hp
    rcases h.st with ⟨h1, _⟩ | ⟨_, h1 | h1⟩
    ·omega
    ·show x.c.ok; rw [h1.2.2.2.2.2]; exact .inl ⟨rfl, rfl, rfl, rfl, rfl⟩
    ·exact .inr ⟨h1.2.2.2.2.2.2.1, h1.2.2.2.2.2.2.2⟩
 ·intro p hp
  show 0 ≤ p.ix ∧ p.ix < x.ix + x.ct
  rcases List.mem_append.1 hp with hp | hp
  ·have := h.ix p hp; omega
  ·rcases ha with ⟨rfl, _⟩ | ⟨rfl, hpos⟩
   ·exact nomatch hp
   ·rw [List.mem_singleton] at hp; subst hp
    have := hct hpos
    show 0 ≤ x.ix ∧ x.ix < x.ix + x.ct
    omega
 ·rcases ha with ⟨rfl, _⟩ | ⟨rfl, hpos⟩
  ·rw [List.append_nil]; exact h.nd
  ·rw [List.map_append, List.nodup_append]
   refine ⟨h.nd, by simp, fun a ha b hb => ?_⟩
   simp at hb
   subst hb
   obtain ⟨y, hy, rfl⟩ := List.mem_map.1 ha
   have := (h.ix y hy).2
   show y.ix ≠ x.ix
   omega
 ·have := h.len
  rcases ha with ⟨rfl, _⟩ | ⟨rfl, _⟩ <;> simp <;> omega
theorem psI_step {eps : Int} {n : Nat} {la : Int} {x : Ps} {out : List Pc} {tm v : Int} (h : PsI eps n la x out) (he : 0 ≤ eps ∧ eps ≤ 4611686018427387904) (hn : n ≤ 1073741823) (hv : I64 v) (ht : I64 tm) (hl : 0 < n → la < tm) : PsI eps (n + 1) tm (psStep x (tm, v)).1 (out ++ (psStep x (tm, v)).2) := by
 unfold psStep
 rcases h.st with ⟨h1, h2⟩ | ⟨h1, h2⟩
 ·have hz : x.ct = 0 := by rw [h2]; rfl
  rw [if_pos hz]
  exact psI_begin h he hn hv ht [] (.inl ⟨rfl, h1⟩)
 ·have hnz : x.ct ≠ 0 := by rcases h2 with h2 | h2 <;> (have := h2.2.1; omega)
  rw [if_neg hnz]
  obtain ⟨l1, l2, l3⟩ := h.last h1
  have hlt := hl h1
  split
  ·rename_i m hm
   have hs := h.sum
   have hT : x.tolOk := h2.elim (fun h => h.1) (fun h => h.1)
   have hfV : I64 x.fV := h2.elim (fun h => h.2.2.1) (fun h => h.2.2.2.1)
   have hk : x.ky = keyE x.fV x.tol := h2.elim (fun h => h.2.2.2.1) (fun h => h.2.2.2.2.1)
   have hth := thC_ok x tm v hT hfV hk hv ht l3 (by omega)
   have hc : x.c.ok := by
    rcases h2 with h | h
    ·rw [h.2.2.2.2.2]; exact .inl ⟨rfl, rfl, rfl, rfl, rfl⟩
    ·exact .inr ⟨h.2.2.2.2.2.2.1, h.2.2.2.2.2.2.2⟩
   have hmo := meetC_ok hc hth hm
   have hmf : m.o = false := by
    rcases meet_sub hc hth hm with ⟨_, h⟩ | ⟨_, h, _⟩ | ⟨_, _, h, _⟩
    ·rw [h]; rfl
    ·cases h
    ·exact h
   have hVC : VC m.p m.q m.r m.s := by
    rcases hmo with ⟨h, _⟩ | ⟨_, h⟩
    ·rw [hmf] at h; cases h
    ·exact h
   have h0 := hT.2.2.1
   have hcp : 0 < x.ct := by rcases h2 with h2 | h2 <;> (have := h2.2.1; omega)
   rw [List.append_nil]
   refine ⟨.inr ⟨by omega, .inr ⟨hT, ?_, ?_, hfV, hk, ?_, hmf, hVC⟩⟩, ?_, h.tol, fun _ => ⟨rfl, ?_, l3⟩, h.ok, h.ix, h.nd, by have := h.len; omega⟩
   ·show 1 < x.ct + 1; omega
   ·show x.ct + 1 ≤ 1073741824; omega
   ·show x.fT < tm; omega
   ·show x.ix + (x.ct + 1) = ((n + 1 : Nat) : Int); omega
   ·show x.fT ≤ tm; omega
  ·exact psI_begin h he hn hv ht [x.pc] (.inr ⟨rfl, h1⟩)
theorem take_getD {α : Type} (l : List α) (k : Nat) (d : α) (h : k < l.length) : l.take (k + 1) = l.take k ++ [l.getD k d] := by
 rw [List.take_add_one, List.getElem?_eq_getElem h, List.getD_eq_getElem?_getD, List.getElem?_eq_getElem h]; rfl
theorem psI_take {l : List (Int × Int)} {eps : Int} (he : 0 ≤ eps ∧ eps ≤ 4611686018427387904) (hs : (l.map Prod.fst).Pairwise (· < ·)) (hI : ∀ i, i < l.length → I64 (l.getD i (0, 0)).1 ∧ I64 (l.getD i (0, 0)).2) (hn : l.length ≤ 1000000) : ∀ k, k ≤ l.length → PsI eps k (l.getD (k - 1) (0, 0)).1 (psGo (l.take k) (psStart eps, [])).1 (psGo (l.take k) (psStart eps, [])).2
 | 0, _ => psI0 eps _
 | k + 1, hk => by
  have ih := psI_take he hs hI hn k (by omega)
  have hkl : k < l.length := by omega
  rw [take_getD l k (0, 0) hkl, psGo_snoc]
  obtain ⟨h1, h2⟩ := hI k hkl
  refine psI_step ih he (by omega) h2 h1 (fun hp => ?_)
  rw [List.pairwise_iff_getElem] at hs
  have := hs (k - 1) k (by rw [List.length_map]; omega) (by rw [List.length_map]; omega) (by omega)
  rw [List.getElem_map, List.getElem_map] at this
  rw [Nat.add_sub_cancel, List.getD_eq_getElem?_getD, List.getElem?_eq_getElem (show k - 1 < l.length by omega), List.getD_eq_getElem?_getD, List.getElem?_eq_getElem hkl]
  exact this
theorem psAll_ok {l : List (Int × Int)} {eps : Int} (he : 0 ≤ eps ∧ eps ≤ 4611686018427387904) (hs : (l.map Prod.fst).Pairwise (· < ·)) (hI : ∀ i, i < l.length → I64 (l.getD i (0, 0)).1 ∧ I64 (l.getD i (0, 0)).2) (hn : l.length ≤ 1000000) : PcOk (psAll l eps) ∧ (psAll l eps).length ≤ l.length + 1 := by
 have h := psI_take he hs hI hn l.length (Nat.le_refl _)
 rw [List.take_length] at h
 unfold psAll
 by_cases hl : l = []
 ·rw [if_pos hl, List.append_nil]
  exact ⟨⟨h.ok, fun p hp => (h.ix p hp).1, h.nd⟩, by have := h.len; omega⟩
 ·rw [if_neg hl]
  have hpos : 0 < l.length := List.length_pos_iff.2 hl
  have hb := psI_begin (tm := 0) (v := 0) h he (by omega) (by unfold I64; omega) (by unfold I64; omega) [(psGo l (psStart eps, [])).1.pc] (.inr ⟨rfl, hpos⟩)
  exact ⟨⟨hb.ok, fun p hp => (hb.ix p hp).1, hb.nd⟩, hb.len⟩
end Go.Proofs.YtibedaeefnjjlaaGreat
