/- Texts of the second layer in one: Pi7 Kn1 Ac3. -/
import Derived.Test.YtibedaeefnjjlaaGreatG51
import Derived.Test.YtibedaeefnjjlaaGreatG12
import Derived.Test.YtibedaeefnjjlaaGreatG47
import Derived.Test.YtibedaeefnjjlaaGreatG48
set_option maxRecDepth 100000
set_option linter.unusedVariables false
set_option linter.unusedSimpArgs false
namespace Go.Ab
open Go.RowKit Go.Proofs.YtibedaeefnjjlaaGreat
section
variable {P : Program} {L : Ln} {N : Nat} {ops : Array Oper} {chk : List (Nat × Sp) → Bool} {Q : St → Prop} {l : List Oper} {E : List (Nat × AV)} {H : List (Nat × Option Blk)} {n : Nat} {tr : List (Nat × Sp)}
variable {d : Nat} {ty : TypeId} {pos : String} {af : Array Edge} {g : Option (Nat × Bool)}
theorem w_callU {f : FuncId} {xs : Array Operand} {ats : Array TypeId} {ds : List AV} {r : AV} (r' : AV) (UB : List Blk) (hm : Meets P f ds [] r []) (hargs : CfL (getH H) (fun i => i) [] (xs.toList.map (evA (get E))) ds) (hf : callB P f = true)
  (hu : r.unfr n = (r', UB)) (hds : AV.idss ds = []) (hrng : rngB r' n UB.length = true) (hd : Nat.blt d N = true) (hg : Wanted ops (get E) ⟨some d, .call { callee := .value (.func f), args := xs, argTypes := ats }, ty, pos, af, g⟩ true)
  (h : wpA P L N ops chk Q l ⟨(d, r') :: E, frsL n UB ++ H, n + UB.length⟩ ((n, ⟨true, [], r', [], UB⟩) :: tr)) :
  wpA P L N ops chk Q (⟨some d, .call { callee := .value (.func f), args := xs, argTypes := ats }, ty, pos, af, g⟩ :: l) ⟨E, H, n⟩ tr :=
 w_call [] [] hm hargs hf (fun g h => by cases h) (fun i b h => by cases h) (.inl rfl) hds (by rw [hu]; exact hrng) hd hg (by rw [hu]; exact h)
end
theorem unfr_step (vs : List Value) (T sz : Nat) (es : List (List RV)) (v : Value) (n : Nat) : (AV.tu [.ag (vsA vs), .fr T sz es, .r (.v v)]).unfr n = (.tu [.ag (vsA vs), .ow n, .r (.v v)], [.row T sz es]) := by
 simp [AV.unfr, AV.unfrs, unfrs_vsA0]
theorem idss_step (vs : List Value) (a b : Value) : AV.idss [.ag (vsA vs), .ag [.r (.v a), .r (.v b)]] = [] := by
 simp [AV.idss, AV.ids, idss_vsA0]
theorem rng_step (vs : List Value) (n : Nat) (v : Value) (b : Blk) : rngB (.tu [.ag (vsA vs), .ow n, .r (.v v)]) n [b].length = true := by
 simp [rngB, AV.ids, AV.idss, idss_vsA0]
end Go.Ab
namespace Go.Proofs.YtibedaeefnjjlaaGreat
open Go.RowKit Go.Ab Go.Wd
theorem refInc_m (l : List Int) (hl : l.length ≤ 140737488355328) : Meets Tryz.prog 52 [.r (.sl 1 (nums .i64 l))] [] (.r (.v (.bool (inc l)))) [] := by
 refine fn_of Tryz.func52 rfl (Nat.le_of_ble_eq_true rfl) rfl rfl ?_
 have hlen : (nums .i64 l).length = l.length := nums_len .i64 l
 (repeat' (first | refine r_95e112 ?_ | (refine r_0efca5 (fun hb => ?_) (fun hb => ?_) <;> (try (exfalso; omega))) | fail))
 refine awp_loop' (fun k => ⟨[(0, .r (.sl 1 (nums .i64 l))), (3, .r (.v (.int .i64 ((k + 1 : Nat) : Int))))], [], 0⟩) (fun k => (k = 0 ∨ k + 1 ≤ l.length) ∧ ∀ i, i < k → decide (l.getD i 0 < l.getD (i + 1) 0) = true) (fun k => l.length - k) 0 ⟨.inl rfl, fun i h => by omega⟩ (by (refine Le.mk [] [] q_5ec36 q_871b6 q_bbfed q_509a2)) fun k hk => ?_
 obtain ⟨hk, hall⟩ := hk
 have hkk : l.getD (k + 1 - 1) 0 = l.getD k 0 := rfl
 rcases Nat.lt_or_ge (k + 1) l.length with h | h
 ·by_cases hlt : l.getD k 0 < l.getD (k + 1) 0
  ·(repeat' (first | refine r_95e112 ?_ | (refine r_0efca5 (fun hb => ?_) (fun hb => ?_) <;> (try (exfalso; omega))) | fail))
   all_goals exact ⟨k + 1, ⟨.inr (by omega), fun i hi => if h2 : i < k then hall i h2 else (show i = k by omega) ▸ decide_eq_true hlt⟩, by (refine Le.mk [] [] q_5ec36 q_871b6 q_bbfed q_509a2), by omega⟩
  ·(repeat' (first | refine r_95e112 ?_ | (refine r_0efca5 (fun hb => ?_) (fun hb => ?_) <;> (try (exfalso; omega))) | fail))
   all_goals exact ret1 [] (.bool (allR_false k (by omega) (decide_eq_false hlt))) rfl rfl rfl
 ·(repeat' (first | refine r_95e112 ?_ | (refine r_0efca5 (fun hb => ?_) (fun hb => ?_) <;> (try (exfalso; omega))) | fail))
  all_goals exact ret1 [] (.bool (allR_true fun i hi => hall i (by omega))) rfl rfl rfl
theorem refTimes_m (l : List (Int × Int)) (hl : l.length ≤ 8796093022000) : Meets Tryz.prog 53 [.r (.sl 2 (smps l))] [] (.fr 2 1 (nums .i64 (l.map Prod.fst))) [] := by
 refine fn_of Tryz.func53 rfl (Nat.le_of_ble_eq_true rfl) rfl rfl ?_
 have hlen : (smps l).length = l.length := smps_len l
 (repeat' (first | refine r_95e112 ?_ | (refine r_0efca5 (fun hb => ?_) (fun hb => ?_) <;> (try (exfalso; omega))) | fail))
 refine awp_nilow 3 2 1 rfl rfl ?_
 have h00 : ([] : List (List RV)) = nums .i64 ((l.take 0).map Prod.fst) := rfl
 refine awp_loop' (fun k => ⟨[(0, .r (.sl 2 (smps l))), (3, .ow 0), (4, .r (.v (.int .i64 (k : Nat))))], [(0, some (.row 2 1 (nums .i64 ((l.take k).map Prod.fst))))], 1⟩) (fun k => k ≤ l.length) (fun k => l.length - k) 0 (Nat.zero_le _) (by (refine Le.mk [(0,0)] [] q_5ec36 q_871b6 q_bbfed q_509a2)) fun k hk => ?_
 have hr1 : (nums .i64 ((l.take k).map Prod.fst)).length = k := by rw [nums_len, List.length_map, List.length_take]; omega
 have hr2 : ((l.take k).map Prod.fst).length = k := by rw [List.length_map, List.length_take]; omega
 by_cases hkl : k < l.length
 ·have hE : nums .i64 ((l.take k).map Prod.fst) ++ [[.v (.int .i64 (l.getD k (0, 0)).1)]] = nums .i64 ((l.take (k + 1)).map Prod.fst) := by rw [take_succ_getD l k (0, 0) hkl, List.map_append, nums_append]; rfl
  (repeat' (first | refine r_95e112 ?_ | (refine r_0efca5 (fun hb => ?_) (fun hb => ?_) <;> (try (exfalso; omega))) | fail))
  all_goals exact ⟨k + 1, by show k + 1 ≤ l.length; omega, by (refine Le.mk [(0,2)] [] q_5ec36 q_871b6 q_bbfed q_509a2), by show l.length - (k + 1) < l.length - k; omega⟩
 ·have e : nums .i64 ((l.take k).map Prod.fst) = nums .i64 (l.map Prod.fst) := by rw [List.take_of_length_le (by omega)]
  (repeat' (first | refine r_95e112 ?_ | (refine r_0efca5 (fun hb => ?_) (fun hb => ?_) <;> (try (exfalso; omega))) | fail))
  all_goals (rw [← e]; exact ret1 [] (.fr 0 _ _ _ rfl) rfl rfl rfl)
theorem refCheck12_m (l : List (Int × Int)) (hl : l.length ≤ 8796093022000) : Meets Tryz.prog 24 [.r (.sl 2 (smps l))] [] (.r (.v (.int .i64 (chkS l)))) [] := by
 refine fn_of Tryz.func24 rfl (Nat.le_of_ble_eq_true rfl) rfl rfl ?_
 have hc := refInc_m (l.map Prod.fst) (by rw [List.length_map]; omega)
 cases hi : inc (l.map Prod.fst) with
 | true =>
  rw [hi] at hc
  have hr : (0 : Int) = chkS l := by unfold chkS; rw [hi]; rfl
  (repeat' (first | refine r_95e112 ?_ | (refine is_f 53 ?_; refine r_e7cc0f (refTimes_m l hl) ?_) | (refine is_f 52 ?_; refine r_679997 (hc) ?_) | (refine r_0efca5 (fun hb => ?_) (fun hb => ?_) <;> (try (exfalso; omega))) | fail))
  all_goals exact ret1 [] (.int hr) rfl rfl rfl
 | false =>
  rw [hi] at hc
  have hr : (7 : Int) = chkS l := by unfold chkS; rw [hi]; rfl
  (repeat' (first | refine r_95e112 ?_ | (refine is_f 53 ?_; refine r_e7cc0f (refTimes_m l hl) ?_) | (refine is_f 52 ?_; refine r_679997 (hc) ?_) | (refine r_0efca5 (fun hb => ?_) (fun hb => ?_) <;> (try (exfalso; omega))) | fail))
  all_goals exact ret1 [] (.int hr) rfl rfl rfl
set_option maxHeartbeats 4000000 in
theorem psStart_m (eps : Int) (he : 0 ≤ eps ∧ eps ≤ 4611686018427387904) : Meets Tryz.prog 23 [.r (.v (.int .i64 eps))] [] (.tu [.ag (vsA (psV eps 0 0 0 0 0 0 false 0 0 0 0)), .r (.v (.int .i64 0))]) [] := by
 have cT := rcTol_m eps he
 refine fn_of Tryz.func23 rfl (Nat.le_of_ble_eq_true rfl) rfl rfl ?_
 (repeat' (first | (first | refine awp_halt 3 ?_ | refine awp_haltR 3 ?_) | refine r_2ec44d ?_ | refine r_d3423f ?_ | (refine is_f 51 ?_; refine r_e7cc0f (cT) ?_) | (refine r_0efca5 (fun hb => ?_) (fun hb => ?_) <;> (try (exfalso; omega))) | fail))
 refine halt ?_
 (repeat' (first | (refine is_move ?_; refine w_read rfl q_85eb5 (p_move (out := .r (.v (.int .i64 eps))) rfl) ?_) | (refine is_build ?_; refine w_read rfl q_85eb5 (p_build (cs := vsA (psV eps 0 0 0 0 0 0 false 0 0 0 0)) [] (by kernel_rfl) (by kernel_rfl) (fun i b h => nomatch h)) ?_) | refine r_95e112 ?_ | (refine r_0efca5 (fun hb => ?_) (fun hb => ?_) <;> (try (exfalso; omega))) | fail))
 all_goals exact ret2c [] (Rt.psV _ _ _ _ _ _ _ _ _ _ _ _) (.int rfl) rfl rfl rfl rfl rfl (post_none rfl) rfl
theorem inc_pw {l : List Int} (h : l.Pairwise (· < ·)) : inc l = true := by
 rw [List.pairwise_iff_getElem] at h
 refine (allR_true fun i hi => decide_eq_true ?_).symm
 have := h i (i + 1) (by omega) (by omega) (by omega)
 rw [List.getD_eq_getElem?_getD, List.getElem?_eq_getElem (show i < l.length by omega), List.getD_eq_getElem?_getD, List.getElem?_eq_getElem (show i + 1 < l.length by omega)]
 exact this
def paS (l : List (Int × Int)) (x : Ps) (out : List Pc) (i : Nat) : St := ⟨[(0, .r (.sl 2 (smps l))), (6, .pt 0 0), (8, .ow 1), (9, .r (.v (.int .i64 (i : Int))))], [(0, some (.var 67 (vsA (psV x.tol x.ix x.ct x.fT x.fV x.last x.ky x.c.o x.c.p x.c.q x.c.r x.c.s)))), (1, some (.row 42 24 (pcs out)))], 2⟩
theorem pcs_app (a b : List Pc) : pcs a ++ pcs b = pcs (a ++ b) := by simp [pcs]
set_option maxHeartbeats 16000000 in
theorem psAll_m (l : List (Int × Int)) (eps : Int) (he : 0 ≤ eps ∧ eps ≤ 4611686018427387904) (hs : (l.map Prod.fst).Pairwise (· < ·)) (hI : ∀ i, i < l.length → I64 (l.getD i (0, 0)).1 ∧ I64 (l.getD i (0, 0)).2) (hn : l.length ≤ 1000000) : Meets Tryz.prog 9 [.r (.sl 2 (smps l)), .r (.v (.int .i64 eps))] [] (.tu [.fr 42 24 (pcs (psAll l eps)), .r (.v (.int .i64 0))]) [] := by
 have cS := psStart_m eps he
 have cC := refCheck12_m l (by omega)
 rw [show chkS l = 0 by unfold chkS; rw [inc_pw hs]; rfl] at cC
 have hpsi := psI_take he hs hI hn
 have hlen : (smps l).length = l.length := smps_len l
 refine fn_of Tryz.func9 rfl (Nat.le_of_ble_eq_true rfl) rfl rfl ?_
 (repeat' (first | (first | refine awp_halt 9 ?_ | refine awp_haltR 9 ?_) | refine r_2ec44d ?_ | refine r_d3423f ?_ | (refine is_f 23 ?_; refine r_e7cc0f (cS) ?_) | (refine is_f 24 ?_; refine r_e7cc0f (cC) ?_) | (refine r_0efca5 (fun hb => ?_) (fun hb => ?_) <;> (try (exfalso; omega))) | fail))
 all_goals (first | (exfalso; omega) | skip)
 refine halt ?_
 refine awp_nilow 8 42 24 rfl rfl ?_
 (repeat' (first | refine r_95e112 ?_ | (refine r_0efca5 (fun hb => ?_) (fun hb => ?_) <;> (try (exfalso; omega))) | fail))
 refine awp_loop' (fun y : Nat × Ps × List Pc => paS l y.2.1 y.2.2 y.1) (fun y => y.1 ≤ l.length ∧ (y.2.1, y.2.2) = psGo (l.take y.1) (psStart eps, [])) (fun y => l.length - y.1) (0, psStart eps, []) ⟨Nat.zero_le _, rfl⟩ (by
  show Le _ _ (paS l (psStart eps) [] 0)
  unfold paS
  refine Le.mk [(0, 0), (1, 1)] [] rfl (by (repeat' (first | exact le_nil | refine le_na ?_ | refine le_r ?_ rfl rfl | refine le_int ?_ (by omega) rfl | refine le_ow ?_ rfl rfl | refine le_pt ?_ rfl rfl | refine le_fz ?_ rfl q_bf1c9 rfl rfl | refine le_sv ?_ rfl rfl | refine le_ol ?_ rfl rfl | refine le_ag ?_ ?_ rfl | refine le_cl ?_ ?_ rfl | refine cfl_pt ?_ rfl | refine cfl_r ?_ rfl | refine cfl_rp ?_ rfl | exact CfL.nil))) ?_ (fun g h => nomatch h)
  exact ⟨⟨_, rfl, .var _ _ _ (show CfL _ _ _ (vsA (psV eps 0 0 0 0 0 0 false 0 0 0 0)) (vsA (psV eps 0 0 0 0 0 0 false 0 0 0 0)) from cfl_vsA0 _)⟩, ⟨_, rfl, .row _ _ _⟩, trivial⟩) fun y hy => ?_
 obtain ⟨i, x, out⟩ := y
 obtain ⟨hi, hgo⟩ := hy
 dsimp only at hi hgo
 have hps := hpsi i hi
 rw [← hgo] at hps
 dsimp only at hps
 show awp _ _ _ _ _ (paS l x out i)
 clear cS cC
 rcases Nat.lt_or_ge i l.length with hlt | hge
 ·have hgs := smps_get hlt
  obtain ⟨hIt, hIv⟩ := hI i hlt
  have hwi : IntKind.i64.wrap ((i : Int) + 1) = ((i + 1 : Nat) : Int) := nat_incI i (by omega)
  obtain ⟨tm, htm⟩ : ∃ z, (l.getD i (0, 0)).1 = z := ⟨_, rfl⟩
  obtain ⟨v, hv⟩ : ∃ z, (l.getD i (0, 0)).2 = z := ⟨_, rfl⟩
  have hsum := hps.sum
  have hpl : (pcs out).length ≤ 1000000 := by rw [pcs_len]; have := hps.len; omega
  have hlast : 0 < i → (l.getD (i - 1) (0, 0)).1 < tm := fun hp => by
   have hs2 := hs
   rw [List.pairwise_iff_getElem] at hs2
   have := hs2 (i - 1) i (by rw [List.length_map]; omega) (by rw [List.length_map]; omega) (by omega)
   rw [List.getElem_map, List.getElem_map] at this
   rw [← htm, List.getD_eq_getElem?_getD, List.getElem?_eq_getElem (show i - 1 < l.length by omega), List.getD_eq_getElem?_getD, List.getElem?_eq_getElem hlt]
   exact this
  have hpair : l.getD i (0, 0) = (tm, v) := by rw [← htm, ← hv]
  rw [htm, hv] at hgs
  rw [htm] at hIt
  rw [hv] at hIv
  rcases hps.st with ⟨h1, h2⟩ | ⟨h1, h2⟩
  ·have hz : x.ct = 0 := by rw [h2]; rfl
   have h0 : x.ok0 := by rw [h2]; exact psStart_ok he
   have hstep : psStep x (l.getD i (0, 0)) = (psBegin x tm v, []) := by unfold psStep; rw [if_pos hz, hpair]
   have cP := psStep0_m x tm v h0 hIv (by omega)
   clear h2
   generalize psBegin x tm v = Y at cP hstep
   unfold stA psVs at cP
   (repeat' (first | refine r_95e112 ?_ | (refine is_f 25 ?_; refine r_e7cc0f (cP) ?_) | (refine r_0efca5 (fun hb => ?_) (fun hb => ?_) <;> (try (exfalso; omega))) | fail))
   all_goals (first | (exfalso; omega) | skip)
   refine ⟨(i + 1, Y, out ++ []), ⟨hlt, ?_⟩, ?_, by show l.length - (i + 1) < l.length - i; omega⟩
   ·show (Y, out ++ []) = psGo (l.take (i + 1)) (psStart eps, [])
    rw [take_getD l i (0, 0) hlt, psGo_snoc, ← hgo, hstep]
   show Le _ _ (paS l Y (out ++ []) (i + 1))
   unfold paS
   refine Le.mk [(0, 0), (1, 2)] [] rfl (by (repeat' (first | exact le_nil | refine le_na ?_ | refine le_r ?_ rfl rfl | refine le_int ?_ (by omega) rfl | refine le_ow ?_ rfl rfl | refine le_pt ?_ rfl rfl | refine le_fz ?_ rfl q_bf1c9 rfl rfl | refine le_sv ?_ rfl rfl | refine le_ol ?_ rfl rfl | refine le_ag ?_ ?_ rfl | refine le_cl ?_ ?_ rfl | refine cfl_pt ?_ rfl | refine cfl_r ?_ rfl | refine cfl_rp ?_ rfl | exact CfL.nil))) ?_ (fun g h => nomatch h)
   exact ⟨⟨_, rfl, .var _ _ _ (show CfL _ _ _ (vsA (psVs Y)) (vsA (psVs Y)) from cfl_vsA0 _)⟩, ⟨_, rfl, by rw [← pcs_app]; exact .row _ _ _⟩, trivial⟩
  ·have hnz : x.ct ≠ 0 := by rcases h2 with h2 | h2 <;> (have := h2.2.1; omega)
   obtain ⟨l1, l2, l3⟩ := hps.last h1
   have hl2 := hlast h1
   cases hm : meetC x.c (thC x tm v) with
   | some m =>
    have hstep : psStep x (l.getD i (0, 0)) = (psNext x tm m, []) := by unfold psStep; rw [if_neg hnz, hpair, hm]
    have cP := psStepM_m x tm v h2 hIv hIt l3 (by omega) l2 (by omega) m hm
    clear h2
    generalize psNext x tm m = Y at cP hstep
    unfold stA psVs at cP
    (repeat' (first | refine r_95e112 ?_ | (refine is_f 25 ?_; refine r_e7cc0f (cP) ?_) | (refine r_0efca5 (fun hb => ?_) (fun hb => ?_) <;> (try (exfalso; omega))) | fail))
    all_goals (first | (exfalso; omega) | skip)
    refine ⟨(i + 1, Y, out ++ []), ⟨hlt, ?_⟩, ?_, by show l.length - (i + 1) < l.length - i; omega⟩
    ·show (Y, out ++ []) = psGo (l.take (i + 1)) (psStart eps, [])
     rw [take_getD l i (0, 0) hlt, psGo_snoc, ← hgo, hstep]
    show Le _ _ (paS l Y (out ++ []) (i + 1))
    unfold paS
    refine Le.mk [(0, 0), (1, 2)] [] rfl (by (repeat' (first | exact le_nil | refine le_na ?_ | refine le_r ?_ rfl rfl | refine le_int ?_ (by omega) rfl | refine le_ow ?_ rfl rfl | refine le_pt ?_ rfl rfl | refine le_fz ?_ rfl q_bf1c9 rfl rfl | refine le_sv ?_ rfl rfl | refine le_ol ?_ rfl rfl | refine le_ag ?_ ?_ rfl | refine le_cl ?_ ?_ rfl | refine cfl_pt ?_ rfl | refine cfl_r ?_ rfl | refine cfl_rp ?_ rfl | exact CfL.nil))) ?_ (fun g h => nomatch h)
    exact ⟨⟨_, rfl, .var _ _ _ (show CfL _ _ _ (vsA (psVs Y)) (vsA (psVs Y)) from cfl_vsA0 _)⟩, ⟨_, rfl, by rw [← pcs_app]; exact .row _ _ _⟩, trivial⟩
   | none =>
    have hstep : psStep x (l.getD i (0, 0)) = (psBegin x tm v, [x.pc]) := by unfold psStep; rw [if_neg hnz, hpair, hm]
    have cP := psStepN_m x tm v h2 hIv hIt l3 (by omega) l2 (by omega) hm
    clear h2
    generalize psBegin x tm v = Y at cP hstep
    unfold stA psVs at cP
    have hp1 : (pcs [x.pc]).length = 1 := rfl
    obtain ⟨pl, hpl2⟩ : ∃ pl, pcs [x.pc] = pl := ⟨_, rfl⟩
    rw [hpl2] at cP hp1
    subst htm hv
    (repeat' (first | refine r_95e112 ?_ | (refine r_0efca5 (fun hb => ?_) (fun hb => ?_) <;> (try (exfalso; omega))) | fail))
    all_goals (first | (exfalso; omega) | skip)
    refine is_f 25 ?_
    refine w_callU (.tu [.ag (vsA (psVs Y)), .ow 2, .r (.v (.int .i64 0))]) [.row 42 24 pl] cP ?_ (by kernel_rfl) (unfr_step _ _ _ _ _ _) (idss_step _ _ _) (rng_step _ _ _ _) rfl (.inl ⟨rfl, rfl⟩) ?_
    ·exact .cons _ _ _ _ (.ag _ _ (show CfL _ _ _ (vsA (psVs x)) (vsA (psVs x)) from cfl_vsA0 _)) (.cons _ _ _ _ (.ag _ _ (.cons _ _ _ _ (.r _) (.cons _ _ _ _ (.r _) .nil))) .nil)
    (repeat' (first | refine r_95e112 ?_ | (refine r_0efca5 (fun hb => ?_) (fun hb => ?_) <;> (try (exfalso; omega))) | fail))
    all_goals (first | (exfalso; omega) | skip)
    refine ⟨(i + 1, Y, out ++ [x.pc]), ⟨hlt, ?_⟩, ?_, by show l.length - (i + 1) < l.length - i; omega⟩
    ·show (Y, out ++ [x.pc]) = psGo (l.take (i + 1)) (psStart eps, [])
     rw [take_getD l i (0, 0) hlt, psGo_snoc, ← hgo, hstep]
    show Le _ _ (paS l Y (out ++ [x.pc]) (i + 1))
    unfold paS
    refine Le.mk [(0, 0), (1, 3)] [] rfl (by (repeat' (first | exact le_nil | refine le_na ?_ | refine le_r ?_ rfl rfl | refine le_int ?_ (by omega) rfl | refine le_ow ?_ rfl rfl | refine le_pt ?_ rfl rfl | refine le_fz ?_ rfl q_bf1c9 rfl rfl | refine le_sv ?_ rfl rfl | refine le_ol ?_ rfl rfl | refine le_ag ?_ ?_ rfl | refine le_cl ?_ ?_ rfl | refine cfl_pt ?_ rfl | refine cfl_r ?_ rfl | refine cfl_rp ?_ rfl | exact CfL.nil))) ?_ (fun g h => nomatch h)
    exact ⟨⟨_, rfl, .var _ _ _ (show CfL _ _ _ (vsA (psVs Y)) (vsA (psVs Y)) from cfl_vsA0 _)⟩, ⟨_, rfl, by rw [← pcs_app, hpl2]; exact .row _ _ _⟩, trivial⟩
 ·have hie : i = l.length := by omega
  subst hie
  rw [List.take_length] at hgo
  have hpl : (pcs out).length ≤ 1000000 := by rw [pcs_len]; have := hps.len; omega
  have hp1 : (pcs [x.pc]).length = 1 := rfl
  rcases hps.st with ⟨h1, h2⟩ | ⟨h1, h2⟩
  ·have hl0 : l = [] := List.length_eq_zero_iff.1 h1
   have hall : psAll l eps = out ++ [] := by unfold psAll; rw [if_pos hl0, ← hgo]
   have h0 : x.ok0 := by rw [h2]; exact psStart_ok he
   have cF := psFinish0_m x h0
   clear h2
   unfold stA psVs at cF
   rw [hall, ← pcs_app]
   (repeat' (first | refine r_95e112 ?_ | (refine is_f 26 ?_; refine r_e7cc0f (cF) ?_) | (refine r_0efca5 (fun hb => ?_) (fun hb => ?_) <;> (try (exfalso; omega))) | fail))
   all_goals (first | (exfalso; omega) | exact ret2 [] (.fr 2 _ _ _ rfl) (.int rfl) rfl rfl rfl rfl)
  ·have hl0 : l ≠ [] := List.length_pos_iff.1 h1
   have hall : psAll l eps = out ++ [x.pc] := by unfold psAll; rw [if_neg hl0, ← hgo]
   have cF := psFinish_m x h2
   clear h2
   unfold stA psVs at cF
   rw [hall, ← pcs_app]
   (repeat' (first | refine r_95e112 ?_ | (refine is_f 26 ?_; refine r_e7cc0f (cF) ?_) | (refine r_0efca5 (fun hb => ?_) (fun hb => ?_) <;> (try (exfalso; omega))) | fail))
   all_goals (first | (exfalso; omega) | exact ret2 [] (.fr 3 _ _ _ rfl) (.int rfl) rfl rfl rfl rfl)
end Go.Proofs.YtibedaeefnjjlaaGreat
namespace Go.Proofs.YtibedaeefnjjlaaGreat
open Go.RowKit Go.Ab Go.Wd
def kn1 : Pc := ⟨5, 0, 0, ⟨false, 2, 1, 4, 1⟩⟩
def kn0 : Pc := ⟨0, 0, 0, ⟨false, 1, 1, 3, 1⟩⟩
theorem kn_sort : sortP [kn1, kn0] = [kn0, kn1] := by
 have hv : ∀ n : Int, 0 < n → n < 10 → VR n 1 := fun n h1 h2 => ⟨by omega, by unfold N127; omega, by decide, by simp⟩
 refine (sortP_eq (fun x hx => ?_) (by decide) (List.Perm.swap _ _ _) ?_).symm
 ·simp only [List.mem_cons, List.not_mem_nil, or_false] at hx
  rcases hx with rfl | rfl
  ·exact .inr ⟨rfl, hv 2 (by omega) (by omega), hv 4 (by omega) (by omega), by decide⟩
  ·exact .inr ⟨rfl, hv 1 (by omega) (by omega), hv 3 (by omega) (by omega), by decide⟩
 ·refine .cons (fun y hy => ?_) (.cons (fun y hy => nomatch hy) .nil)
  rw [List.mem_singleton] at hy
  subst hy
  decide
def knG : Gr := ⟨0, [0, 5], ⟨false, 2, 1, 3, 1⟩⟩
theorem kn_fold : [kn0, kn1].foldl jn [] = [knG] := by rfl
theorem kn_ch : chC knG.c = (2, 1) := by
 show btw 2 1 3 1 = (2, 1)
 unfold btw
 rw [if_neg (by decide), if_neg (by decide)]
 show (((posF 2 1 3 1).1 : Int), ((posF 2 1 3 1).2 : Int)) = _
 rw [posF, dif_pos (by simp)]
 rfl
theorem kn_z : sortZ knG.ss = [0, 5] := List.mergeSort_of_pairwise (by decide)
theorem kn_ok : PcOk [kn1, kn0] := by
 have hv : ∀ n : Int, 0 < n → n < 10 → VR n 1 := fun n h1 h2 => ⟨by omega, by unfold N127; omega, by decide, by simp⟩
 refine ⟨fun x hx => ?_, fun x hx => ?_, by decide⟩
 ·simp only [List.mem_cons, List.not_mem_nil, or_false] at hx
  rcases hx with rfl | rfl
  ·exact .inr ⟨rfl, hv 2 (by omega) (by omega), hv 4 (by omega) (by omega), by decide⟩
  ·exact .inr ⟨rfl, hv 1 (by omega) (by omega), hv 3 (by omega) (by omega), by decide⟩
 ·simp only [List.mem_cons, List.not_mem_nil, or_false] at hx
  rcases hx with rfl | rfl <;> decide
def knO : List RV := .v (.int .i64 0) :: ((rtVs 2 1).map RV.v ++ [.sl 1 (nums .i64 [0, 5])])
theorem kn_join : Meets Tryz.prog 15 [.r (.sl 24 [(pcVs kn1).map RV.v, (pcVs kn0).map RV.v])] [] (.tu [.fr 51 12 [knO], .r (.v (.int .i64 0))]) [] := by
 have h := join_m [kn1, kn0] (by decide) kn_ok
 rw [kn_sort, kn_fold] at h
 have e : grO knG = knO := by
  unfold grO knO
  rw [kn_ch, kn_z]; rfl
 rw [List.map_cons, List.map_nil, e] at h
 exact h
section
variable {env : Nat → AV} {H : Nat → Option Blk} {d : Option Tmp} {ty : TypeId} {pos : String} {af : Array Edge} {g : Option (Nat × Bool)} {u : TypeId} {x y : Operand}
theorem p_eqrt (p q : Int) (h1 : W4 p) (h2 : W4 q) (hx : evA env x = rt p q) (hy : evA env y = rt p q) : ReadOk Tryz.prog ⟨d, .binOp .eql 38 x y u, ty, pos, af, g⟩ env H [] (.r (.v (.bool true))) := by
 have h := p_eqR (H := H) (d := d) (ty := ty) (pos := pos) (af := af) (g := g) (u := u) (x := x) (y := y) (vs := rtVs p q) (us := rtVs p q) (by kernel_rfl) (eqr_rt (d := 9996) h1 h2 h1 h2) hx hy
 simpa using h
end
set_option maxHeartbeats 4000000 in
theorem known21_m : Meets Tryz.prog 13 [] [] (.r (.v (.bool true))) [] := by
 have o2 := rOfQ_m 2 (by unfold I64; omega)
 have o4 := rOfQ_m 4 (by unfold I64; omega)
 have o1 := rOfQ_m 1 (by unfold I64; omega)
 have o3 := rOfQ_m 3 (by unfold I64; omega)
 have cJ := kn_join
 refine fn_of Tryz.func13 rfl (Nat.le_of_ble_eq_true rfl) rfl rfl ?_
 (repeat' (first | (first | refine awp_halt 1 ?_ | refine awp_haltR 1 ?_) | refine r_2ec44d ?_ | refine r_d3423f ?_ | (refine r_0efca5 (fun hb => ?_) (fun hb => ?_) <;> (try (exfalso; omega))) | fail))
 refine halt ?_
 refine awp_seq ?_
 refine awp_text2 ⟨[(12, .r (.sl 24 [(pcVs kn1).map RV.v, (pcVs kn0).map RV.v]))], [], 0⟩ (l1 := [_, _, _, _, _, _, _, _, _]) (l2 := [_, _, _, _, _, _]) ?_ ?_
 ·(repeat' (first | refine r_95e112 ?_ | (refine is_f 31 ?_; refine r_e7cc0f (o2) ?_) | (refine is_f 31 ?_; refine r_e7cc0f (o4) ?_) | (refine is_f 31 ?_; refine r_e7cc0f (o1) ?_) | (refine is_f 31 ?_; refine r_e7cc0f (o3) ?_) | (refine r_0efca5 (fun hb => ?_) (fun hb => ?_) <;> (try (exfalso; omega))) | fail))
  refine Le.mk [] [0] rfl ⟨?_, trivial⟩ hl_nil (fun g h => by
   rw [List.mem_singleton] at h
   subst h
   exact ⟨_, rfl⟩)
  first
   | exact .fzf 0 42 24 [(pcVs kn1).map RV.v, (pcVs kn0).map RV.v] rfl (by simp)
   | exact .fz 0 42 24 [(pcVs kn1).map RV.v, (pcVs kn0).map RV.v] rfl (by simp)
 ·(repeat' (first | (first | refine awp_halt 2 ?_ | refine awp_haltR 2 ?_) | refine r_2ec44d ?_ | refine r_d3423f ?_ | (refine is_f 15 ?_; refine r_e7cc0f (cJ) ?_) | (refine r_0efca5 (fun hb => ?_) (fun hb => ?_) <;> (try (exfalso; omega))) | fail))
  refine halt ?_
  refine awp_le (T := ⟨[(1, .r (.sl 12 [knO])), (2, .r (.v (.int .i64 0)))], [], 0⟩) (by (refine Le.mk [] [0] q_5ec36 q_871b6 q_bbfed q_509a2)) ?_
  have w2 : W4 2 := by unfold W4; decide
  have w1 : W4 1 := by unfold W4; decide
  have hk1 : (((nums .i64 [0, 5]).length : Nat) : Int) = 2 := rfl
  have hk2 : ((([knO] : List (List RV)).length : Nat) : Int) = 1 := rfl
  have hk0 : ([knO] : List (List RV))[0]? = some knO := rfl
  (repeat' (first | (refine is_bin ?_; refine is_b_eql ?_; refine w_read rfl q_85eb5 (p_eqrt 2 1 w2 w1 rfl rfl) ?_) | (refine is_load ?_; refine w_read rfl q_85eb5 (p_loadNp rfl (Nat.le_of_ble_eq_true rfl)) ?_) | refine r_95e112 ?_ | (refine is_f 31 ?_; refine r_e7cc0f (o2) ?_) | (refine r_0efca5 (fun hb => ?_) (fun hb => ?_) <;> (try (exfalso; omega))) | fail))
  all_goals (first | (exfalso; omega) | exact ret1 [] (.bool rfl) rfl rfl rfl)
end Go.Proofs.YtibedaeefnjjlaaGreat
namespace Go.Proofs.YtibedaeefnjjlaaGreat
open Go.RowKit Go.Ab Go.Wd
theorem vals_pcs (T : Nat) (l : List Pc) : (AV.fr T 24 (pcs l)).vals := by
 simp only [AV.vals]
 intro e he x hx
 unfold pcs at he
 obtain ⟨a, _, rfl⟩ := List.mem_map.1 he
 obtain ⟨v, _, rfl⟩ := List.mem_map.1 hx
 exact ⟨_, rfl⟩
def acA (es : List (List RV)) (n : Nat) : St := ⟨[(6, .r (.sl 1 es)), (7, .r (.v (.int .i64 (n : Int))))], [], 0⟩
def acB (es : List (List RV)) (n : Nat) (gs : List Gr) (i : Nat) : St := ⟨[(6, .r (.sl 1 es)), (7, .r (.v (.int .i64 (n : Int)))), (8, .r (.sl 12 (grOs gs))), (9, .r (.v (.int .i64 0))), (10, .r (.v (.int .i64 (i : Int))))], [], 0⟩
set_option maxHeartbeats 8000000 in
theorem groupingAscends_m (t : List Int) (ht : Ints t) (htn : t.length ≤ 140737488351232) : Meets Tryz.prog 5 [.r (.sl 1 (nums .i64 t))] [] (.r (.v (.bool true))) [] := by
 refine fn_of Tryz.func5 rfl (Nat.le_of_ble_eq_true rfl) rfl rfl ?_
 have hIs := smpL_smp t 0 40
 have hll := smpL_len t 0 40
 have hsrt : ((smpL t 0 40).1.map Prod.fst).Pairwise (· < ·) := by rw [smpL_fst]; exact (tmL_sorted t 0 40).1
 have cS := samples_m t 0 40 ht htn (by omega)
 generalize (smpL t 0 40).1 = sl at *
 generalize (smpL t 0 40).2 = k1 at *
 have cT := tapeTol_m t k1 ht htn
 have hte := tolv_range t k1
 generalize (tolv t k1).1 = eps at *
 generalize (tolv t k1).2 = k2 at *
 have cA := psAll_m sl eps hte hsrt hIs (by omega)
 obtain ⟨m1, m2⟩ := psAll_ok hte hsrt hIs (by omega)
 generalize psAll sl eps = ml at *
 have cO := some_z t k2 ht htn
 have hok := smL_ok t k2
 generalize (smL t k2).1 = ol at *
 generalize (smL t k2).2 = k3 at *
 have ho2 := hok.len
 have hL : ∀ n, n < 2 → ∃ L : List Pc, PcOk L ∧ L.length ≤ 41 ∧ ([[.sl 24 (pcs ol)], [.sl 24 (pcs ml)]] : List (List RV))[n]? = some [.sl 24 (pcs L)] := fun n hn => by
  rcases n with _ | _ | n
  ·exact ⟨ol, hok.pc, by omega, rfl⟩
  ·exact ⟨ml, m1, by omega, rfl⟩
  ·omega
 (repeat' (first | (first | refine awp_halt 3 ?_ | refine awp_haltR 3 ?_) | refine r_2ec44d ?_ | refine r_d3423f ?_ | (refine is_f 7 ?_; refine r_bb3077 (new_m t) ?_) | (refine is_f 10 ?_; refine r_92fba5 (cS) ?_) | (refine is_f 11 ?_; refine r_92fba5 (cT) ?_) | (refine r_0efca5 (fun hb => ?_) (fun hb => ?_) <;> (try (exfalso; omega))) | fail))
 refine is_f 9 ?_
 refine w_call [1] [(1, _)] cA (.cons _ _ _ _ (.fz 1 _ _ _ rfl (by simp)) (.cons _ _ _ _ (.r _) .nil)) (by kernel_rfl) (by intro g h; rw [List.mem_singleton] at h; subst h; exact ⟨_, List.mem_cons_self, rfl⟩) (by intro i b h; rw [List.mem_singleton] at h; injection h with h1 h2; subst h1 h2; rfl) (.inr (vals_tu (vals_cons (vals_pcs _ _) (vals_cons (vals_v _) vals_nil)))) rfl rfl rfl (.inl ⟨rfl, rfl⟩) ?_
 (repeat' (first | (first | refine awp_halt 3 ?_ | refine awp_haltR 3 ?_) | refine r_2ec44d ?_ | refine r_d3423f ?_ | (refine r_0efca5 (fun hb => ?_) (fun hb => ?_) <;> (try (exfalso; omega))) | fail))
 refine halt ?_
 refine awp_le (T := ⟨[(3, .pt 0 0), (4, .r (.sl 24 (pcs ml)))], [(0, some (tb t k2))], 1⟩) (by (refine Le.mk [(0,0)] [2] q_5ec36 q_871b6 q_bbfed q_509a2)) ?_
 clear cS cT cA
 (repeat' (first | (first | refine awp_halt 4 ?_ | refine awp_haltR 4 ?_) | refine r_2ec44d ?_ | refine r_d3423f ?_ | (refine is_f 8 ?_; refine r_92fba5 (cO) ?_) | (refine r_0efca5 (fun hb => ?_) (fun hb => ?_) <;> (try (exfalso; omega))) | fail))
 refine halt ?_
 generalize ([[.sl 24 (pcs ol)], [.sl 24 (pcs ml)]] : List (List RV)) = es at *
 refine awp_le (T := ⟨[(6, .r (.sl 1 es))], [], 0⟩) (by (refine Le.mk [] [1] q_5ec36 q_871b6 q_bbfed q_509a2)) ?_
 clear cO hok ho2 m1 m2 hIs hsrt hte
 (repeat' (first | refine r_95e112 ?_ | (refine r_0efca5 (fun hb => ?_) (fun hb => ?_) <;> (try (exfalso; omega))) | fail))
 refine awp_loop' (acA es) (fun n => n ≤ 2) (fun n => 2 - n) 0 (Nat.zero_le _) (by (refine Le.mk [] [] q_5ec36 q_871b6 q_bbfed q_509a2)) fun n hn => ?_
 rcases Nat.lt_or_ge n 2 with hn2 | hn2
 ·obtain ⟨L, hok, hLl, hes⟩ := hL n hn2
  have hesl : n < es.length := (List.getElem?_eq_some_iff.1 hes).1
  have cJ : Meets Tryz.prog 15 [.r (.sl 24 (pcs L))] [] (.tu [.fr 51 12 (grOs (grs L)), .r (.v (.int .i64 0))]) [] := join_m L (by omega) hok
  have hasc := fun i g g' hg hg' => gpc_asc (i := i) (g := g) (g' := g') hok hg hg'
  have hnil := gpc_nil hok
  have hgok := (gpc_inv hok).ok
  have hgl := grs_len (l := L)
  generalize grs L = gs at *
  have hgO : (grOs gs).length = gs.length := by simp [grOs]
  have hpl : (pcs L).length = L.length := pcs_len L
  have hwn : IntKind.i64.wrap ((n : Int) + 1) = ((n + 1 : Nat) : Int) := nat_incI n (by omega)
  (repeat' (first | (first | refine awp_halt 8 ?_ | refine awp_haltR 8 ?_) | (refine is_load ?_; refine w_read rfl q_85eb5 (p_loadNp rfl (Nat.le_of_ble_eq_true rfl)) ?_) | refine r_2ec44d ?_ | refine r_d3423f ?_ | (refine is_f 15 ?_; refine r_e7cc0f (cJ) ?_) | (refine r_0efca5 (fun hb => ?_) (fun hb => ?_) <;> (try (exfalso; omega))) | fail))
  all_goals (first | (exfalso; omega) | skip)
  refine halt ?_
  refine awp_le (T := ⟨[(6, .r (.sl 1 es)), (7, .r (.v (.int .i64 (n : Int)))), (8, .r (.sl 12 (grOs gs))), (9, .r (.v (.int .i64 0)))], [], 0⟩) (by (refine Le.mk [] [0] q_5ec36 q_871b6 q_bbfed q_509a2)) ?_
  clear cJ
  by_cases h0 : gs.length = 0
  ·have h0L := hnil.1 h0
   (repeat' (first | (refine is_load ?_; refine w_read rfl q_85eb5 (p_loadNp rfl (Nat.le_of_ble_eq_true rfl)) ?_) | refine r_95e112 ?_ | (refine r_0efca5 (fun hb => ?_) (fun hb => ?_) <;> (try (exfalso; omega))) | fail))
   all_goals (first | (exfalso; omega) | skip)
   refine awp_loop' (fun j : Nat => acB es n gs (j + 1)) (fun j => j ≤ gs.length) (fun j => gs.length - j) 0 (Nat.zero_le _) (by (refine Le.mk [] [] q_5ec36 q_871b6 q_bbfed q_509a2)) fun j hj => ?_
   show awp _ _ _ _ _ (acB es n gs (j + 1))
   (repeat' (first | refine r_95e112 ?_ | (refine r_0efca5 (fun hb => ?_) (fun hb => ?_) <;> (try (exfalso; omega))) | fail))
   all_goals (first | (exfalso; omega) | exact ⟨n + 1, hn2, by (refine Le.mk [] [] q_5ec36 q_871b6 q_bbfed q_509a2), by show 2 - (n + 1) < 2 - n; omega⟩)
  ·have h0L : L.length ≠ 0 := fun h => h0 (hnil.2 h)
   (repeat' (first | (refine is_load ?_; refine w_read rfl q_85eb5 (p_loadNp rfl (Nat.le_of_ble_eq_true rfl)) ?_) | refine r_95e112 ?_ | (refine r_0efca5 (fun hb => ?_) (fun hb => ?_) <;> (try (exfalso; omega))) | fail))
   all_goals (first | (exfalso; omega) | skip)
   refine awp_loop' (fun j : Nat => acB es n gs (j + 1)) (fun j => j ≤ gs.length) (fun j => gs.length - j) 0 (Nat.zero_le _) (by (refine Le.mk [] [] q_5ec36 q_871b6 q_bbfed q_509a2)) fun j hj => ?_
   show awp _ _ _ _ _ (acB es n gs (j + 1))
   rcases Nat.lt_or_ge (j + 1) gs.length with hlt | hge
   ·obtain ⟨g, hg⟩ : ∃ g, gs[j]? = some g := ⟨_, List.getElem?_eq_getElem (by omega)⟩
    obtain ⟨g', hg'⟩ : ∃ g, gs[j + 1]? = some g := ⟨_, List.getElem?_eq_getElem hlt⟩
    have hgO1 : (grOs gs)[j]? = some (grO g) := by unfold grOs; rw [List.getElem?_map, hg]; rfl
    have hgO2 : (grOs gs)[j + 1]? = some (grO g') := by unfold grOs; rw [List.getElem?_map, hg']; rfl
    obtain ⟨k1, k2⟩ := hasc j g g' hg hg'
    have v1 := (chC_ok (hgok g (List.mem_of_getElem? hg))).1
    have v2 := (chC_ok (hgok g' (List.mem_of_getElem? hg'))).1
    have cC := rCmpG_m _ _ _ _ v1 v2
    have hw1 : IntKind.i64.wrap (((j + 1 : Nat) : Int) - 1) = (j : Int) := by rw [IntKind.wrap_i64]; omega
    have hwi : IntKind.i64.wrap (((j + 1 : Nat) : Int) + 1) = ((j + 1 + 1 : Nat) : Int) := nat_incI (j + 1) (by omega)
    by_cases hk : g.ky = g'.ky
    ·have hc : cmpZ ((chC g.c).1 * (chC g'.c).2) ((chC g'.c).1 * (chC g.c).2) = -1 := by unfold cmpZ; rw [if_pos (k2 hk)]
     rw [hc] at cC
     clear k2 hasc
     (repeat' (first | (refine is_load ?_; refine w_read rfl q_85eb5 (p_loadNp rfl (Nat.le_of_ble_eq_true rfl)) ?_) | refine r_95e112 ?_ | (refine is_f 18 ?_; refine r_e7cc0f (cC) ?_) | (refine r_0efca5 (fun hb => ?_) (fun hb => ?_) <;> (try (exfalso; omega))) | fail))
     all_goals (first | (exfalso; omega) | exact ⟨j + 1, by omega, by (refine Le.mk [] [] q_5ec36 q_871b6 q_bbfed q_509a2), by show gs.length - (j + 1) < gs.length - j; omega⟩)
    ·clear k2 hasc
     (repeat' (first | (refine is_load ?_; refine w_read rfl q_85eb5 (p_loadNp rfl (Nat.le_of_ble_eq_true rfl)) ?_) | refine r_95e112 ?_ | (refine r_0efca5 (fun hb => ?_) (fun hb => ?_) <;> (try (exfalso; omega))) | fail))
     all_goals (first | (exfalso; omega) | exact ⟨j + 1, by omega, by (refine Le.mk [] [] q_5ec36 q_871b6 q_bbfed q_509a2), by show gs.length - (j + 1) < gs.length - j; omega⟩)
   ·(repeat' (first | refine r_95e112 ?_ | (refine r_0efca5 (fun hb => ?_) (fun hb => ?_) <;> (try (exfalso; omega))) | fail))
    all_goals (first | (exfalso; omega) | exact ⟨n + 1, hn2, by (refine Le.mk [] [] q_5ec36 q_871b6 q_bbfed q_509a2), by show 2 - (n + 1) < 2 - n; omega⟩)
 ·have hne : n = 2 := by omega
  subst hne
  have cN := known21_m
  (repeat' (first | refine r_95e112 ?_ | (refine is_f 13 ?_; refine r_e7cc0f (cN) ?_) | (refine r_0efca5 (fun hb => ?_) (fun hb => ?_) <;> (try (exfalso; omega))) | fail))
  all_goals (first | (exfalso; omega) | exact ret1 [] (.bool rfl) rfl rfl rfl)
end Go.Proofs.YtibedaeefnjjlaaGreat
