/- Texts of the second layer in one: Cv1. -/
import Derived.Test.YtibedaeefnjjlaaGreatG40
/- The walk of GroupingCovers. Conditions: a list of at most 2^47 numbers. --ext8 -/
namespace Go.Proofs.YtibedaeefnjjlaaGreat
open Go.RowKit Go.Ab Go.Wd
set_option maxRecDepth 100000
set_option linter.unusedVariables false
set_option linter.unusedSimpArgs false

theorem contains_m (c : Cn) (u v : Int) (hc : SCn c) (hv : VS u v) (h : c.o = true ∨ (c.o = false ∧ fle c.lo (u, v) ∧ fle (u, v) c.hi)) : Meets Tryz.prog 16 [cn c.o c.p c.q c.r c.s, rt u v] [] (.r (.v (.bool true))) [] := by
  rcases hc with rfl | ⟨h1, h2, h3, h4⟩
  · exact rContains0_m u v hv
  · obtain ⟨o, p, q, r, s⟩ := c
    dsimp only at h1 h2 h3 h4 h ⊢
    subst h1
    have := rContains_m p q r s u v h2 h3 h4 hv
    rcases h with h | ⟨_, h5, h6⟩
    · cases h
    · rwa [show decide (p * v ≤ u * q ∧ u * s ≤ r * v) = true from decide_eq_true ⟨h5, h6⟩] at this
/-- All starts of the first groups. -/
def sts (gs : List Gr) (i : Nat) : List Int := ((gs.take i).map fun g => sortZ g.ss).flatten
theorem sts_step {gs : List Gr} {i : Nat} {g : Gr} (h : gs[i]? = some g) : sts gs (i + 1) = sts gs i ++ sortZ g.ss := by
  unfold sts
  rw [List.take_add_one, h]; simp
theorem sts_all (gs : List Gr) : sts gs gs.length = (gs.map fun g => sortZ g.ss).flatten := by unfold sts; rw [List.take_length]
theorem sts_len (gs : List Gr) (i : Nat) : (sts gs i).length ≤ (sts gs gs.length).length := by
  rw [sts_all]
  have h1 : gs = gs.take i ++ gs.drop i := (List.take_append_drop i gs).symm
  unfold sts
  conv => rhs; rw [h1]
  rw [List.map_append, List.flatten_append, List.length_append]; omega
def cvA (l : List Pc) (gs : List Gr) (i : Nat) : St := ⟨[(3, .r (.sl 24 (pcs l))), (4, .r (.sl 12 (grOs gs))), (5, .r (.v (.int .i64 0))), (6, .r (.v (.int .i64 ((sts gs i).length : Int)))), (7, .r (.v (.int .i64 (i : Int))))], [], 0⟩
def cvB (l : List Pc) (gs : List Gr) (i : Nat) : St := ⟨[(3, .r (.sl 24 (pcs l))), (4, .r (.sl 12 (grOs gs))), (5, .r (.v (.int .i64 0))), (6, .r (.v (.int .i64 (l.length : Int)))), (8, .r (.v (.int .i64 (i : Int))))], [], 0⟩
def cvC (l : List Pc) (gs : List Gr) (i : Nat) (z : Int) (j : Nat) : St := ⟨[(3, .r (.sl 24 (pcs l))), (4, .r (.sl 12 (grOs gs))), (5, .r (.v (.int .i64 0))), (6, .r (.v (.int .i64 (l.length : Int)))), (8, .r (.v (.int .i64 (i : Int)))), (9, .r (.v (.int .i64 ((sts gs j).count z : Int)))), (10, .r (.v (.int .i64 (j : Int))))], [], 0⟩
def cvD (l : List Pc) (gs : List Gr) (i : Nat) (j n f : Nat) : St := ⟨[(3, .r (.sl 24 (pcs l))), (4, .r (.sl 12 (grOs gs))), (5, .r (.v (.int .i64 0))), (6, .r (.v (.int .i64 (l.length : Int)))), (8, .r (.v (.int .i64 (i : Int)))), (9, .r (.v (.int .i64 (f : Int)))), (10, .r (.v (.int .i64 (j : Int)))), (11, .r (.v (.int .i64 (n : Int))))], [], 0⟩
def cvE (l : List Pc) (gs : List Gr) (m : Nat) : St := ⟨[(3, .r (.sl 24 (pcs l))), (4, .r (.sl 12 (grOs gs))), (5, .r (.v (.int .i64 0))), (6, .r (.v (.int .i64 (l.length : Int)))), (12, .ow 0), (13, .r (.v (.int .i64 ((m : Int) - 1))))], [(0, some (.row 42 24 (pcs (l.drop m).reverse)))], 1⟩
set_option maxHeartbeats 8000000 in
theorem groupingCovers_m (t : List Int) (ht : Ints t) (htn : t.length ≤ 140737488351232) : Meets Tryz.prog 4 [.r (.sl 1 (nums .i64 t))] [] (.r (.v (.bool true))) [] := by
  refine fn_of Tryz.func4 rfl (Nat.le_of_ble_eq_true rfl) rfl rfl ?_
  have hok := smL_ok t 0
  have cS := some_m t 0 ht htn
  generalize (smL t 0).2 = k1 at *
  generalize (smL t 0).1 = l at *
  have hll := hok.len
  have cJ : Meets Tryz.prog 15 [.r (.sl 24 (pcs l))] [] (.tu [.fr 51 12 (grOs (grs l)), .r (.v (.int .i64 0))]) [] := join_m l (by omega) hok.pc
  have cK := join_m l.reverse (by simp; omega) (hok.pc.perm (List.reverse_perm l))
  rw [show ((sortP l.reverse).foldl jn []) = grs l from grs_rev hok] at cK
  replace cK : Meets Tryz.prog 15 [.r (.sl 24 (pcs l.reverse))] [] (.tu [.fr 51 12 (grOs (grs l)), .r (.v (.int .i64 0))]) [] := cK
  have hsub : ∀ x ∈ l, ∀ g ∈ grs l, x.ix ∈ g.ss → g.ky = x.ky ∧ subC g.c x.c := fun x hx g hg hi => grs_sub hok hx hg hi
  have hcount : ∀ x ∈ l, (sts (grs l) (grs l).length).count x.ix = 1 := fun x hx => by rw [sts_all]; exact grs_count hok hx
  have htot : (sts (grs l) (grs l).length).length = l.length := by rw [sts_all]; exact grs_length hok
  have hsc := grs_sc hok
  have hgl := grs_len (l := l)
  have hss := grs_ss hok
  generalize grs l = gs at *
  have hgO : (grOs gs).length = gs.length := by simp [grOs]
  have cM := same_m gs (by omega) (fun g hg => ⟨by have := hss g hg; omega, VR.w4n (chC_in (hsc g hg)).1.1, VR.w4d (chC_in (hsc g hg)).1.1⟩)
  have hpl : (pcs l).length = l.length := pcs_len l
  (repeat' (first | (first | refine awp_halt 2 ?_ | refine awp_haltR 2 ?_) | refine r_2ec44d ?_ | refine r_d3423f ?_ | (refine is_f 7 ?_; refine r_bb3077 (new_m t) ?_) | (refine is_f 8 ?_; refine r_92fba5 (cS) ?_) | (refine r_48b933 (fun hb => ?_) (fun hb => ?_) <;> (try (exfalso; omega))) | (refine awp_cond rfl (fun hb => ?_) (fun hb => ?_) <;> (try simp only [Bool.not_eq_true', Bool.not_eq_false', decide_eq_true_eq, decide_eq_false_iff_not] at hb) <;> (try (exfalso; omega)))))
  refine halt ?_
  refine awp_le (T := ⟨[(3, .r (.sl 24 (pcs l)))], [], 0⟩) (by (refine Le.mk [] [1] q_5ec36 q_871b6 q_bbfed q_509a2)) ?_
  (repeat' (first | (first | refine awp_halt 3 ?_ | refine awp_haltR 3 ?_) | refine r_2ec44d ?_ | refine r_d3423f ?_ | (refine is_f 15 ?_; refine r_e7cc0f (cJ) ?_) | (refine r_48b933 (fun hb => ?_) (fun hb => ?_) <;> (try (exfalso; omega))) | (refine awp_cond rfl (fun hb => ?_) (fun hb => ?_) <;> (try simp only [Bool.not_eq_true', Bool.not_eq_false', decide_eq_true_eq, decide_eq_false_iff_not] at hb) <;> (try (exfalso; omega)))))
  refine halt ?_
  refine awp_le (T := ⟨[(3, .r (.sl 24 (pcs l))), (4, .r (.sl 12 (grOs gs))), (5, .r (.v (.int .i64 0)))], [], 0⟩) (by (refine Le.mk [] [0] q_5ec36 q_871b6 q_bbfed q_509a2)) ?_
  clear cS cJ
  have hsl0 : (0 : Int) = ((sts gs 0).length : Int) := rfl
  (repeat' (first | refine r_95e112 ?_ | (refine r_48b933 (fun hb => ?_) (fun hb => ?_) <;> (try (exfalso; omega))) | (refine awp_cond rfl (fun hb => ?_) (fun hb => ?_) <;> (try simp only [Bool.not_eq_true', Bool.not_eq_false', decide_eq_true_eq, decide_eq_false_iff_not] at hb) <;> (try (exfalso; omega)))))
  refine awp_loop' (cvA l gs) (fun i => i ≤ gs.length) (fun i => gs.length - i) 0 (Nat.zero_le _) (by (refine Le.mk [] [] q_5ec36 q_871b6 q_bbfed q_509a2)) fun i hi => ?_
  have htl := sts_len gs
  rcases Nat.lt_or_ge i gs.length with hlt | hge
  · obtain ⟨g, hg⟩ : ∃ g, gs[i]? = some g := ⟨_, List.getElem?_eq_getElem hlt⟩
    have hgO2 : (grOs gs)[i]? = some (grO g) := by unfold grOs; rw [List.getElem?_map, hg]; rfl
    have h1 := sts_step hg
    have h2 := htl (i + 1)
    rw [htot, h1, List.length_append] at h2
    have hwi : IntKind.i64.wrap ((i : Int) + 1) = ((i + 1 : Nat) : Int) := nat_incI i (by omega)
    have hsum : IntKind.i64.wrap (((sts gs i).length : Int) + ((nums .i64 (sortZ g.ss)).length : Int)) = ((sts gs (i + 1)).length : Int) := by
      rw [nums_len, h1, List.length_append, IntKind.wrap_i64]
      omega
    (repeat' (first | (refine is_load ?_; refine w_read rfl q_85eb5 (p_loadNp rfl (Nat.le_of_ble_eq_true rfl)) ?_) | refine r_95e112 ?_ | (refine r_48b933 (fun hb => ?_) (fun hb => ?_) <;> (try (exfalso; omega))) | (refine awp_cond rfl (fun hb => ?_) (fun hb => ?_) <;> (try simp only [Bool.not_eq_true', Bool.not_eq_false', decide_eq_true_eq, decide_eq_false_iff_not] at hb) <;> (try (exfalso; omega)))))
    all_goals (first | (exfalso; omega) | exact ⟨i + 1, hlt, by (refine Le.mk [] [] q_5ec36 q_871b6 q_bbfed q_509a2), by show gs.length - (i + 1) < gs.length - i; omega⟩)
  · have hie : i = gs.length := by omega
    subst hie
    show awp _ _ _ _ _ (cvA l gs gs.length)
    unfold cvA
    rw [htot]
    clear htl
    (repeat' (first | refine r_95e112 ?_ | (refine r_48b933 (fun hb => ?_) (fun hb => ?_) <;> (try (exfalso; omega))) | (refine awp_cond rfl (fun hb => ?_) (fun hb => ?_) <;> (try simp only [Bool.not_eq_true', Bool.not_eq_false', decide_eq_true_eq, decide_eq_false_iff_not] at hb) <;> (try (exfalso; omega)))))
    all_goals (first | (exfalso; omega) | skip)
    refine awp_loop' (cvB l gs) (fun i => i ≤ l.length) (fun i => l.length - i) 0 (Nat.zero_le _) (by (refine Le.mk [] [] q_5ec36 q_871b6 q_bbfed q_509a2)) fun i hi => ?_
    rcases Nat.lt_or_ge i l.length with hlt | hge2
    · obtain ⟨x, hx⟩ : ∃ x, l[i]? = some x := ⟨_, List.getElem?_eq_getElem hlt⟩
      have hxm := List.mem_of_getElem? hx
      have hxO := pcs_get hx
      have hc1 := hcount x hxm
      have hxc := hok.c x hxm
      have hsx := hsub x hxm
      have hwi : IntKind.i64.wrap ((i : Int) + 1) = ((i + 1 : Nat) : Int) := nat_incI i (by omega)
      (repeat' (first | refine r_95e112 ?_ | (refine r_48b933 (fun hb => ?_) (fun hb => ?_) <;> (try (exfalso; omega))) | (refine awp_cond rfl (fun hb => ?_) (fun hb => ?_) <;> (try simp only [Bool.not_eq_true', Bool.not_eq_false', decide_eq_true_eq, decide_eq_false_iff_not] at hb) <;> (try (exfalso; omega)))))
      all_goals (first | (exfalso; omega) | skip)
      refine awp_loop' (cvC l gs i x.ix) (fun j => j ≤ gs.length) (fun j => gs.length - j) 0 (Nat.zero_le _) (by
        show Le _ _ (cvC l gs i x.ix 0)
        unfold cvC
        rw [show ((List.count x.ix (sts gs 0) : Nat) : Int) = 0 from rfl]
        (refine Le.mk [] [] q_5ec36 q_871b6 q_bbfed q_509a2)) fun j hj => ?_
      rcases Nat.lt_or_ge j gs.length with hlt2 | hge2
      · obtain ⟨g, hg⟩ : ∃ g, gs[j]? = some g := ⟨_, List.getElem?_eq_getElem hlt2⟩
        have hgm := List.mem_of_getElem? hg
        have hgO2 : (grOs gs)[j]? = some (grO g) := by unfold grOs; rw [List.getElem?_map, hg]; rfl
        have h1 := sts_step hg
        have hsg := hss g hgm
        have hzl : (sortZ g.ss).length = g.ss.length := (List.mergeSort_perm _ _).length_eq
        have hnl : (nums .i64 (sortZ g.ss)).length = g.ss.length := by rw [nums_len, hzl]
        have hwj : IntKind.i64.wrap ((j : Int) + 1) = ((j + 1 : Nat) : Int) := nat_incI j (by omega)
        have hsgx := hsx g hgm
        have hzm : ∀ z ∈ sortZ g.ss, z ∈ g.ss := fun z hz => (List.mergeSort_perm g.ss _).mem_iff.1 hz
        obtain ⟨f0, hf0⟩ : ∃ f0, f0 = (sts gs j).count x.ix := ⟨_, rfl⟩
        have hf1 : (sts gs (j + 1)).count x.ix = f0 + (sortZ g.ss).count x.ix := by rw [h1, List.count_append, hf0]
        have hfb : f0 ≤ 1000 := by
          have e1 := List.count_le_length (l := sts gs j) (a := x.ix)
          have e2 := sts_len gs j
          rw [htot] at e2
          omega
        show awp _ _ _ _ _ (cvC l gs i x.ix j)
        unfold cvC
        rw [← hf0]
        (repeat' (first | refine r_95e112 ?_ | (refine r_48b933 (fun hb => ?_) (fun hb => ?_) <;> (try (exfalso; omega))) | (refine awp_cond rfl (fun hb => ?_) (fun hb => ?_) <;> (try simp only [Bool.not_eq_true', Bool.not_eq_false', decide_eq_true_eq, decide_eq_false_iff_not] at hb) <;> (try (exfalso; omega)))))
        all_goals (first | (exfalso; omega) | skip)
        refine awp_loop' (fun n => cvD l gs i j n (f0 + ((sortZ g.ss).take n).count x.ix)) (fun n => n ≤ g.ss.length) (fun n => g.ss.length - n) 0 (Nat.zero_le _) (by
          show Le _ _ (cvD l gs i j 0 (f0 + ((sortZ g.ss).take 0).count x.ix))
          rw [List.take_zero, List.count_nil, Nat.add_zero]
          unfold cvD
          (refine Le.mk [] [] q_5ec36 q_871b6 q_bbfed q_509a2)) fun n hn => ?_
        rcases Nat.lt_or_ge n g.ss.length with hlt3 | hge3
        · obtain ⟨z, hz⟩ : ∃ z, (sortZ g.ss)[n]? = some z := ⟨_, List.getElem?_eq_getElem (by omega)⟩
          have hzO : (nums .i64 (sortZ g.ss))[n]? = some [.v (.int .i64 z)] := by unfold nums; rw [List.getElem?_map, hz]; rfl
          have hwn : IntKind.i64.wrap ((n : Int) + 1) = ((n + 1 : Nat) : Int) := nat_incI n (by omega)
          have hzm2 := hzm z (List.mem_of_getElem? hz)
          have hcnt : ((sortZ g.ss).take (n + 1)).count x.ix = ((sortZ g.ss).take n).count x.ix + (if z = x.ix then 1 else 0) := by
            rw [List.take_add_one, hz, List.count_append]
            congr 1
            show List.count x.ix [z] = _
            by_cases h : z = x.ix
            · rw [if_pos h, h]; simp
            · rw [if_neg h]; exact List.count_eq_zero.2 fun hm => h (List.mem_singleton.1 hm).symm
          have hzd : (sortZ g.ss).getD n 0 = z := by rw [List.getD_eq_getElem?_getD, hz]; rfl
          have hcb : ((sortZ g.ss).take n).count x.ix ≤ 1000 := by
            have e1 := List.count_le_length (l := (sortZ g.ss).take n) (a := x.ix)
            rw [List.length_take] at e1
            omega
          show awp _ _ _ _ _ (cvD l gs i j n (f0 + ((sortZ g.ss).take n).count x.ix))
          by_cases hzx : z = x.ix
          · rw [if_pos hzx] at hcnt
            rw [hzx] at hzm2
            obtain ⟨k1, k2⟩ := hsgx hzm2
            have cC := contains_m x.c (chC g.c).1 (chC g.c).2 hxc (chC_in (hsc g hgm)).1 (slope_in (hsc g hgm) hxc k2)
            have hnx : ((sortZ g.ss).take (n + 1)).count x.ix = ((sortZ g.ss).take n).count x.ix + 1 := hcnt
            generalize ((sortZ g.ss).take n).count x.ix = cn0 at *
            have hfin : IntKind.i64.wrap (((f0 + cn0 : Nat) : Int) + 1) = ((f0 + (cn0 + 1) : Nat) : Int) := by rw [IntKind.wrap_i64]; omega
            (repeat' (first | (refine is_load ?_; refine w_read rfl q_85eb5 (p_loadNp rfl (Nat.le_of_ble_eq_true rfl)) ?_) | refine r_95e112 ?_ | (refine is_f 16 ?_; refine r_e7cc0f (cC) ?_) | (refine r_48b933 (fun hb => ?_) (fun hb => ?_) <;> (try (exfalso; omega))) | (refine awp_cond rfl (fun hb => ?_) (fun hb => ?_) <;> (try simp only [Bool.not_eq_true', Bool.not_eq_false', decide_eq_true_eq, decide_eq_false_iff_not] at hb) <;> (try (exfalso; omega)))))
            all_goals (first | (exfalso; omega) | skip)
            refine ⟨n + 1, hlt3, ?_, by show g.ss.length - (n + 1) < g.ss.length - n; omega⟩
            show Le _ _ (cvD l gs i j (n + 1) (f0 + ((sortZ g.ss).take (n + 1)).count x.ix))
            rw [hcnt]
            unfold cvD
            (refine Le.mk [] [] q_5ec36 q_871b6 q_bbfed q_509a2)
          · rw [if_neg hzx, Nat.add_zero] at hcnt
            (repeat' (first | (refine is_load ?_; refine w_read rfl q_85eb5 (p_loadNp rfl (Nat.le_of_ble_eq_true rfl)) ?_) | refine r_95e112 ?_ | (refine r_48b933 (fun hb => ?_) (fun hb => ?_) <;> (try (exfalso; omega))) | (refine awp_cond rfl (fun hb => ?_) (fun hb => ?_) <;> (try simp only [Bool.not_eq_true', Bool.not_eq_false', decide_eq_true_eq, decide_eq_false_iff_not] at hb) <;> (try (exfalso; omega)))))
            all_goals (first | (exfalso; omega) | skip)
            refine ⟨n + 1, hlt3, ?_, by show g.ss.length - (n + 1) < g.ss.length - n; omega⟩
            show Le _ _ (cvD l gs i j (n + 1) (f0 + ((sortZ g.ss).take (n + 1)).count x.ix))
            rw [hcnt]
            unfold cvD
            (refine Le.mk [] [] q_5ec36 q_871b6 q_bbfed q_509a2)
        · have hne : n = g.ss.length := by omega
          subst hne
          have htk : (sortZ g.ss).take g.ss.length = sortZ g.ss := by rw [← hzl, List.take_length]
          show awp _ _ _ _ _ (cvD l gs i j g.ss.length (f0 + ((sortZ g.ss).take g.ss.length).count x.ix))
          rw [htk, ← hf1]
          (repeat' (first | (refine is_load ?_; refine w_read rfl q_85eb5 (p_loadNp rfl (Nat.le_of_ble_eq_true rfl)) ?_) | refine r_95e112 ?_ | (refine r_48b933 (fun hb => ?_) (fun hb => ?_) <;> (try (exfalso; omega))) | (refine awp_cond rfl (fun hb => ?_) (fun hb => ?_) <;> (try simp only [Bool.not_eq_true', Bool.not_eq_false', decide_eq_true_eq, decide_eq_false_iff_not] at hb) <;> (try (exfalso; omega)))))
          all_goals (first | (exfalso; omega) | exact ⟨j + 1, hlt2, by (refine Le.mk [] [] q_5ec36 q_871b6 q_bbfed q_509a2), by show gs.length - (j + 1) < gs.length - j; omega⟩)
      · have hje : j = gs.length := by omega
        subst hje
        show awp _ _ _ _ _ (cvC l gs i x.ix gs.length)
        unfold cvC
        rw [hc1]
        (repeat' (first | refine r_95e112 ?_ | (refine r_48b933 (fun hb => ?_) (fun hb => ?_) <;> (try (exfalso; omega))) | (refine awp_cond rfl (fun hb => ?_) (fun hb => ?_) <;> (try simp only [Bool.not_eq_true', Bool.not_eq_false', decide_eq_true_eq, decide_eq_false_iff_not] at hb) <;> (try (exfalso; omega)))))
        all_goals (first | (exfalso; omega) | exact ⟨i + 1, hlt, by (refine Le.mk [] [] q_5ec36 q_871b6 q_bbfed q_509a2), by show l.length - (i + 1) < l.length - i; omega⟩)
    · (repeat' (first | (first | refine awp_halt 23 ?_ | refine awp_haltR 23 ?_) | refine r_2ec44d ?_ | refine r_d3423f ?_ | (refine r_48b933 (fun hb => ?_) (fun hb => ?_) <;> (try (exfalso; omega))) | (refine awp_cond rfl (fun hb => ?_) (fun hb => ?_) <;> (try simp only [Bool.not_eq_true', Bool.not_eq_false', decide_eq_true_eq, decide_eq_false_iff_not] at hb) <;> (try (exfalso; omega)))))
      all_goals (first | (exfalso; omega) | skip)
      refine halt ?_
      refine awp_nilow 12 42 24 rfl rfl ?_
      have h00 : ([] : List (List RV)) = pcs (l.drop l.length).reverse := by rw [List.drop_length]; rfl
      have hwl : IntKind.i64.wrap (((pcs l).length : Int) - 1) = (l.length : Int) - 1 := by rw [hpl, IntKind.wrap_i64]; omega
      (repeat' (first | refine r_95e112 ?_ | (refine r_48b933 (fun hb => ?_) (fun hb => ?_) <;> (try (exfalso; omega))) | (refine awp_cond rfl (fun hb => ?_) (fun hb => ?_) <;> (try simp only [Bool.not_eq_true', Bool.not_eq_false', decide_eq_true_eq, decide_eq_false_iff_not] at hb) <;> (try (exfalso; omega)))))
      all_goals (first | (exfalso; omega) | skip)
      refine awp_loop' (cvE l gs) (fun m => m ≤ l.length) (fun m => m) l.length (Nat.le_refl _) (by
        show Le _ _ (cvE l gs l.length)
        unfold cvE
        rw [← h00]
        (refine Le.mk [(0,0)] [] q_5ec36 q_871b6 q_bbfed q_509a2)) fun m hm => ?_
      rcases m with _ | m
      · show awp _ _ _ _ _ (cvE l gs 0)
        unfold cvE
        rw [List.drop_zero]
        (repeat' (first | (first | refine awp_halt 27 ?_ | refine awp_haltR 27 ?_) | refine r_2ec44d ?_ | refine r_d3423f ?_ | (refine r_48b933 (fun hb => ?_) (fun hb => ?_) <;> (try (exfalso; omega))) | (refine awp_cond rfl (fun hb => ?_) (fun hb => ?_) <;> (try simp only [Bool.not_eq_true', Bool.not_eq_false', decide_eq_true_eq, decide_eq_false_iff_not] at hb) <;> (try (exfalso; omega)))))
        all_goals (first | (exfalso; omega) | skip)
        refine halt ?_
        refine awp_le (T := ⟨[(3, .r (.sl 24 (pcs l))), (4, .r (.sl 12 (grOs gs))), (5, .r (.v (.int .i64 0))), (6, .r (.v (.int .i64 (l.length : Int)))), (12, .r (.sl 24 (pcs l.reverse)))], [], 0⟩) (by (refine Le.mk [] [0] q_5ec36 q_871b6 q_bbfed q_509a2)) ?_
        (repeat' (first | (first | refine awp_halt 28 ?_ | refine awp_haltR 28 ?_) | refine r_2ec44d ?_ | refine r_d3423f ?_ | (refine is_f 15 ?_; refine r_e7cc0f (cK) ?_) | (refine r_48b933 (fun hb => ?_) (fun hb => ?_) <;> (try (exfalso; omega))) | (refine awp_cond rfl (fun hb => ?_) (fun hb => ?_) <;> (try simp only [Bool.not_eq_true', Bool.not_eq_false', decide_eq_true_eq, decide_eq_false_iff_not] at hb) <;> (try (exfalso; omega)))))
        refine halt ?_
        refine awp_le (T := ⟨[(3, .r (.sl 24 (pcs l))), (4, .r (.sl 12 (grOs gs))), (5, .r (.v (.int .i64 0))), (6, .r (.v (.int .i64 (l.length : Int)))), (14, .r (.sl 12 (grOs gs))), (15, .r (.v (.int .i64 0)))], [], 0⟩) (by (refine Le.mk [] [0] q_5ec36 q_871b6 q_bbfed q_509a2)) ?_
        have cN := known21_m
        (repeat' (first | refine r_95e112 ?_ | (refine is_f 13 ?_; refine r_e7cc0f (cN) ?_) | (refine is_f 17 ?_; refine r_e7cc0f (cM) ?_) | (refine r_48b933 (fun hb => ?_) (fun hb => ?_) <;> (try (exfalso; omega))) | (refine awp_cond rfl (fun hb => ?_) (fun hb => ?_) <;> (try simp only [Bool.not_eq_true', Bool.not_eq_false', decide_eq_true_eq, decide_eq_false_iff_not] at hb) <;> (try (exfalso; omega)))))
        all_goals (first | (exfalso; omega) | exact ret1 [] (.bool rfl) rfl rfl rfl)
      · obtain ⟨x, hx⟩ : ∃ x, l[m]? = some x := ⟨_, List.getElem?_eq_getElem (by omega)⟩
        have hxO := pcs_get hx
        have hdr : pcs (l.drop m).reverse = pcs (l.drop (m + 1)).reverse ++ [(pcVs x).map RV.v] := by
          rw [pcs_snoc]
          congr 1
          have hlm : m < l.length := by omega
          rw [List.drop_eq_getElem_cons hlm, List.reverse_cons]
          rw [List.getElem?_eq_getElem hlm] at hx
          injection hx with hx
          rw [hx]
        have hdl : (pcs (l.drop (m + 1)).reverse).length ≤ 13 := by rw [pcs_len, List.length_reverse, List.length_drop]; omega
        have hw1 : IntKind.i64.wrap ((m : Int) - 1) = (m : Int) - 1 := by rw [IntKind.wrap_i64]; omega
        show awp _ _ _ _ _ (cvE l gs (m + 1))
        unfold cvE
        rw [show ((m + 1 : Nat) : Int) - 1 = (m : Int) by omega]
        generalize (l.drop (m + 1)).reverse = pp at hdr hdl ⊢
        (repeat' (first | refine r_95e112 ?_ | (refine r_48b933 (fun hb => ?_) (fun hb => ?_) <;> (try (exfalso; omega))) | (refine awp_cond rfl (fun hb => ?_) (fun hb => ?_) <;> (try simp only [Bool.not_eq_true', Bool.not_eq_false', decide_eq_true_eq, decide_eq_false_iff_not] at hb) <;> (try (exfalso; omega)))))
        all_goals (first | (exfalso; omega) | skip)
        refine ⟨m, by omega, ?_, by show m < m + 1; omega⟩
        show Le _ _ (cvE l gs m)
        unfold cvE
        rw [hdr]
        refine Le.mk [(0, 2)] [] rfl (by (repeat' (first | exact le_nil | refine le_na ?_ | refine le_r ?_ rfl rfl | refine le_int ?_ (by omega) rfl | refine le_ow ?_ rfl rfl | refine le_pt ?_ rfl rfl | refine le_fz ?_ rfl q_bf1c9 rfl rfl | refine le_sv ?_ rfl rfl | refine le_ol ?_ rfl rfl | refine le_ag ?_ ?_ rfl | refine le_cl ?_ ?_ rfl | refine cfl_pt ?_ rfl | refine cfl_r ?_ rfl | refine cfl_rp ?_ rfl | exact CfL.nil))) ?_ (fun g h => nomatch h)
        exact ⟨⟨_, rfl, .row _ _ _⟩, trivial⟩
end Go.Proofs.YtibedaeefnjjlaaGreat
