/- Texts of the second layer in one: Ls1. -/
import Derived.Test.YtibedaeefnjjlaaGreatG40
/- The walk of GroupingLeast. Conditions: a list of at most 2^47 numbers. --ext8 -/
namespace Go.Proofs.YtibedaeefnjjlaaGreat
open Go.RowKit Go.Ab Go.Wd
set_option maxRecDepth 100000
set_option linter.unusedVariables false
set_option linter.unusedSimpArgs false

/-- The groups of a key among the first ones. -/
def gct (gs : List Gr) (k : Int) (i : Nat) : Nat := ((gs.take i).filter fun g => decide (g.ky = k)).length
theorem gct_step {gs : List Gr} {i : Nat} {g : Gr} (k : Int) (h : gs[i]? = some g) : gct gs k (i + 1) = gct gs k i + (if g.ky = k then 1 else 0) := by
  unfold gct
  rw [List.take_add_one, h, List.filter_append, List.length_append]
  congr 1
  show (List.filter _ [g]).length = _
  by_cases hk : g.ky = k
  · rw [if_pos hk]; simp [hk]
  · rw [if_neg hk]; simp [hk]
theorem gct_le (gs : List Gr) (k : Int) (i : Nat) : gct gs k i ≤ gs.length := by
  unfold gct
  exact Nat.le_trans (List.length_filter_le _ _) (by rw [List.length_take]; omega)
def lsA (l : List Pc) (gs : List Gr) (k : Nat) : St := ⟨[(3, .r (.sl 24 (pcs l))), (4, .r (.sl 12 (grOs gs))), (5, .r (.v (.int .i64 0))), (6, .r (.v (.int .i64 (k : Int))))], [], 0⟩
def lsB (l : List Pc) (gs : List Gr) (k i : Nat) : St := ⟨[(3, .r (.sl 24 (pcs l))), (4, .r (.sl 12 (grOs gs))), (5, .r (.v (.int .i64 0))), (6, .r (.v (.int .i64 (k : Int)))), (7, .r (.v (.int .i64 (gct gs (k : Int) i : Int)))), (8, .r (.v (.int .i64 0))), (9, .r (.v (.bool false))), (10, .r (.v (.int .i64 (i : Int))))], [], 0⟩
def lsC (l : List Pc) (gs : List Gr) (k c : Nat) (x : Nat × Bool × Int × Int) : St := ⟨[(3, .r (.sl 24 (pcs l))), (4, .r (.sl 12 (grOs gs))), (5, .r (.v (.int .i64 0))), (6, .r (.v (.int .i64 (k : Int)))), (7, .r (.v (.int .i64 (c : Int)))), (8, .r (.v (.int .i64 (x.1 : Int)))), (9, .r (.v (.bool x.2.1))), (11, .pt 0 0)], [(0, some (.var 38 (vsA (rtVs x.2.2.1 x.2.2.2))))], 1⟩
def lsD (l : List Pc) (gs : List Gr) (k c j : Nat) (p q : Int) (x : Nat × Bool × Int) : St := ⟨[(3, .r (.sl 24 (pcs l))), (4, .r (.sl 12 (grOs gs))), (5, .r (.v (.int .i64 0))), (6, .r (.v (.int .i64 (k : Int)))), (7, .r (.v (.int .i64 (c : Int)))), (8, .r (.v (.int .i64 (j : Int)))), (9, .r (.v (.bool x.2.1))), (11, .pt 0 0), (12, .r (.v (.int .i64 x.2.2))), (13, .r (.v (.int .i64 (x.1 : Int))))], [(0, some (.var 38 (vsA (rtVs p q))))], 1⟩
/-- The best piece so far. -/
def BestI (l : List Pc) (k : Int) (j : Nat) (la : Int × Int) (i : Nat) (b : Int) : Prop :=
  (b = -1 ∧ ∀ m x, m < i → l[m]? = some x → ¬ cand k j la x) ∨ ∃ n x, n < i ∧ b = (n : Int) ∧ l[n]? = some x ∧ cand k j la x ∧ ∀ m y, m < i → l[m]? = some y → cand k j la y → fle x.c.hi y.c.hi
theorem best_skip {l : List Pc} {k : Int} {j : Nat} {la : Int × Int} {i : Nat} {b : Int} {x : Pc} (h : BestI l k j la i b) (hx : l[i]? = some x) (hn : ¬ cand k j la x) : BestI l k j la (i + 1) b := by
  have key : ∀ (m : Nat) (y : Pc), m < i + 1 → l[m]? = some y → (m < i) ∨ y = x := fun m y hm hy => by
    rcases Nat.lt_or_ge m i with h1 | h1
    · exact .inl h1
    · have : m = i := by omega
      subst this
      rw [hx] at hy
      injection hy with hy
      exact .inr hy.symm
  rcases h with ⟨rfl, h⟩ | ⟨n, z, h1, h2, h3, h4, h5⟩
  · refine .inl ⟨rfl, fun m y hm hy => ?_⟩
    rcases key m y hm hy with h6 | rfl
    · exact h m y h6 hy
    · exact hn
  · refine .inr ⟨n, z, by omega, h2, h3, h4, fun m y hm hy hc => ?_⟩
    rcases key m y hm hy with h6 | rfl
    · exact h5 m y h6 hy hc
    · exact absurd hc hn
theorem best_keep {l : List Pc} {k : Int} {j : Nat} {la : Int × Int} {i : Nat} {n : Nat} {x z : Pc} (h : BestI l k j la i (n : Int)) (hx : l[i]? = some x) (hz : l[n]? = some z) (hle : fle z.c.hi x.c.hi) : BestI l k j la (i + 1) (n : Int) := by
  rcases h with ⟨h, _⟩ | ⟨n', z', h1, h2, h3, h4, h5⟩
  · omega
  · have : n' = n := by omega
    subst this
    rw [hz] at h3
    injection h3 with h3
    subst h3
    refine .inr ⟨n', z, by omega, rfl, hz, h4, fun m y hm hy hc => ?_⟩
    rcases Nat.lt_or_ge m i with h6 | h6
    · exact h5 m y h6 hy hc
    · have : m = i := by omega
      subst this
      rw [hx] at hy
      injection hy with hy
      subst hy
      exact hle
theorem best_first {l : List Pc} {k : Int} {j : Nat} {la : Int × Int} {i : Nat} {x : Pc} (h : BestI l k j la i (-1)) (hx : l[i]? = some x) (hc : cand k j la x) : BestI l k j la (i + 1) (i : Int) := by
  rcases h with ⟨_, h⟩ | ⟨n, z, h1, h2, h3, h4, h5⟩
  · refine .inr ⟨i, x, by omega, rfl, hx, hc, fun m y hm hy hcy => ?_⟩
    rcases Nat.lt_or_ge m i with h6 | h6
    · exact absurd hcy (h m y h6 hy)
    · have : m = i := by omega
      subst this
      rw [hx] at hy
      injection hy with hy
      subst hy
      exact fle_refl _
  · omega
theorem best_new {l : List Pc} {k : Int} {j : Nat} {la : Int × Int} {i n : Nat} {x z : Pc} (hs : ∀ y ∈ l, SCn y.c) (h : BestI l k j la i (n : Int)) (hx : l[i]? = some x) (hc : cand k j la x) (hz : l[n]? = some z) (hlt : flt x.c.hi z.c.hi) : BestI l k j la (i + 1) (i : Int) := by
  rcases h with ⟨h, _⟩ | ⟨n', z', h1, h2, h3, h4, h5⟩
  · omega
  · have : n' = n := by omega
    subst this
    rw [hz] at h3
    injection h3 with h3
    subst h3
    refine .inr ⟨i, x, by omega, rfl, hx, hc, fun m y hm hy hcy => ?_⟩
    rcases Nat.lt_or_ge m i with h6 | h6
    · have e1 := (hs x (List.mem_of_getElem? hx)).pos hc.2.1
      have e2 := (hs z (List.mem_of_getElem? hz)).pos h4.2.1
      have e3 := (hs y (List.mem_of_getElem? hy)).pos hcy.2.1
      exact fle_trans e1.2.1 e2.2.1 e3.2.1 hlt.le (h5 m y h6 hy hcy)
    · have : m = i := by omega
      subst this
      rw [hx] at hy
      injection hy with hy
      subst hy
      exact fle_refl _
theorem best_cases {l : List Pc} {k : Int} {j : Nat} {la : Int × Int} {i : Nat} {b : Int} (h : BestI l k j la i b) : b = -1 ∨ ∃ (n : Nat) (z : Pc), b = (n : Int) ∧ n < i ∧ l[n]? = some z ∧ z.c.o = false := by
  rcases h with ⟨rfl, _⟩ | ⟨n, z, h1, h2, h3, h4, _⟩
  · exact .inl rfl
  · exact .inr ⟨n, z, h2, h1, h3, h4.2.1⟩
theorem SCn.vs {c : Cn} (h : SCn c) (ho : c.o = false) : VS c.p c.q ∧ VS c.r c.s := by
  rcases h with rfl | ⟨_, h1, h2, _⟩
  · cases ho
  · exact ⟨h1, h2⟩
set_option maxHeartbeats 8000000 in
theorem groupingLeast_m (t : List Int) (ht : Ints t) (htn : t.length ≤ 140737488351232) : Meets Tryz.prog 6 [.r (.sl 1 (nums .i64 t))] [] (.r (.v (.bool true))) [] := by
  refine fn_of Tryz.func6 rfl (Nat.le_of_ble_eq_true rfl) rfl rfl ?_
  have hok := smL_ok t 0
  have cS := some_m t 0 ht htn
  generalize (smL t 0).2 = k1 at *
  generalize (smL t 0).1 = l at *
  have hll := hok.len
  have cJ : Meets Tryz.prog 15 [.r (.sl 24 (pcs l))] [] (.tu [.fr 51 12 (grOs (grs l)), .r (.v (.int .i64 0))]) [] := join_m l (by omega) hok.pc
  have hgl := grs_len (l := l)
  obtain ⟨gs, hgs⟩ : ∃ gs, gs = grs l := ⟨_, rfl⟩
  have hgk : ∀ k : Int, (gk l k).length = gct gs k gs.length := fun k => by unfold gk gct; rw [List.take_length, hgs]
  rw [← hgs] at cJ hgl
  have hgO : (grOs gs).length = gs.length := by simp [grOs]
  have hpl : (pcs l).length = l.length := pcs_len l
  (repeat' (first | (first | refine awp_halt 2 ?_ | refine awp_haltR 2 ?_) | refine r_2ec44d ?_ | refine r_d3423f ?_ | (refine is_f 7 ?_; refine r_bb3077 (new_m t) ?_) | (refine is_f 8 ?_; refine r_92fba5 (cS) ?_) | (refine r_48b933 (fun hb => ?_) (fun hb => ?_) <;> (try (exfalso; omega))) | (refine awp_cond rfl (fun hb => ?_) (fun hb => ?_) <;> (try simp only [Bool.not_eq_true', Bool.not_eq_false', decide_eq_true_eq, decide_eq_false_iff_not] at hb) <;> (try (exfalso; omega)))))
  refine halt ?_
  refine awp_le (T := ⟨[(3, .r (.sl 24 (pcs l)))], [], 0⟩) (by (refine Le.mk [] [1] q_5ec36 q_871b6 q_bbfed q_509a2)) ?_
  (repeat' (first | (first | refine awp_halt 3 ?_ | refine awp_haltR 3 ?_) | refine r_2ec44d ?_ | refine r_d3423f ?_ | (refine is_f 15 ?_; refine r_e7cc0f (cJ) ?_) | (refine r_48b933 (fun hb => ?_) (fun hb => ?_) <;> (try (exfalso; omega))) | (refine awp_cond rfl (fun hb => ?_) (fun hb => ?_) <;> (try simp only [Bool.not_eq_true', Bool.not_eq_false', decide_eq_true_eq, decide_eq_false_iff_not] at hb) <;> (try (exfalso; omega)))))
  refine halt ?_
  refine awp_le (T := ⟨[(3, .r (.sl 24 (pcs l))), (4, .r (.sl 12 (grOs gs))), (5, .r (.v (.int .i64 0)))], [], 0⟩) (by (refine Le.mk [] [0] q_5ec36 q_871b6 q_bbfed q_509a2)) ?_
  clear cS cJ hgs
  (repeat' (first | refine r_95e112 ?_ | (refine r_48b933 (fun hb => ?_) (fun hb => ?_) <;> (try (exfalso; omega))) | (refine awp_cond rfl (fun hb => ?_) (fun hb => ?_) <;> (try simp only [Bool.not_eq_true', Bool.not_eq_false', decide_eq_true_eq, decide_eq_false_iff_not] at hb) <;> (try (exfalso; omega)))))
  refine awp_loop' (lsA l gs) (fun k => k ≤ 3) (fun k => 3 - k) 0 (Nat.zero_le _) (by (refine Le.mk [] [] q_5ec36 q_871b6 q_bbfed q_509a2)) fun k hk => ?_
  rcases Nat.lt_or_ge k 3 with hk3 | hk3
  · have hwk : IntKind.i64.wrap ((k : Int) + 1) = ((k + 1 : Nat) : Int) := nat_incI k (by omega)
    have hg0 : (0 : Int) = ((gct gs (k : Int) 0 : Nat) : Int) := rfl
    (repeat' (first | refine r_95e112 ?_ | (refine r_48b933 (fun hb => ?_) (fun hb => ?_) <;> (try (exfalso; omega))) | (refine awp_cond rfl (fun hb => ?_) (fun hb => ?_) <;> (try simp only [Bool.not_eq_true', Bool.not_eq_false', decide_eq_true_eq, decide_eq_false_iff_not] at hb) <;> (try (exfalso; omega)))))
    all_goals (first | (exfalso; omega) | skip)
    refine awp_loop' (lsB l gs k) (fun i => i ≤ gs.length) (fun i => gs.length - i) 0 (Nat.zero_le _) (by (refine Le.mk [] [] q_5ec36 q_871b6 q_bbfed q_509a2)) fun i hi => ?_
    rcases Nat.lt_or_ge i gs.length with hlt | hge
    · obtain ⟨g, hg⟩ : ∃ g, gs[i]? = some g := ⟨_, List.getElem?_eq_getElem hlt⟩
      have hgO2 : (grOs gs)[i]? = some (grO g) := by unfold grOs; rw [List.getElem?_map, hg]; rfl
      have hwi : IntKind.i64.wrap ((i : Int) + 1) = ((i + 1 : Nat) : Int) := nat_incI i (by omega)
      have hst := gct_step (k : Int) hg
      have hgb := gct_le gs (k : Int) i
      by_cases hgk2 : g.ky = (k : Int)
      · rw [if_pos hgk2] at hst
        have hwc : IntKind.i64.wrap ((gct gs (k : Int) i : Int) + 1) = ((gct gs (k : Int) (i + 1) : Nat) : Int) := by rw [hst]; exact nat_incI _ (by omega)
        (repeat' (first | (refine is_load ?_; refine w_read rfl q_85eb5 (p_loadNp rfl (Nat.le_of_ble_eq_true rfl)) ?_) | refine r_95e112 ?_ | (refine r_48b933 (fun hb => ?_) (fun hb => ?_) <;> (try (exfalso; omega))) | (refine awp_cond rfl (fun hb => ?_) (fun hb => ?_) <;> (try simp only [Bool.not_eq_true', Bool.not_eq_false', decide_eq_true_eq, decide_eq_false_iff_not] at hb) <;> (try (exfalso; omega)))))
        all_goals (first | (exfalso; omega) | exact ⟨i + 1, hlt, by (refine Le.mk [] [] q_5ec36 q_871b6 q_bbfed q_509a2), by show gs.length - (i + 1) < gs.length - i; omega⟩)
      · rw [if_neg hgk2, Nat.add_zero] at hst
        (repeat' (first | (refine is_load ?_; refine w_read rfl q_85eb5 (p_loadNp rfl (Nat.le_of_ble_eq_true rfl)) ?_) | refine r_95e112 ?_ | (refine r_48b933 (fun hb => ?_) (fun hb => ?_) <;> (try (exfalso; omega))) | (refine awp_cond rfl (fun hb => ?_) (fun hb => ?_) <;> (try simp only [Bool.not_eq_true', Bool.not_eq_false', decide_eq_true_eq, decide_eq_false_iff_not] at hb) <;> (try (exfalso; omega)))))
        all_goals (first | (exfalso; omega) | skip)
        refine ⟨i + 1, hlt, ?_, by show gs.length - (i + 1) < gs.length - i; omega⟩
        show Le _ _ (lsB l gs k (i + 1))
        unfold lsB
        rw [hst]
        (refine Le.mk [] [] q_5ec36 q_871b6 q_bbfed q_509a2)
    · have hie : i = gs.length := by omega
      subst hie
      show awp _ _ _ _ _ (lsB l gs k gs.length)
      unfold lsB
      have hct := hgk (k : Int)
      have hcb := gct_le gs (k : Int) gs.length
      generalize gct gs (k : Int) gs.length = c at *
      (repeat' (first | (first | refine awp_halt 13 ?_ | refine awp_haltR 13 ?_) | refine r_2ec44d ?_ | refine r_d3423f ?_ | (refine r_48b933 (fun hb => ?_) (fun hb => ?_) <;> (try (exfalso; omega))) | (refine awp_cond rfl (fun hb => ?_) (fun hb => ?_) <;> (try simp only [Bool.not_eq_true', Bool.not_eq_false', decide_eq_true_eq, decide_eq_false_iff_not] at hb) <;> (try (exfalso; omega)))))
      refine awp_loop' (lsC l gs k c) (fun x => LastOk l (k : Int) x.1 (x.2.2.1, x.2.2.2) ∧ x.2.1 = decide (0 < x.1) ∧ (0 < x.1 → VS x.2.2.1 x.2.2.2)) (fun x => c + 1 - x.1) (0, false, 0, 0) ⟨⟨Nat.zero_le _, fun h => absurd h (by omega)⟩, rfl, fun h => absurd h (by decide)⟩ (by
        show Le _ _ (lsC l gs k c (0, false, 0, 0))
        unfold lsC
        (refine Le.mk [(0,0)] [] q_5ec36 q_871b6 q_bbfed q_509a2)) fun x hx => ?_
      obtain ⟨j, f, p, q⟩ := x
      obtain ⟨hLa, hfd, hvs⟩ := hx
      dsimp only at hLa hfd hvs
      have hjc : j ≤ c := by rw [← hct]; exact hLa.1
      show awp _ _ _ _ _ (lsC l gs k c (j, f, p, q))
      unfold lsC
      dsimp only
      (repeat' (first | refine r_95e112 ?_ | (refine r_48b933 (fun hb => ?_) (fun hb => ?_) <;> (try (exfalso; omega))) | (refine awp_cond rfl (fun hb => ?_) (fun hb => ?_) <;> (try simp only [Bool.not_eq_true', Bool.not_eq_false', decide_eq_true_eq, decide_eq_false_iff_not] at hb) <;> (try (exfalso; omega)))))
      refine awp_loop' (lsD l gs k c j p q) (fun x => x.1 ≤ l.length ∧ x.2.1 = (f || (l.take x.1).any fun x => decide (x.ky = (k : Int))) ∧ BestI l (k : Int) j (p, q) x.1 x.2.2) (fun x => l.length - x.1) (0, f, -1) ⟨Nat.zero_le _, by simp, .inl ⟨rfl, fun m x hm => absurd hm (by omega)⟩⟩ (by
        show Le _ _ (lsD l gs k c j p q (0, f, -1))
        unfold lsD
        (refine Le.mk [(0,0)] [] q_5ec36 q_871b6 q_bbfed q_509a2)) fun x hx => ?_
      obtain ⟨i, f2, b⟩ := x
      obtain ⟨hi2, hf2, hB⟩ := hx
      dsimp only at hi2 hf2 hB
      show awp _ _ _ _ _ (lsD l gs k c j p q (i, f2, b))
      unfold lsD
      dsimp only
      rcases Nat.lt_or_ge i l.length with hlt | hge2
      · obtain ⟨x, hx⟩ : ∃ x, l[i]? = some x := ⟨_, List.getElem?_eq_getElem hlt⟩
        have hxO := pcs_get hx
        have hxs := hok.c x (List.mem_of_getElem? hx)
        have hwi : IntKind.i64.wrap ((i : Int) + 1) = ((i + 1 : Nat) : Int) := nat_incI i (by omega)
        have hany : (f || (l.take (i + 1)).any fun x => decide (x.ky = (k : Int))) = (f2 || decide (x.ky = (k : Int))) := by
          rw [List.take_add_one, hx, List.any_append, hf2, Bool.or_assoc]
          congr 2
          simp
        by_cases hky : x.ky = (k : Int)
        · obtain ⟨xi, xc, xk, ⟨xo, xp, xq, xr, xs⟩⟩ := x
          dsimp only at hky hany
          subst hky
          cases xo with
          | true =>
            have hB2 := best_skip hB hx (fun h => by cases h.2.1)
            replace hxO : (pcs l)[i]? = some ((Value.int .i64 xi :: Value.int .i64 xc :: Value.int .i64 (k : Int) :: cnVs true xp xq xr xs).map RV.v) := hxO
            (repeat' (first | (refine is_load ?_; refine w_read rfl q_85eb5 (p_loadNp rfl (Nat.le_of_ble_eq_true rfl)) ?_) | refine r_95e112 ?_ | (refine r_48b933 (fun hb => ?_) (fun hb => ?_) <;> (try (exfalso; omega))) | (refine awp_cond rfl (fun hb => ?_) (fun hb => ?_) <;> (try simp only [Bool.not_eq_true', Bool.not_eq_false', decide_eq_true_eq, decide_eq_false_iff_not] at hb) <;> (try (exfalso; omega)))))
            all_goals (first | (exfalso; omega) | skip)
            refine ⟨(i + 1, true, b), ⟨hlt, by rw [hany]; simp [hfd, *], hB2⟩, ?_, by show l.length - (i + 1) < l.length - i; omega⟩
            show Le _ _ (lsD l gs k c j p q (i + 1, true, b))
            unfold lsD
            (refine Le.mk [(0,0)] [] q_5ec36 q_871b6 q_bbfed q_509a2)
          | false =>
            have hxv := hxs.vs rfl
            dsimp only at hxv
            replace hxO : (pcs l)[i]? = some ((Value.int .i64 xi :: Value.int .i64 xc :: Value.int .i64 (k : Int) :: cnVs false xp xq xr xs).map RV.v) := hxO
            rcases Nat.eq_zero_or_pos j with hj0 | hj0
            · have hcd : cand (k : Int) j (p, q) ⟨xi, xc, k, ⟨false, xp, xq, xr, xs⟩⟩ := ⟨rfl, rfl, .inl hj0⟩
              rcases best_cases hB with rfl | ⟨n, z, rfl, hni, hz, hzo⟩
              · have hB2 := best_first hB hx hcd
                (repeat' (first | (refine is_load ?_; refine w_read rfl q_85eb5 (p_loadNp rfl (Nat.le_of_ble_eq_true rfl)) ?_) | refine r_95e112 ?_ | (refine r_48b933 (fun hb => ?_) (fun hb => ?_) <;> (try (exfalso; omega))) | (refine awp_cond rfl (fun hb => ?_) (fun hb => ?_) <;> (try simp only [Bool.not_eq_true', Bool.not_eq_false', decide_eq_true_eq, decide_eq_false_iff_not] at hb) <;> (try (exfalso; omega)))))
                all_goals (first | (exfalso; omega) | skip)
                refine ⟨(i + 1, true, (i : Int)), ⟨hlt, by rw [hany]; simp [hfd, *], hB2⟩, ?_, by show l.length - (i + 1) < l.length - i; omega⟩
                show Le _ _ (lsD l gs k c j p q (i + 1, true, (i : Int)))
                unfold lsD
                (refine Le.mk [(0,0)] [] q_5ec36 q_871b6 q_bbfed q_509a2)
              · have hzO := pcs_get hz
                have hzv := ((hok.c z (List.mem_of_getElem? hz)).vs hzo).2
                have cB := rCmpS_m xr xs z.c.r z.c.s hxv.2 hzv
                have e1 := @cmpZ_lt (xr * z.c.s) (z.c.r * xs)
                generalize cmpZ (xr * z.c.s) (z.c.r * xs) = e9 at *
                by_cases hlt9 : xr * z.c.s < z.c.r * xs
                · have hB2 := best_new hok.c hB hx hcd hz hlt9
                  have e2 := e1.2 hlt9
                  clear e1
                  (repeat' (first | (refine is_load ?_; refine w_read rfl q_85eb5 (p_loadNp rfl (Nat.le_of_ble_eq_true rfl)) ?_) | refine r_95e112 ?_ | (refine is_f 18 ?_; refine r_e7cc0f (cB) ?_) | (refine r_48b933 (fun hb => ?_) (fun hb => ?_) <;> (try (exfalso; omega))) | (refine awp_cond rfl (fun hb => ?_) (fun hb => ?_) <;> (try simp only [Bool.not_eq_true', Bool.not_eq_false', decide_eq_true_eq, decide_eq_false_iff_not] at hb) <;> (try (exfalso; omega)))))
                  all_goals (first | (exfalso; omega) | skip)
                  refine ⟨(i + 1, true, (i : Int)), ⟨hlt, by rw [hany]; simp [hfd, *], hB2⟩, ?_, by show l.length - (i + 1) < l.length - i; omega⟩
                  show Le _ _ (lsD l gs k c j p q (i + 1, true, (i : Int)))
                  unfold lsD
                  (refine Le.mk [(0,0)] [] q_5ec36 q_871b6 q_bbfed q_509a2)
                · have hB2 := best_keep hB hx hz (not_flt.1 hlt9)
                  have e2 : ¬ e9 < 0 := fun h => hlt9 (e1.1 h)
                  clear e1
                  (repeat' (first | (refine is_load ?_; refine w_read rfl q_85eb5 (p_loadNp rfl (Nat.le_of_ble_eq_true rfl)) ?_) | refine r_95e112 ?_ | (refine is_f 18 ?_; refine r_e7cc0f (cB) ?_) | (refine r_48b933 (fun hb => ?_) (fun hb => ?_) <;> (try (exfalso; omega))) | (refine awp_cond rfl (fun hb => ?_) (fun hb => ?_) <;> (try simp only [Bool.not_eq_true', Bool.not_eq_false', decide_eq_true_eq, decide_eq_false_iff_not] at hb) <;> (try (exfalso; omega)))))
                  all_goals (first | (exfalso; omega) | skip)
                  refine ⟨(i + 1, true, (n : Int)), ⟨hlt, by rw [hany]; simp [hfd, *], hB2⟩, ?_, by show l.length - (i + 1) < l.length - i; omega⟩
                  show Le _ _ (lsD l gs k c j p q (i + 1, true, (n : Int)))
                  unfold lsD
                  (refine Le.mk [(0,0)] [] q_5ec36 q_871b6 q_bbfed q_509a2)
            · have cA := rCmpS_m xp xq p q hxv.1 (hvs hj0)
              have e3 := @cmpZ_gt (xp * q) (p * xq)
              generalize cmpZ (xp * q) (p * xq) = e8 at *
              by_cases hfl : p * xq < xp * q
              · have hcd : cand (k : Int) j (p, q) ⟨xi, xc, k, ⟨false, xp, xq, xr, xs⟩⟩ := ⟨rfl, rfl, .inr hfl⟩
                have e4 := e3.2 hfl
                clear e3
                rcases best_cases hB with rfl | ⟨n, z, rfl, hni, hz, hzo⟩
                · have hB2 := best_first hB hx hcd
                  (repeat' (first | (refine is_load ?_; refine w_read rfl q_85eb5 (p_loadNp rfl (Nat.le_of_ble_eq_true rfl)) ?_) | refine r_95e112 ?_ | (refine is_f 18 ?_; refine r_e7cc0f (cA) ?_) | (refine r_48b933 (fun hb => ?_) (fun hb => ?_) <;> (try (exfalso; omega))) | (refine awp_cond rfl (fun hb => ?_) (fun hb => ?_) <;> (try simp only [Bool.not_eq_true', Bool.not_eq_false', decide_eq_true_eq, decide_eq_false_iff_not] at hb) <;> (try (exfalso; omega)))))
                  all_goals (first | (exfalso; omega) | skip)
                  refine ⟨(i + 1, true, (i : Int)), ⟨hlt, by rw [hany]; simp [hfd, *], hB2⟩, ?_, by show l.length - (i + 1) < l.length - i; omega⟩
                  show Le _ _ (lsD l gs k c j p q (i + 1, true, (i : Int)))
                  unfold lsD
                  (refine Le.mk [(0,0)] [] q_5ec36 q_871b6 q_bbfed q_509a2)
                · have hzO := pcs_get hz
                  have hzv := ((hok.c z (List.mem_of_getElem? hz)).vs hzo).2
                  have cB := rCmpS_m xr xs z.c.r z.c.s hxv.2 hzv
                  have e1 := @cmpZ_lt (xr * z.c.s) (z.c.r * xs)
                  generalize cmpZ (xr * z.c.s) (z.c.r * xs) = e9 at *
                  by_cases hlt9 : xr * z.c.s < z.c.r * xs
                  · have hB2 := best_new hok.c hB hx hcd hz hlt9
                    have e2 := e1.2 hlt9
                    clear e1
                    (repeat' (first | (refine is_load ?_; refine w_read rfl q_85eb5 (p_loadNp rfl (Nat.le_of_ble_eq_true rfl)) ?_) | refine r_95e112 ?_ | (refine is_f 18 ?_; refine r_e7cc0f (cA) ?_) | (refine is_f 18 ?_; refine r_e7cc0f (cB) ?_) | (refine r_48b933 (fun hb => ?_) (fun hb => ?_) <;> (try (exfalso; omega))) | (refine awp_cond rfl (fun hb => ?_) (fun hb => ?_) <;> (try simp only [Bool.not_eq_true', Bool.not_eq_false', decide_eq_true_eq, decide_eq_false_iff_not] at hb) <;> (try (exfalso; omega)))))
                    all_goals (first | (exfalso; omega) | skip)
                    refine ⟨(i + 1, true, (i : Int)), ⟨hlt, by rw [hany]; simp [hfd, *], hB2⟩, ?_, by show l.length - (i + 1) < l.length - i; omega⟩
                    show Le _ _ (lsD l gs k c j p q (i + 1, true, (i : Int)))
                    unfold lsD
                    (refine Le.mk [(0,0)] [] q_5ec36 q_871b6 q_bbfed q_509a2)
                  · have hB2 := best_keep hB hx hz (not_flt.1 hlt9)
                    have e2 : ¬ e9 < 0 := fun h => hlt9 (e1.1 h)
                    clear e1
                    (repeat' (first | (refine is_load ?_; refine w_read rfl q_85eb5 (p_loadNp rfl (Nat.le_of_ble_eq_true rfl)) ?_) | refine r_95e112 ?_ | (refine is_f 18 ?_; refine r_e7cc0f (cA) ?_) | (refine is_f 18 ?_; refine r_e7cc0f (cB) ?_) | (refine r_48b933 (fun hb => ?_) (fun hb => ?_) <;> (try (exfalso; omega))) | (refine awp_cond rfl (fun hb => ?_) (fun hb => ?_) <;> (try simp only [Bool.not_eq_true', Bool.not_eq_false', decide_eq_true_eq, decide_eq_false_iff_not] at hb) <;> (try (exfalso; omega)))))
                    all_goals (first | (exfalso; omega) | skip)
                    refine ⟨(i + 1, true, (n : Int)), ⟨hlt, by rw [hany]; simp [hfd, *], hB2⟩, ?_, by show l.length - (i + 1) < l.length - i; omega⟩
                    show Le _ _ (lsD l gs k c j p q (i + 1, true, (n : Int)))
                    unfold lsD
                    (refine Le.mk [(0,0)] [] q_5ec36 q_871b6 q_bbfed q_509a2)
              · have hB2 := best_skip hB hx (fun h => h.2.2.elim (fun h => by omega) hfl)
                have e4 : ¬ 0 < e8 := fun h => hfl (e3.1 h)
                clear e3
                (repeat' (first | (refine is_load ?_; refine w_read rfl q_85eb5 (p_loadNp rfl (Nat.le_of_ble_eq_true rfl)) ?_) | refine r_95e112 ?_ | (refine is_f 18 ?_; refine r_e7cc0f (cA) ?_) | (refine r_48b933 (fun hb => ?_) (fun hb => ?_) <;> (try (exfalso; omega))) | (refine awp_cond rfl (fun hb => ?_) (fun hb => ?_) <;> (try simp only [Bool.not_eq_true', Bool.not_eq_false', decide_eq_true_eq, decide_eq_false_iff_not] at hb) <;> (try (exfalso; omega)))))
                all_goals (first | (exfalso; omega) | skip)
                refine ⟨(i + 1, true, b), ⟨hlt, by rw [hany]; simp [hfd, *], hB2⟩, ?_, by show l.length - (i + 1) < l.length - i; omega⟩
                show Le _ _ (lsD l gs k c j p q (i + 1, true, b))
                unfold lsD
                (refine Le.mk [(0,0)] [] q_5ec36 q_871b6 q_bbfed q_509a2)
        · have hB2 := best_skip hB hx (fun h => hky h.1)
          (repeat' (first | (refine is_load ?_; refine w_read rfl q_85eb5 (p_loadNp rfl (Nat.le_of_ble_eq_true rfl)) ?_) | refine r_95e112 ?_ | (refine r_48b933 (fun hb => ?_) (fun hb => ?_) <;> (try (exfalso; omega))) | (refine awp_cond rfl (fun hb => ?_) (fun hb => ?_) <;> (try simp only [Bool.not_eq_true', Bool.not_eq_false', decide_eq_true_eq, decide_eq_false_iff_not] at hb) <;> (try (exfalso; omega)))))
          all_goals (first | (exfalso; omega) | skip)
          refine ⟨(i + 1, f2, b), ⟨hlt, by rw [hany]; simp [hfd, *], hB2⟩, ?_, by show l.length - (i + 1) < l.length - i; omega⟩
          show Le _ _ (lsD l gs k c j p q (i + 1, f2, b))
          unfold lsD
          (refine Le.mk [(0,0)] [] q_5ec36 q_871b6 q_bbfed q_509a2)
      · have hie2 : i = l.length := by omega
        subst hie2
        rw [List.take_length] at hf2
        rcases hB with ⟨rfl, hno⟩ | ⟨n, z, h1, rfl, h3, h4, h5⟩
        · have hend := least_end hok hLa (fun x hx hc => by
            obtain ⟨m, hm⟩ := List.mem_iff_getElem?.1 hx
            exact hno m x (List.getElem?_eq_some_iff.1 hm).1 hm hc)
          rw [hct] at hend
          have hla2 := fun h => last_any hok hLa h
          have hfin : (f2 = true ∧ max j 1 = c) ∨ (f2 = false ∧ j = c) := by
            cases ha : l.any fun x => decide (x.ky = (k : Int)) with
            | true =>
              rw [ha] at hend hf2
              rw [if_pos rfl] at hend
              exact .inl ⟨by rw [hf2]; simp, hend⟩
            | false =>
              rw [ha] at hend hf2 hla2
              rw [if_neg (by simp)] at hend
              have hj0 : ¬ 0 < j := fun h => by cases hla2 h
              exact .inr ⟨by rw [hf2, hfd]; simp; omega, hend⟩
          clear hf2 hend hno hfd hla2
          rcases hfin with ⟨rfl, hmx⟩ | ⟨rfl, hmx⟩
          · (repeat' (first | refine r_95e112 ?_ | (refine r_48b933 (fun hb => ?_) (fun hb => ?_) <;> (try (exfalso; omega))) | (refine awp_cond rfl (fun hb => ?_) (fun hb => ?_) <;> (try simp only [Bool.not_eq_true', Bool.not_eq_false', decide_eq_true_eq, decide_eq_false_iff_not] at hb) <;> (try (exfalso; omega)))))
            all_goals (first | (exfalso; omega) | exact ⟨k + 1, hk3, by (refine Le.mk [] [] q_5ec36 q_871b6 q_bbfed q_509a2), by show 3 - (k + 1) < 3 - k; omega⟩)
          · (repeat' (first | refine r_95e112 ?_ | (refine r_48b933 (fun hb => ?_) (fun hb => ?_) <;> (try (exfalso; omega))) | (refine awp_cond rfl (fun hb => ?_) (fun hb => ?_) <;> (try simp only [Bool.not_eq_true', Bool.not_eq_false', decide_eq_true_eq, decide_eq_false_iff_not] at hb) <;> (try (exfalso; omega)))))
            all_goals (first | (exfalso; omega) | exact ⟨k + 1, hk3, by (refine Le.mk [] [] q_5ec36 q_871b6 q_bbfed q_509a2), by show 3 - (k + 1) < 3 - k; omega⟩)
        · have hzm := List.mem_of_getElem? h3
          have hzO := pcs_get h3
          have hLa2 := least_step hok hLa hzm h4 (fun y hy hc => by
            obtain ⟨m, hm⟩ := List.mem_iff_getElem?.1 hy
            exact h5 m y (List.getElem?_eq_some_iff.1 hm).1 hm hc)
          have hf2t : f2 = true := by rw [hf2, cand_any hzm h4]; simp
          have hzv := ((hok.c z hzm).vs h4.2.1).2
          have hjc2 : j + 1 ≤ c := by rw [← hct]; exact hLa2.1
          have hwj : IntKind.i64.wrap ((j : Int) + 1) = ((j + 1 : Nat) : Int) := nat_incI j (by omega)
          subst hf2t
          clear hf2 hfd
          (repeat' (first | (refine is_load ?_; refine w_read rfl q_85eb5 (p_loadNp rfl (Nat.le_of_ble_eq_true rfl)) ?_) | refine r_95e112 ?_ | (refine r_48b933 (fun hb => ?_) (fun hb => ?_) <;> (try (exfalso; omega))) | (refine awp_cond rfl (fun hb => ?_) (fun hb => ?_) <;> (try simp only [Bool.not_eq_true', Bool.not_eq_false', decide_eq_true_eq, decide_eq_false_iff_not] at hb) <;> (try (exfalso; omega)))))
          all_goals (first | (exfalso; omega) | skip)
          refine ⟨(j + 1, true, z.c.r, z.c.s), ⟨hLa2, by simp, fun _ => hzv⟩, ?_, by show c + 1 - (j + 1) < c + 1 - j; omega⟩
          show Le _ _ (lsC l gs k c (j + 1, true, z.c.r, z.c.s))
          unfold lsC
          refine Le.mk [(0, 0)] [] rfl (by (repeat' (first | exact le_nil | refine le_na ?_ | refine le_r ?_ rfl rfl | refine le_int ?_ (by omega) rfl | refine le_ow ?_ rfl rfl | refine le_pt ?_ rfl rfl | refine le_fz ?_ rfl q_bf1c9 rfl rfl | refine le_sv ?_ rfl rfl | refine le_ol ?_ rfl rfl | refine le_ag ?_ ?_ rfl | refine le_cl ?_ ?_ rfl | refine cfl_pt ?_ rfl | refine cfl_r ?_ rfl | refine cfl_rp ?_ rfl | exact CfL.nil))) ?_ (fun g h => nomatch h)
          exact ⟨⟨_, rfl, .var _ _ _ (show CfL _ _ _ (vsA (rtVs z.c.r z.c.s)) (vsA (rtVs z.c.r z.c.s)) from cfl_vsA0 _)⟩, trivial⟩
  · have hke : k = 3 := by omega
    subst hke
    have cN := known21_m
    (repeat' (first | refine r_95e112 ?_ | (refine is_f 13 ?_; refine r_e7cc0f (cN) ?_) | (refine r_48b933 (fun hb => ?_) (fun hb => ?_) <;> (try (exfalso; omega))) | (refine awp_cond rfl (fun hb => ?_) (fun hb => ?_) <;> (try simp only [Bool.not_eq_true', Bool.not_eq_false', decide_eq_true_eq, decide_eq_false_iff_not] at hb) <;> (try (exfalso; omega)))))
    all_goals (first | (exfalso; omega) | exact ret1 [] (.bool rfl) rfl rfl rfl)
end Go.Proofs.YtibedaeefnjjlaaGreat
