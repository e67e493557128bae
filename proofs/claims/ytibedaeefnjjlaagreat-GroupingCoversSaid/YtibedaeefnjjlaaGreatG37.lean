/- Texts of the second layer in one: Ai5 Ai7. -/
import Derived.Test.YtibedaeefnjjlaaGreatG19
import Derived.Test.YtibedaeefnjjlaaGreatG34
import Derived.Test.YtibedaeefnjjlaaGreatG35
import Derived.LoopIn
/- Chapter 21: slices.Values of pieces. No conditions. --ext7 -/
namespace Go.Proofs.YtibedaeefnjjlaaGreat
open Go.RowKit Go.Ab
attribute [local go_sem] Oper.semAt_some
set_option maxRecDepth 100000
set_option linter.unusedVariables false
set_option linter.unusedSimpArgs false

/-- A piece as a value. -/
def pcv (x : Pc) : Value := .agg (pcVs x).toArray

set_option maxHeartbeats 4000000 in
theorem values1_it (l : List Pc) (hl : l.length ≤ 1000000) {lb : Array Value} {B0 : Nat → Prop} {W0 : World} {Z0 : Nat → Value} (hr : AV.reps Z0 B0 W0 [.rp [.sl 24 (pcs l)]] lb.toList) : Iter Tryz.prog 67 lb (l.map pcv) B0 W0 := by
  intro n yl J W hn stab hK hY h0
  have hlen : (pcs l).length = l.length := pcs_len l
  rw [AV.reps] at hr
  obtain ⟨p, us, e1, h1, h2⟩ := hr
  rw [AV.reps] at h2
  subst h2
  rw [AV.rep] at h1
  obtain ⟨ad, rfl, hlt, hnb, hrow⟩ := h1
  rw [RV.row] at hrow
  obtain ⟨⟨u, hc, hone, hu⟩, _⟩ := hrow
  have elb : lb = #[.pointer (some ad)] := by
    have := congrArg List.toArray e1
    simpa using this
  subst elb
  have hc0 : W0.cell? ad = some u := hc
  have good : ∀ B A, Kp B0 B W0 A → RV.rep B A (.sl 24 (pcs l)) u := fun B A hk => RV.rep_mono hk.up hk.old _ _ hu
  have hu' := hu
  rw [RV.rep] at hu'
  obtain ⟨sa, sc, eu, _⟩ := hu'
  rw [hlen] at eu
  clear hu hc hone e1
  obtain ⟨B, hkp, hBlt⟩ := hK 0 W h0
  have hcw : W.cell? ad = some (.slice sa l.length sc) := by rw [← eu]; exact hkp.up.cell hc0 hnb
  refine callsIn_of_wp Tryz.func67 rfl trivial ?_ rfl
  simp only [Tryz.ntmps67, List.size_toArray, List.length_cons, List.length_nil, Nat.reduceAdd, Nat.reduceSub, Array.replicate_succ, Array.replicate_zero, List.push_toArray, List.append_toArray, List.nil_append, List.cons_append]
  gi_wp2
  refine wpIn_loop (fun a w => ∃ k : Nat, k ≤ l.length ∧ J k w ∧ a.defers = [] ∧ a.tmps.size = 16 ∧ a.tmps.getD 0 undef = .func (.yield yl) #[] #[] ∧ a.tmps.getD 5 undef = u ∧ a.tmps.getD 6 undef = .int .i64 (l.length : Int) ∧ a.tmps.getD 7 undef = .int .i64 (k : Int)) (fun a _ => l.length - (intOf (a.tmps.getD 7 undef)).toNat) ⟨0, Nat.zero_le _, h0, rfl, rfl, rfl, by rw [eu]; rfl, rfl, rfl⟩ ?_
  clear hcw hkp hBlt h0
  rintro a w1 ⟨k, hk, hJ, hd, hsz, t0, t5, t6, t7⟩
  obtain ⟨B1, kp1, lt1⟩ := hK k w1 hJ
  have hg := good _ _ kp1
  have s1 : Sim ⟨Tryz.prog, w1, B1, Z0, ⟨0, 0⟩, 16, []⟩ ⟨[(0, .r (.v (.func (.yield yl) #[] #[]))), (5, .r (.sl 24 (pcs l))), (6, .r (.v (.int .i64 (l.length : Int)))), (7, .r (.v (.int .i64 (k : Int))))], [], 0⟩ a w1 := by
    refine sim_ro lt1 hsz hd (by intro p hp; simp only [List.mem_cons, List.not_mem_nil, or_false] at hp; rcases hp with rfl | rfl | rfl | rfl <;> rfl) ?_
    intro p hp
    simp only [List.mem_cons, List.not_mem_nil, or_false] at hp
    rcases hp with rfl | rfl | rfl | rfl
    · show AV.rep _ _ _ _ (a.tmps.getD 0 undef); rw [t0, AV.rep, RV.rep]
    · show AV.rep _ _ _ _ (a.tmps.getD 5 undef); rw [t5, AV.rep]; exact hg
    · show AV.rep _ _ _ _ (a.tmps.getD 6 undef); rw [t6, AV.rep, RV.rep]
    · show AV.rep _ _ _ _ (a.tmps.getD 7 undef); rw [t7, AV.rep, RV.rep]
  have F0 := fok_wide Tryz.prog n
  by_cases hlt2 : k < l.length
  · obtain ⟨x, hx⟩ : ∃ x, l[k]? = some x := ⟨_, List.getElem?_eq_getElem hlt2⟩
    have hgx := pcs_get hx
    refine wpIn_seq ?_
    refine region_use (fun S' => Le ⟨0, 0⟩ S' ⟨[(0, .r (.v (.func (.yield yl) #[] #[]))), (5, .r (.sl 24 (pcs l))), (6, .r (.v (.int .i64 (l.length : Int)))), (7, .r (.v (.int .i64 (k : Int)))), (8, .r (.v (.bool true)))], [], 0⟩) F0 rfl s1 ?_ ?_
    · (repeat' (first | refine r_95e112 ?_ | (refine r_48b933 (fun hb => ?_) (fun hb => ?_) <;> (try (exfalso; omega))) | (refine awp_cond rfl (fun hb => ?_) (fun hb => ?_) <;> (try simp only [Bool.not_eq_true', Bool.not_eq_false', decide_eq_true_eq, decide_eq_false_iff_not] at hb) <;> (try (exfalso; omega)))))
      all_goals exact by (refine Le.mk [] [] q_5ec36 q_43730 q_bbfed q_509a2)
    intro S2 a2 w2 hle2 hs2 pr2
    have s2 := hle2 _ _ _ rfl hs2
    show Code.wpIn Fence.wide n Tryz.prog _ _ a2 w2
    refine wpIn_seq (wpIn_cond_true (sim_v s2 (t := 8) rfl) (wpIn_skip ?_))
    show Code.wpIn Fence.wide n Tryz.prog _ _ a2 w2
    refine wpIn_seq (wpIn_block (wpIn_seq ?_))
    refine region_use (fun S' => Le ⟨0, 0⟩ S' ⟨[(0, .r (.v (.func (.yield yl) #[] #[]))), (5, .r (.sl 24 (pcs l))), (6, .r (.v (.int .i64 (l.length : Int)))), (7, .r (.v (.int .i64 (k : Int)))), (4, .pt 0 0)], [(0, some (.var 42 (vsA (pcVs x))))], 1⟩) F0 rfl s2 ?_ ?_
    · (repeat' (first | refine r_95e112 ?_ | (refine r_48b933 (fun hb => ?_) (fun hb => ?_) <;> (try (exfalso; omega))) | (refine awp_cond rfl (fun hb => ?_) (fun hb => ?_) <;> (try simp only [Bool.not_eq_true', Bool.not_eq_false', decide_eq_true_eq, decide_eq_false_iff_not] at hb) <;> (try (exfalso; omega)))))
      all_goals exact by (refine Le.mk [] [] q_5ec36 q_43730 q_bbfed q_509a2)
    intro S3 a3 w3 hle3 hs3 pr3
    have s3 := hle3 _ _ _ rfl hs3
    show Code.wpIn Fence.wide n Tryz.prog _ _ a3 w3
    refine wpIn_seq (wpIn_region_lit ?_)
    refine list_use (l := [_, _]) (rest := [_, _]) (Q0 := fun S' => Le ⟨0, 0⟩ S' ⟨[(0, .r (.v (.func (.yield yl) #[] #[]))), (5, .r (.sl 24 (pcs l))), (6, .r (.v (.int .i64 (l.length : Int)))), (7, .r (.v (.int .i64 (k : Int)))), (11, .r (.v (.func (.yield yl) #[] #[]))), (12, pcA x)], [], 0⟩) (chk := fun _ => true) F0 (by rfl) _ [] _ _ s3 ?_ ?_
    · (repeat' (first | refine r_95e112 ?_ | (refine r_48b933 (fun hb => ?_) (fun hb => ?_) <;> (try (exfalso; omega))) | (refine awp_cond rfl (fun hb => ?_) (fun hb => ?_) <;> (try simp only [Bool.not_eq_true', Bool.not_eq_false', decide_eq_true_eq, decide_eq_false_iff_not] at hb) <;> (try (exfalso; omega)))))
      all_goals exact by (refine Le.mk [] [] q_5ec36 q_43730 q_bbfed q_509a2)
    intro S4 a4 w4 hle4 hs4 pr4
    have s4 := hle4 _ _ _ rfl hs4
    refine op_yield (v := pcv x) rfl rfl (sim_v s4 (t := 11) rfl) (sim_ag s4 (t := 12) (vs := pcVs x) rfl) (fun _ => hn) (fun _ => trivial) (hY k (pcv x) w4 (stab k w1 w4 hJ (sim_below s4)) (by rw [List.getElem?_map, hx]; rfl)) ?_
    rintro e w5 ⟨rfl, hJ5⟩
    refine ⟨_, rfl, ?_⟩
    obtain ⟨z4, d4⟩ := sim_size s4
    have z5 : (a4.put (some 13) (.bool true)).tmps.size = 16 := by show (a4.tmps.setIfInBounds 13 _).size = 16; simpa using z4
    have d5 : (a4.put (some 13) (.bool true)).defers = [] := d4
    have t13 : (a4.put (some 13) (.bool true)).tmps.getD 13 undef = .bool true := put_eq (by rw [z4]; show 13 < 16; omega)
    have tr : ∀ t, (t = 0 ∨ t = 5 ∨ t = 6 ∨ t = 7) → (a4.put (some 13) (.bool true)).tmps.getD t undef = a.tmps.getD t undef := by
      intro t ht
      rw [put_ne (by rintro ⟨⟩; omega), pr4 t (by rcases ht with rfl | rfl | rfl | rfl <;> simp), pr3 t (by rcases ht with rfl | rfl | rfl | rfl <;> simp), pr2 t (by rcases ht with rfl | rfl | rfl | rfl <;> simp)]
    obtain ⟨B5, kp5, lt5⟩ := hK (k + 1) w5 hJ5
    have hg5 := good _ _ kp5
    have s5 : Sim ⟨Tryz.prog, w5, B5, Z0, ⟨0, 0⟩, 16, []⟩ ⟨[(0, .r (.v (.func (.yield yl) #[] #[]))), (5, .r (.sl 24 (pcs l))), (6, .r (.v (.int .i64 (l.length : Int)))), (7, .r (.v (.int .i64 (k : Int)))), (13, .r (.v (.bool true)))], [], 0⟩ (a4.put (some 13) (.bool true)) w5 := by
      refine sim_ro lt5 z5 d5 (by intro p hp; simp only [List.mem_cons, List.not_mem_nil, or_false] at hp; rcases hp with rfl | rfl | rfl | rfl | rfl <;> rfl) ?_
      intro p hp
      simp only [List.mem_cons, List.not_mem_nil, or_false] at hp
      rcases hp with rfl | rfl | rfl | rfl | rfl
      · show AV.rep _ _ _ _ ((a4.put (some 13) (.bool true)).tmps.getD 0 undef); rw [tr 0 (by simp), t0, AV.rep, RV.rep]
      · show AV.rep _ _ _ _ ((a4.put (some 13) (.bool true)).tmps.getD 5 undef); rw [tr 5 (by simp), t5, AV.rep]; exact hg5
      · show AV.rep _ _ _ _ ((a4.put (some 13) (.bool true)).tmps.getD 6 undef); rw [tr 6 (by simp), t6, AV.rep, RV.rep]
      · show AV.rep _ _ _ _ ((a4.put (some 13) (.bool true)).tmps.getD 7 undef); rw [tr 7 (by simp), t7, AV.rep, RV.rep]
      · show AV.rep _ _ _ _ ((a4.put (some 13) (.bool true)).tmps.getD 13 undef); rw [t13, AV.rep, RV.rep]
    refine list_end (fun S' => Le ⟨0, 0⟩ S' ⟨[(0, .r (.v (.func (.yield yl) #[] #[]))), (5, .r (.sl 24 (pcs l))), (6, .r (.v (.int .i64 (l.length : Int)))), (7, .r (.v (.int .i64 (k : Int)))), (14, .r (.v (.bool false)))], [], 0⟩) F0 rfl s5 ?_ ?_
    · (repeat' (first | refine r_95e112 ?_ | (refine r_48b933 (fun hb => ?_) (fun hb => ?_) <;> (try (exfalso; omega))) | (refine awp_cond rfl (fun hb => ?_) (fun hb => ?_) <;> (try simp only [Bool.not_eq_true', Bool.not_eq_false', decide_eq_true_eq, decide_eq_false_iff_not] at hb) <;> (try (exfalso; omega)))))
      all_goals exact by (refine Le.mk [] [] q_5ec36 q_43730 q_bbfed q_509a2)
    intro S6 a6 w6 hle6 hs6 pr6
    have s6 := hle6 _ _ _ rfl hs6
    show Code.wpIn Fence.wide n Tryz.prog _ _ a6 w6
    refine wpIn_cond_false (sim_v s6 (t := 14) rfl) (wpIn_skip ?_)
    show Code.wpIn Fence.wide n Tryz.prog _ _ a6 w6
    have hw : IntKind.i64.wrap ((k : Int) + 1) = ((k + 1 : Nat) : Int) := nat_incI k (by omega)
    refine region_use (fun S' => Le ⟨0, 0⟩ S' ⟨[(0, .r (.v (.func (.yield yl) #[] #[]))), (6, .r (.v (.int .i64 (l.length : Int)))), (7, .r (.v (.int .i64 ((k + 1 : Nat) : Int))))], [], 0⟩) F0 rfl s6 ?_ ?_
    · (repeat' (first | refine r_95e112 ?_ | (refine r_48b933 (fun hb => ?_) (fun hb => ?_) <;> (try (exfalso; omega))) | (refine awp_cond rfl (fun hb => ?_) (fun hb => ?_) <;> (try simp only [Bool.not_eq_true', Bool.not_eq_false', decide_eq_true_eq, decide_eq_false_iff_not] at hb) <;> (try (exfalso; omega)))))
      all_goals exact by (refine Le.mk [] [] q_5ec36 q_43730 q_bbfed q_509a2)
    intro S7 a7 w7 hle7 hs7 pr7
    have s7 := hle7 _ _ _ rfl hs7
    obtain ⟨z7, d7⟩ := sim_size s7
    have h7 := sim_v s7 (t := 7) rfl
    refine ⟨⟨k + 1, by omega, stab _ _ _ hJ5 (sim_below s7), d7, z7, sim_v s7 rfl, ?_, sim_v s7 rfl, h7⟩, ?_⟩
    · rw [pr7 5 (by simp), pr6 5 (by simp), tr 5 (by simp)]; exact t5
    · show l.length - (intOf (a7.tmps.getD 7 undef)).toNat < l.length - (intOf (a.tmps.getD 7 undef)).toNat
      rw [h7, t7]
      simp only [intOf]
      omega
  · have hke : k = l.length := by omega
    refine wpIn_seq ?_
    refine region_use (fun S' => Le ⟨0, 0⟩ S' ⟨[(8, .r (.v (.bool false)))], [], 0⟩) F0 rfl s1 ?_ ?_
    · (repeat' (first | refine r_95e112 ?_ | (refine r_48b933 (fun hb => ?_) (fun hb => ?_) <;> (try (exfalso; omega))) | (refine awp_cond rfl (fun hb => ?_) (fun hb => ?_) <;> (try simp only [Bool.not_eq_true', Bool.not_eq_false', decide_eq_true_eq, decide_eq_false_iff_not] at hb) <;> (try (exfalso; omega)))))
      all_goals exact by (refine Le.mk [] [] q_5ec36 q_43730 q_bbfed q_509a2)
    intro S2 a2 w2 hle2 hs2 pr2
    have s2 := hle2 _ _ _ rfl hs2
    obtain ⟨z2, d2⟩ := sim_size s2
    show Code.wpIn Fence.wide n Tryz.prog _ _ a2 w2
    refine wpIn_seq (wpIn_cond_false (sim_v s2 (t := 8) rfl) (wpIn_exit ?_))
    refine ⟨d2, _, results_none rfl _ _ _, ⟨_, rfl⟩, ?_⟩
    rw [List.length_map, ← hke]
    exact stab _ _ _ hJ (sim_below s2)
end Go.Proofs.YtibedaeefnjjlaaGreat

/- Chapter 21: slices.Values, slices.AppendSeq and slices.Collect at pieces. No conditions but the length. --ext8 -/
namespace Go.Proofs.YtibedaeefnjjlaaGreat
open Go.RowKit Go.Ab
attribute [local go_sem] Oper.semAt_some
set_option maxRecDepth 100000
set_option linter.unusedVariables false
set_option linter.unusedSimpArgs false

/-- The iterator over pieces. -/
def itA (l : List Pc) : AV := .cl 67 [.rp [.sl 24 (pcs l)]]

theorem rep_sl_one {B : Nat → Prop} {w : World} {sz : Nat} {es : List (List RV)} {u : Value} (h : RV.rep B w (.sl sz es) u) : u.oneCell' = true := by
  rw [RV.rep] at h
  obtain ⟨A, c, rfl, _⟩ := h
  rfl

set_option maxHeartbeats 1000000 in
theorem values_m (l : List Pc) : Meets Tryz.prog 35 [.r (.sl 24 (pcs l))] [] (itA l) [] := by
  refine meets_raw (fun _ => rfl) fun w Z M us hM hr => ?_
  rw [AV.reps] at hr
  obtain ⟨u, us', rfl, h1, h2⟩ := hr
  rw [AV.reps] at h2
  subst h2
  rw [AV.rep] at h1
  have ho := rep_sl_one h1
  have key : CallsIn Fence.wide 1 Tryz.prog 35 #[u] w fun e w' => e = .returned (.func (.func 67) #[] #[.pointer (some ⟨w.heap.size, 0, none⟩)]) ∧ w' = w.alloc (.cells #[u] 22) := by
    obtain ⟨A, c, rfl, _⟩ : ∃ A c, u = .slice A (pcs l).length c ∧ True := by
      rw [RV.rep] at h1; obtain ⟨A, c, e, _⟩ := h1; exact ⟨A, c, e, trivial⟩
    refine callsIn_of_wp Tryz.func35 rfl trivial ?_ rfl
    simp only [Tryz.ntmps35, List.size_toArray, List.length_cons, List.length_nil, Nat.reduceAdd, Nat.reduceSub, Array.replicate_succ, Array.replicate_zero, List.push_toArray, List.append_toArray, List.nil_append, List.cons_append]
    gi_wp2
    go_ret
    exact ⟨rfl, rfl⟩
  refine Calls.mono (callsIn_wide.1 key) ?_
  rintro e w' ⟨rfl, rfl⟩
  have hb : Below w.heap.size w (w.alloc (.cells #[u] 22)) := (Below.refl _ _).alloc (Nat.le_refl _) _
  refine ⟨_, rfl, hb, ?_⟩
  unfold itA
  rw [AV.rep]
  refine ⟨_, rfl, ?_⟩
  rw [AV.reps]
  refine ⟨_, [], rfl, ?_, by rw [AV.reps]⟩
  rw [AV.rep]
  refine ⟨_, rfl, by simp, fun h => ?_, ?_⟩
  · have := hM _ h
    exact absurd this (Nat.lt_irrefl _)
  · rw [RV.row]
    refine ⟨⟨u, cell_one_new _ _ _ 0 u rfl, ho, RV.rep_mono (Upto.of_below hb) (fun _ _ h => h) _ _ h1⟩, by rw [RV.row]; trivial⟩

theorem vsA_reps {Z : Nat → Value} {B : Nat → Prop} {w : World} : ∀ vs : List Value, AV.reps Z B w (vsA vs) vs
  | [] => by show AV.reps Z B w [] []; rw [AV.reps]
  | v :: vs => by
    show AV.reps Z B w (.r (.v v) :: vsA vs) (v :: vs)
    rw [AV.reps]
    exact ⟨v, vs, rfl, by rw [AV.rep, RV.rep], vsA_reps vs⟩
def asH (l : List Pc) (k : Nat) : List (Nat × Option Blk) := [(0, some (.var 22 [.ow 1])), (1, some (.row 42 24 (pcs (l.take k))))]
theorem pcA_ids (x : Pc) : (pcA x).ids = [] := by
  obtain ⟨ix, ct, ky, o, p, q, r, s⟩ := x
  rfl
set_option maxHeartbeats 4000000 in
theorem appendSeq_m (l : List Pc) (hl : l.length ≤ 1000000) : Meets Tryz.prog 96 [.r (.v (.slice none 0 0)), itA l] [] (.fr 42 24 (pcs l)) [] := by
  have hlen : (pcs l).length = l.length := pcs_len l
  refine fn_ofM (n := 4) Tryz.func96 rfl (Nat.le_of_ble_eq_true rfl) rfl fun C a w hP hC hN hdf hs => ?_
  have hN' : C.N = 13 := hN
  have h00 : ([] : List (List RV)) = pcs (l.take 0) := rfl
  refine wpIn_seq (wp_awp (Q := fun e S' => e = .normal ∧ Le ⟨0, 0⟩ S' ⟨[(1, itA l), (2, .pt 0 0)], [(0, some (.var 22 [.r (.v (.slice none 0 0))]))], 1⟩) hP hC hs ?_ ?_)
  · rw [hN']
    unfold itA
    (repeat' (first | refine r_95e112 ?_ | (refine r_48b933 (fun hb => ?_) (fun hb => ?_) <;> (try (exfalso; omega))) | (refine awp_cond rfl (fun hb => ?_) (fun hb => ?_) <;> (try simp only [Bool.not_eq_true', Bool.not_eq_false', decide_eq_true_eq, decide_eq_false_iff_not] at hb) <;> (try (exfalso; omega)))))
    exact ⟨rfl, by (refine Le.mk [] [] q_5ec36 q_871b6 q_bbfed q_509a2)⟩
  rintro e S1 a1 w1 ⟨rfl, hle1⟩ hs1
  have s1 : Sim C ⟨[(1, itA l), (2, .pt 0 0)], [(0, some (.var 22 [.ow 1])), (1, some (.row 42 24 [])), (0, some (.var 22 [.r (.v (.slice none 0 0))]))], 2⟩ a1 w1 := (hle1 C _ _ hC hs1).nilvar (T' := 42) (sz := 24) (i := 0) rfl
  show Code.wpIn Fence.wide 4 Tryz.prog _ _ a1 w1
  refine wpIn_seq (wpIn_seq (wp_awp (Q := fun e S' => e = .normal ∧ Le ⟨0, 0⟩ S' ⟨[(2, .pt 0 0), (6, itA l)], asH l 0, 2⟩) hP hC s1 ?_ ?_))
  · rw [hN']
    unfold itA
    (repeat' (first | refine r_95e112 ?_ | (refine r_48b933 (fun hb => ?_) (fun hb => ?_) <;> (try (exfalso; omega))) | (refine awp_cond rfl (fun hb => ?_) (fun hb => ?_) <;> (try simp only [Bool.not_eq_true', Bool.not_eq_false', decide_eq_true_eq, decide_eq_false_iff_not] at hb) <;> (try (exfalso; omega)))))
    exact ⟨rfl, by (refine Le.mk [] [] q_5ec36 q_871b6 q_bbfed q_509a2)⟩
  rintro e S2 a2 w2 ⟨rfl, hle2⟩ hs2
  obtain ⟨Z2, K2, s2⟩ := SimK.of_sim (hle2 C _ _ hC hs2)
  show Code.wpIn Fence.wide 4 Tryz.prog _ _ a2 w2
  have sl := s2.sim.slots 6
  have sl' : AV.rep Z2 (Go.Ab.Own C (famH K2 (St.HF ⟨[(2, .pt 0 0), (6, itA l)], asH l 0, 2⟩) []) Z2) w2 (itA l) (a2.tmps.getD 6 undef) := sl
  unfold itA at sl'
  rw [AV.rep] at sl'
  obtain ⟨lb, e6, hlb⟩ := sl'
  refine wpIn_block (range_it (n := 4) (E := [(2, .pt 0 0), (6, itA l)]) (H := asH l) (nx := 2) (F := []) 1 (vs := l.map pcv) (avs := l.map pcA) hP hC hdf s2 (by rw [hN']; decide) (by omega) (by omega) ?hE e6 (enters_of Tryz.func67 (by kernel_rfl) rfl) (values1_it l hl hlb) ?hav ?hf0 ?hround ?hdone)
  case hE =>
    intro t i hi
    rcases get_mem (l := [(2, AV.pt 0 0), (6, itA l)]) (t := t) with e | e
    · rw [e] at hi; cases hi
    · simp only [List.mem_cons, List.not_mem_nil, or_false, Prod.mk.injEq] at e
      rcases e with ⟨_, e⟩ | ⟨_, e⟩ <;> rw [e] at hi <;> simp [itA, AV.ids, AV.idss] at hi <;> omega
  case hav =>
    intro k v hv
    rw [List.getElem?_map, Option.map_eq_some_iff] at hv
    obtain ⟨x, hx, rfl⟩ := hv
    refine ⟨pcA x, by rw [List.getElem?_map, hx]; rfl, pcA_ids x, ?_⟩
    unfold pcA pcv
    rw [AV.rep]
    exact ⟨_, rfl, by simpa using vsA_reps (pcVs x)⟩
  case hf0 =>
    intro k _
    rfl
  case hround =>
    intro k c hk hc F m hF
    rw [List.length_map] at hk
    rw [List.getElem?_map, Option.map_eq_some_iff] at hc
    obtain ⟨x, hx, rfl⟩ := hc
    rw [hN']
    unfold itA asH
    refine awpIn_text hF ?_
    have hE : pcs (l.take k) ++ [(pcVs x).map RV.v] = pcs (l.take (k + 1)) := by
      unfold pcs
      rw [List.take_add_one, hx, List.map_append]; rfl
    have hlk : (pcs (l.take k)).length = k := by rw [pcs_len, List.length_take]; omega
    (repeat' (first | refine r_95e112 ?_ | (refine r_48b933 (fun hb => ?_) (fun hb => ?_) <;> (try (exfalso; omega))) | (refine awp_cond rfl (fun hb => ?_) (fun hb => ?_) <;> (try simp only [Bool.not_eq_true', Bool.not_eq_false', decide_eq_true_eq, decide_eq_false_iff_not] at hb) <;> (try (exfalso; omega)))))
    refine ⟨rfl, rfl, fun F m hF => ?_⟩
    refine awpIn_block (awpIn_text hF ?_)
    (repeat' (first | refine r_95e112 ?_ | (refine r_48b933 (fun hb => ?_) (fun hb => ?_) <;> (try (exfalso; omega))) | (refine awp_cond rfl (fun hb => ?_) (fun hb => ?_) <;> (try simp only [Bool.not_eq_true', Bool.not_eq_false', decide_eq_true_eq, decide_eq_false_iff_not] at hb) <;> (try (exfalso; omega)))))
    show Exit.normal = Exit.normal ∧ _
    exact ⟨rfl, [(1, 4)], rfl, hl_var (hl_row hl_nil hE rfl) (cfl_ow .nil rfl) rfl, fun i hi => by
      have : i = 0 := by omega
      subst this
      rfl⟩
  case hdone =>
    intro D Z' K' W' hS
    show Code.wpIn Fence.wide 4 Tryz.prog (Code.seq _ _) _ _ _
    have e9 : asH l (l.map pcv).length = [(0, some (.var 22 [.ow 1])), (1, some (.row 42 24 (pcs l)))] := by
      unfold asH
      rw [List.length_map, List.take_length]
    rw [e9] at hS
    refine wp_awpX (C := { C with df := [{ target := .collected D, args := #[] }] }) (Q := fun e S' => (e = .normal ∨ e = .ret) ∧ RetOk Tryz.prog ⟨0, 0⟩ Tryz.f96 S' (.fr 42 24 (pcs l)) []) hP hC rfl hS ?_ ?_
    · show awp _ _ C.N _ _ _
      rw [hN']
      unfold itA
      (repeat' (first | refine r_95e112 ?_ | (refine r_48b933 (fun hb => ?_) (fun hb => ?_) <;> (try (exfalso; omega))) | (refine awp_cond rfl (fun hb => ?_) (fun hb => ?_) <;> (try simp only [Bool.not_eq_true', Bool.not_eq_false', decide_eq_true_eq, decide_eq_false_iff_not] at hb) <;> (try (exfalso; omega)))))
      exact ret1 [] (.fr 1 _ _ _ rfl) rfl rfl rfl
    · rintro e S' a' w' Z'' K'' ⟨h1, h2⟩ h3
      exact ⟨h1, S', D, Z'', K'', h2, h3⟩
set_option maxHeartbeats 1000000 in
theorem collect_m (l : List Pc) (hl : l.length ≤ 1000000) : Meets Tryz.prog 65 [itA l] [] (.fr 42 24 (pcs l)) [] := by
  have cA := appendSeq_m l hl
  refine fn_of Tryz.func65 rfl (Nat.le_of_ble_eq_true rfl) rfl rfl ?_
  unfold itA at *
  (repeat' (first | refine r_95e112 ?_ | (refine is_f 96 ?_; refine r_e7cc0f (cA) ?_) | (refine r_48b933 (fun hb => ?_) (fun hb => ?_) <;> (try (exfalso; omega))) | (refine awp_cond rfl (fun hb => ?_) (fun hb => ?_) <;> (try simp only [Bool.not_eq_true', Bool.not_eq_false', decide_eq_true_eq, decide_eq_false_iff_not] at hb) <;> (try (exfalso; omega)))))
  exact ret1 [] (.fr 0 _ _ _ rfl) rfl rfl rfl
end Go.Proofs.YtibedaeefnjjlaaGreat
