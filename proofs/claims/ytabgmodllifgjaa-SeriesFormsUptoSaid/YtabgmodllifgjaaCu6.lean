/- Chapter 12: series.Cut in the second layer. Conditions: lengths. --ext4 -/
import Derived.Test.YtabgmodllifgjaaCu5
namespace Go.Proofs.Ytabgmodllifgjaa
open Go.RowKit Go.Ab
set_option maxRecDepth 100000
set_option linter.unusedVariables false
set_option linter.unusedSimpArgs false

theorem smps_flat (l : List (Int × Int)) : (smps l).flatten = (flatv l).map RV.v := by
  induction l with
  | nil => rfl
  | cons a l ih =>
    rw [show a :: l = [a] ++ l from rfl, smps_append, flatv_append, List.flatten_append, List.map_append, ih]
    rfl
theorem nums_flat (k : IntKind) (l : List Int) : (nums k l).flatten = (l.map (Value.int k)).map RV.v := by
  induction l with
  | nil => rfl
  | cons a l ih =>
    rw [show a :: l = [a] ++ l from rfl, nums_append, List.flatten_append, List.map_append, List.map_append, ih]
    rfl
theorem rows_cells {B : Nat → Prop} {w : World} {es : List (List RV)} {ad : Addr} {vs : List Value} (h : RV.rows B w es ad 0) (he : es.flatten = vs.map RV.v) : ∀ j u, vs[j]? = some u → w.cell? (ad.add j) = some u := by
  intro j u hj
  rw [RV.rows_flat, RV.row_iff] at h
  obtain ⟨x, h1, _, h3⟩ := h j (.v u) (by rw [he, List.getElem?_map, hj]; rfl)
  rw [RV.rep] at h3
  subst h3
  rwa [Nat.zero_add] at h1
theorem cells_rows {B : Nat → Prop} {w : World} {es : List (List RV)} {ad : Addr} {vs : List Value} (he : es.flatten = vs.map RV.v) (h1 : ∀ u ∈ vs, u.oneCell' = true) (h : ∀ j u, vs[j]? = some u → w.cell? (ad.add j) = some u) : RV.rows B w es ad 0 := by
  rw [RV.rows_flat, RV.row_iff]
  intro k c hk
  rw [he, List.getElem?_map, Option.map_eq_some_iff] at hk
  obtain ⟨u, hu, rfl⟩ := hk
  exact ⟨u, by rw [Nat.zero_add]; exact h k u hu, h1 u (List.mem_of_getElem? hu), by rw [RV.rep]⟩
theorem smps_two (l : List (Int × Int)) : ∀ e ∈ smps l, e.length = 2 := by
  intro e he
  unfold smps at he
  rw [List.mem_map] at he
  obtain ⟨s, _, rfl⟩ := he
  rfl
/-- A slice of its own with samples reads so. -/
theorem ownsS_rep {B : Nat → Prop} {W : World} {b : Nat} {v : Value} {p : List (Int × Int)} (hp : p ≠ []) (h : W.ownsRow b 54 2 v p.length (flatv p)) (hB : ∀ x cs fz, b ≤ x → W.heap[x]? = some (.cells cs 54 fz) → ¬ B x) :
    v.oneCell' = true ∧ RV.rep B W (.sl 2 (smps p)) v := by
  rcases h.2 with ⟨_, h0⟩ | ⟨g, cap, cur, rfl, hb, hg, hn, hcap, hsz, htk⟩
  · exact absurd (List.eq_nil_of_length_eq_zero h0) hp
  · refine ⟨rfl, ?_⟩
    rw [RV.rep]
    refine ⟨some ⟨g, 0, none⟩, cap, by rw [smps_len], by rw [smps_len]; exact hn, hcap, smps_two p, fun _ => ⟨⟨g, 0, none⟩, rfl, heap_lt hg, hB g _ _ hb hg, ?_⟩⟩
    refine cells_rows (smps_flat p) (flatv_one p) fun j u hj => ?_
    have hjl : j < (flatv p).length := (List.getElem?_eq_some_iff.1 hj).1
    rw [flatv_len] at hjl
    rw [← htk, List.getElem?_take_of_lt (by omega)] at hj
    rw [show (⟨g, 0, none⟩ : Addr).add j = ⟨g, j, none⟩ by unfold Addr.add; split <;> simp_all, cell_of_row W g j cur _ _ hg]
    simpa using hj
theorem parts_rep {B : Nat → Prop} {W : World} {b : Nat} {P : List (List (Int × Int))} {xs : List Value} (h : PartsAt b W P xs) (hB : ∀ x cs fz, b ≤ x → W.heap[x]? = some (.cells cs 54 fz) → ¬ B x) : RVs B W (prts P).flatten xs := by
  induction h with
  | nil => exact .nil
  | cons h1 h2 _ ih =>
    obtain ⟨g1, g2⟩ := ownsS_rep h1 h2 hB
    exact .cons g1 g2 ih
theorem cut_m (l : List (Int × Int)) (size : Int) (fl : List Int) (h1 : 1 ≤ size) (hs : size ≤ 9223372036854775807) (hl : l.length ≤ 8796093022000) (hfl : fl.length ≤ 17592186044416) (hw : ∀ f ∈ fl, (Lit.int .i64 f).wf = true) :
    Meets Try.prog 42 [.r (.sl 2 (smps l)), .r (.v (.int .i64 size)), .r (.sl 1 (nums .i64 fl))] [] (.fr 43 1 (prts (cutL l size fl))) [] := by
  intro w Z M k us hM hk hr _ _
  simp only [AV.reps, AV.rep, RV.rep] at hr
  obtain ⟨u0, us', rfl, ⟨A, c, rfl, hc1, hc2, _, hrow⟩, u1, us', rfl, rfl, u2, us', rfl, ⟨Af, cf, rfl, hcf1, hcf2, _, hrowf⟩, rfl⟩ := hr
  rw [smps_len] at hc1 ⊢
  rw [nums_len] at hcf1 ⊢
  refine (cut_any l size fl A c Af cf w h1 hl hs hc1 hc2 hfl hw (fun h => ?_) (fun j hj => ?_)).mono ?_
  · obtain ⟨ad, e, hb, _, hrows⟩ := hrow (by intro e; have := smps_len l; rw [e] at this; simp at this; omega)
    exact ⟨ad, e, hb, rows_cells hrows (smps_flat l)⟩
  · obtain ⟨ad, e, hb, _, hrows⟩ := hrowf (by intro e; have := nums_len .i64 fl; rw [e] at this; simp at this; omega)
    refine ⟨ad, e, hb, rows_cells hrows (nums_flat .i64 fl) j _ ?_⟩
    simp [List.getElem?_eq_getElem hj]
  · rintro e w' ⟨v, xs, rfl, hown, hP, hb⟩
    refine ⟨v, rfl, fun i => if i = k then v else Z i, ?_⟩
    have hzk : (if k = k then v else Z k) = v := if_pos rfl
    constructor
    · intro i hi
      show (if i = k then v else Z i) = Z i
      rw [if_neg]
      rintro rfl
      rcases hi with hi | hi
      · omega
      · simp [callSp, AV.unfr] at hi
        omega
    · show v = (if k = k then v else Z k)
      rw [hzk]
    · intro i b hb; simp [callSp, numdP] at hb
    · intro j b hj
      rcases j with _ | j
      · simp [callSp, AV.unfr] at hj
        subst hj
        refine ⟨xs, ?_, ?_, ?_⟩
        · show w'.ownsRow 0 _ 1 (if k = k then v else Z k) _ _
          rw [hzk, prts_len, ← hP.len]
          exact ownsRow_base hown (Nat.zero_le _)
        · refine parts_rep hP fun x cs fz hx hh hn => ?_
          rcases hn with hn | ⟨j, hj, hn⟩
          · have := hM x hn; omega
          · simp [callSp, AV.unfr] at hj
            subst hj
            change blk (if k = k then v else Z k) = some x at hn
            rw [hzk] at hn
            rcases hown.2 with ⟨e, _⟩ | ⟨g, cap, cur, e, _, hg, _⟩
            · rw [e] at hn; cases hn
            · rw [e] at hn; simp [blk] at hn; subst hn; rw [hg] at hh; cases hh
        · intro e he
          unfold prts at he
          rw [List.mem_map] at he
          obtain ⟨s, _, rfl⟩ := he
          rfl
      · simp [callSp, AV.unfr] at hj
    · intro j j' x hj hj' hne
      simp [callSp, AV.unfr] at hj hj'
      omega
    · intro j x hj hx
      simp [callSp, AV.unfr] at hj
      subst hj
      change blk (if k = k then v else Z k) = some x at hx
      rw [hzk] at hx
      rcases hown.2 with ⟨e, _⟩ | ⟨g, cap, cur, e, hge, hg, _⟩
      · rw [e] at hx; cases hx
      · rw [e] at hx; simp [blk] at hx; subst hx; exact .inl hge
    · exact Go.Ab.Upto.of_below hb
theorem cut_no (l : List (Int × Int)) (size : Int) (fl : List Int) (h : size < 1) : Meets Try.prog 42 [.r (.sl 2 (smps l)), .r (.v (.int .i64 size)), .r (.sl 1 (nums .i64 fl))] [] (.r (.v (.slice none 0 0))) [] := by
  refine fn_of Try.func42 rfl (Nat.le_of_ble_eq_true rfl) rfl rfl ?_
  (repeat' (first | (first | (refine is_move ?_; first | refine w_read rfl (.inl ⟨rfl, rfl⟩) q_2ce30 ?_) | (refine is_assign ?_; first | refine w_read rfl (.inl ⟨rfl, rfl⟩) q_732c1 ?_) | (refine is_load ?_; first | refine w_read rfl (.inl ⟨rfl, rfl⟩) q_98330 ?_) | (refine is_bin ?_; first | (refine is_b_lss ?_; first | (refine w_dec rfl (.inl ⟨rfl, rfl⟩) (p_lss rfl rfl) (fun hb => ?_) (fun hb => ?_) <;> (try (exfalso; omega))))) | (refine is_call ?_; first | (refine is_c_append ?_; first | refine w_appendI rfl rfl (.src _ _ (.sl _ rfl)) rfl rfl q_857c1 rfl (.inl ⟨rfl, rfl⟩) ?_ | refine w_appendI rfl rfl (.src _ _ (.ow _ _ rfl rfl)) rfl rfl q_857c1 rfl (.inl ⟨rfl, rfl⟩) ?_ | refine w_appendI rfl rfl (.full _ _ rfl rfl) rfl rfl q_857c1 rfl (.inl ⟨rfl, rfl⟩) ?_ | refine w_appendG rfl rfl (.src _ _ (.sl _ rfl)) q_857c1 q_7da8a rfl (.inl ⟨rfl, rfl⟩) ?_ | refine w_appendG rfl rfl (.src _ _ (.ow _ _ rfl rfl)) q_857c1 q_7da8a rfl (.inl ⟨rfl, rfl⟩) ?_ | refine w_appendG rfl rfl (.full _ _ rfl rfl) q_857c1 q_7da8a rfl (.inl ⟨rfl, rfl⟩) ?_ | refine w_appendK rfl rfl (.ok _ _ _ _ rfl rfl) rfl q_7da8a rfl rfl (.inl ⟨rfl, rfl⟩) ?_ | refine w_read rfl (.inl ⟨rfl, rfl⟩) (p_append_e rfl rfl rfl) ?_ | refine w_appendF rfl rfl (.sl _ rfl) q_3ef64 q_7da8a rfl (.inl ⟨rfl, rfl⟩) ?_ | refine w_appendF rfl rfl (.ow _ _ rfl rfl) q_3ef64 q_7da8a rfl (.inl ⟨rfl, rfl⟩) ?_ | refine w_append rfl rfl (.sl _ rfl) rfl q_7da8a rfl rfl (.inl ⟨rfl, rfl⟩) ?_ | refine w_append rfl rfl (.ow _ _ rfl rfl) rfl q_7da8a rfl rfl (.inl ⟨rfl, rfl⟩) ?_ | refine w_append0 rfl (.sl _ rfl) q_7da8a rfl (.inl ⟨rfl, rfl⟩) ?_ | refine w_append0 rfl (.ow _ _ rfl rfl) q_7da8a rfl (.inl ⟨rfl, rfl⟩) ?_)) | (refine is_alloc ?_; first | refine w_make rfl (.inl ⟨rfl, rfl⟩) m_alloc rfl ?_) | (refine is_store ?_; first | refine w_store rfl (a := .r _) rfl rfl rfl q_341a8 rfl rfl q_85eb5 ?_ | refine w_store rfl (a := .ag _) rfl rfl rfl q_341a8 rfl rfl q_85eb5 ?_ | refine w_store rfl (a := .rp _) rfl rfl rfl q_341a8 rfl rfl q_85eb5 ?_ | refine w_store rfl (a := .pt _ _) rfl rfl rfl q_341a8 rfl rfl q_85eb5 ?_ | refine w_store_p1 rfl rfl rfl rfl q_826a3 OnT.size rfl q_85eb5 ?_ | (refine w_store_pe rfl rfl rfl rfl q_826a3 q_341a8 rfl rfl q_85eb5 ?_; try dsimp only [List.reverse, List.reverseAux])) | (refine is_bslice ?_; first | (refine w_make rfl (.inl ⟨rfl, rfl⟩) (m_bslice [_] (es := [_]) rfl rfl rfl rfl rfl) rfl ?_; try dsimp only [List.reverse, List.reverseAux]))) | (first | refine awp_seq ?_ | refine thenA_ret ?_ | refine blockA_ret ?_ | refine awp_block ?_ | refine awp_text ?_ | refine awp_any (by kernel_rfl) ?_ | refine w_nilT ?_ | refine w_nil (by kernel_rfl) ?_ | refine awp_condT rfl ?_ | refine awp_condF rfl ?_ | refine awp_skip ?_ | refine awp_exit ?_ | refine awp_ret ?_) | (refine awp_cond rfl (fun hb => ?_) (fun hb => ?_) <;> (try simp only [Bool.not_eq_true', Bool.not_eq_false', decide_eq_true_eq, decide_eq_false_iff_not] at hb) <;> (try (exfalso; omega)))))
  all_goals exact ret1 [] (.r _) rfl rfl rfl
end Go.Proofs.Ytabgmodllifgjaa
