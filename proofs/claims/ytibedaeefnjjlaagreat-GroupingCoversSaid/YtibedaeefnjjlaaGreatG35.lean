/- Texts of the second layer in one: Gp2 Gp3. -/
import Derived.Test.YtibedaeefnjjlaaGreatG33
import Derived.Test.YtibedaeefnjjlaaGreatG34
/- Grouping: a piece is taken into a group. Conditions: valid cones. --ext7 -/
namespace Go.Proofs.YtibedaeefnjjlaaGreat
open Go.RowKit Go.Ab Go.Wd
set_option maxRecDepth 100000
set_option linter.unusedVariables false
set_option linter.unusedSimpArgs false

/-- What two cones have in common. -/
def meetC (a b : Cn) : Option Cn :=
  if a.o then some b else if b.o then some a else
  if (mLo a.p a.q b.p b.q).1 * (mHi a.r a.s b.r b.s).2 ≤ (mHi a.r a.s b.r b.s).1 * (mLo a.p a.q b.p b.q).2 then some ⟨false, (mLo a.p a.q b.p b.q).1, (mLo a.p a.q b.p b.q).2, (mHi a.r a.s b.r b.s).1, (mHi a.r a.s b.r b.s).2⟩ else none
theorem meetC_ok {a b c : Cn} (ha : a.ok) (hb : b.ok) (h : meetC a b = some c) : c.ok := by
  unfold meetC at h
  split at h
  · injection h with h; subst h; exact hb
  · split at h
    · injection h with h; subst h; exact ha
    · split at h
      · rename_i h1 h2 h3
        injection h with h
        subst h
        rcases ha with ⟨g, _⟩ | ⟨g, ha⟩
        · exact absurd g h1
        · rcases hb with ⟨g', _⟩ | ⟨g', hb⟩
          · exact absurd g' h2
          · exact .inr ⟨rfl, mLo_VR ha.1 hb.1, mHi_VR ha.2.1 hb.2.1, h3⟩
      · cases h
theorem meet_some {a b c : Cn} (ha : a.ok) (hb : b.ok) (h : meetC a b = some c) : Meets Tryz.prog 72 [a.A, b.A] [] (.tu [c.A, .r (.v (.bool true))]) [] := by
  obtain ⟨o, p, q, r, s⟩ := a
  obtain ⟨o', p', q', r', s'⟩ := b
  unfold meetC at h
  unfold Cn.A
  rcases ha with ⟨h1, h2, h3, h4, h5⟩ | ⟨h1, h2⟩ <;> dsimp only at * <;> subst h1
  · subst h2 h3 h4 h5
    rw [if_pos rfl] at h
    injection h with h
    subst h
    refine coneMeet0l_m _ _ _ _ _ ?_
    rcases hb with ⟨g1, g2, g3, g4, g5⟩ | ⟨g1, g2⟩ <;> dsimp only at * <;> subst g1
    · subst g2 g3 g4 g5; exact coneValid0_m
    · exact coneValid_m _ _ _ _ g2
  · rw [if_neg (by simp)] at h
    rcases hb with ⟨g1, g2, g3, g4, g5⟩ | ⟨g1, g2⟩ <;> dsimp only at * <;> subst g1
    · rw [if_pos rfl] at h
      injection h with h
      subst h g2 g3 g4 g5
      exact coneMeet0r_m _ _ _ _ h2
    · rw [if_neg (by simp)] at h
      have := coneMeet_m p q r s p' q' r' s' h2 g2
      split at h
      · rename_i h3
        rw [if_pos h3] at this
        injection h with h
        subst h
        exact this
      · cases h
theorem meet_none {a b : Cn} (ha : a.ok) (hb : b.ok) (h : meetC a b = none) : Meets Tryz.prog 72 [a.A, b.A] [] (.tu [cn false 0 0 0 0, .r (.v (.bool false))]) [] := by
  obtain ⟨o, p, q, r, s⟩ := a
  obtain ⟨o', p', q', r', s'⟩ := b
  unfold meetC at h
  unfold Cn.A
  rcases ha with ⟨h1, h2, h3, h4, h5⟩ | ⟨h1, h2⟩ <;> dsimp only at * <;> subst h1
  · rw [if_pos rfl] at h; cases h
  · rw [if_neg (by simp)] at h
    rcases hb with ⟨g1, g2, g3, g4, g5⟩ | ⟨g1, g2⟩ <;> dsimp only at * <;> subst g1
    · rw [if_pos rfl] at h; cases h
    · rw [if_neg (by simp)] at h
      have := coneMeet_m p q r s p' q' r' s' h2 g2
      split at h
      · cases h
      · rename_i h3
        rw [if_neg h3] at this
        exact this
/-- The cells of a group in the making: its starts are s. -/
def gwC (ky : Int) (s : AV) (c : Cn) : List AV := .r (.v (.int .i64 ky)) :: (vsA (rtVs 0 0) ++ s :: vsA (cnVs c.o c.p c.q c.r c.s))
set_option maxHeartbeats 4000000 in
theorem take_yes (es : List (List RV)) (ky : Int) (st : List Int) (c c' : Cn) (x : Pc) (hst : st.length ≤ 1000000) (hc : c.ok) (hx : x.c.ok) (hm : meetC c x.c = some c') (hk : ky = x.ky) :
    MeetsX Tryz.prog 37 [.pe 1 33 es.length 0, pcA x] [.row 3 1 (nums .i64 st), .rowo 87 33 es (gwC ky (.ow 0) c)] (.r (.v (.bool true)))
      [none, some (.rowo 87 33 es (gwC ky (.fr 3 1 (nums .i64 (st ++ [x.ix]))) c'))] := by
  have cM := meet_some hc hx hm
  subst hk
  have hsl : (nums .i64 st).length = st.length := nums_len _ st
  have hE : nums .i64 st ++ [[.v (.int .i64 x.ix)]] = nums .i64 (st ++ [x.ix]) := by rw [nums_append]; rfl
  clear hm hc hx
  refine fn_ofX Tryz.func37 rfl (Nat.le_of_ble_eq_true rfl) rfl rfl ?_
  (repeat' (first | refine r_95e112 ?_ | (refine is_f 72 ?_; refine r_571910 (cM) ?_) | (refine r_48b933 (fun hb => ?_) (fun hb => ?_) <;> (try (exfalso; omega))) | (refine awp_cond rfl (fun hb => ?_) (fun hb => ?_) <;> (try simp only [Bool.not_eq_true', Bool.not_eq_false', decide_eq_true_eq, decide_eq_false_iff_not] at hb) <;> (try (exfalso; omega)))))
  all_goals (first | (exfalso; omega) | exact ret1X [] (.r _) rfl rfl q_7e73e (by rfl))
set_option maxHeartbeats 4000000 in
theorem take_apart (es : List (List RV)) (ky : Int) (st : List Int) (c : Cn) (x : Pc) (hc : c.ok) (hx : x.c.ok) (hm : meetC c x.c = none) :
    MeetsX Tryz.prog 37 [.pe 1 33 es.length 0, pcA x] [.row 3 1 (nums .i64 st), .rowo 87 33 es (gwC ky (.ow 0) c)] (.r (.v (.bool false)))
      [some (.row 3 1 (nums .i64 st)), some (.rowo 87 33 es (gwC ky (.ow 0) c))] := by
  have cM := meet_none hc hx hm
  clear hm hc hx
  refine fn_ofX Tryz.func37 rfl (Nat.le_of_ble_eq_true rfl) rfl rfl ?_
  (repeat' (first | refine r_95e112 ?_ | (refine is_f 72 ?_; refine r_571910 (cM) ?_) | (refine r_48b933 (fun hb => ?_) (fun hb => ?_) <;> (try (exfalso; omega))) | (refine awp_cond rfl (fun hb => ?_) (fun hb => ?_) <;> (try simp only [Bool.not_eq_true', Bool.not_eq_false', decide_eq_true_eq, decide_eq_false_iff_not] at hb) <;> (try (exfalso; omega)))))
  all_goals (first | (exfalso; omega) | exact absurd rfl hb | exact ret1X [] (.r _) rfl rfl q_7e73e (by rfl))
set_option maxHeartbeats 4000000 in
theorem take_other (es : List (List RV)) (ky : Int) (st : List Int) (c c' : Cn) (x : Pc) (hc : c.ok) (hx : x.c.ok) (hm : meetC c x.c = some c') (hk : ky ≠ x.ky) :
    MeetsX Tryz.prog 37 [.pe 1 33 es.length 0, pcA x] [.row 3 1 (nums .i64 st), .rowo 87 33 es (gwC ky (.ow 0) c)] (.r (.v (.bool false)))
      [some (.row 3 1 (nums .i64 st)), some (.rowo 87 33 es (gwC ky (.ow 0) c))] := by
  have cM := meet_some hc hx hm
  clear hm hc hx
  refine fn_ofX Tryz.func37 rfl (Nat.le_of_ble_eq_true rfl) rfl rfl ?_
  (repeat' (first | refine r_95e112 ?_ | (refine is_f 72 ?_; refine r_571910 (cM) ?_) | (refine r_48b933 (fun hb => ?_) (fun hb => ?_) <;> (try (exfalso; omega))) | (refine awp_cond rfl (fun hb => ?_) (fun hb => ?_) <;> (try simp only [Bool.not_eq_true', Bool.not_eq_false', decide_eq_true_eq, decide_eq_false_iff_not] at hb) <;> (try (exfalso; omega)))))
  all_goals (first | (exfalso; omega) | exact absurd rfl hb | exact ret1X [] (.r _) rfl rfl q_7e73e (by rfl))
end Go.Proofs.YtibedaeefnjjlaaGreat

/- Grouping: whether pieces can be joined. Conditions: valid cones, indexes that are at least 0 and differ. --ext7 -/
namespace Go.Proofs.YtibedaeefnjjlaaGreat
open Go.RowKit Go.Ab Go.Wd
set_option maxRecDepth 100000
set_option linter.unusedVariables false
set_option linter.unusedSimpArgs false

def pcs (l : List Pc) : List (List RV) := l.map fun x => (pcVs x).map RV.v
theorem pcs_len (l : List Pc) : (pcs l).length = l.length := by simp [pcs]
theorem pcs_get {l : List Pc} {i : Nat} {x : Pc} (h : l[i]? = some x) : (pcs l)[i]? = some ((pcVs x).map RV.v) := by simp [pcs, h]
theorem coneValid_ok {c : Cn} (h : c.ok) : Meets Tryz.prog 64 [c.A] [] (.r (.v (.bool true))) [] := by
  obtain ⟨o, p, q, r, s⟩ := c
  unfold Cn.A
  rcases h with ⟨h1, h2, h3, h4, h5⟩ | ⟨h1, h2⟩ <;> dsimp only at * <;> subst h1
  · subst h2 h3 h4 h5; exact coneValid0_m
  · exact coneValid_m _ _ _ _ h2
/-- Pieces that can be joined. -/
structure PcOk (l : List Pc) : Prop where
  c : ∀ x ∈ l, x.c.ok
  ix : ∀ x ∈ l, 0 ≤ x.ix
  nd : (l.map Pc.ix).Nodup
def sdS (l : List Pc) (i : Nat) : St := ⟨[(2, .r (.v (.bool false))), (3, .ow 0), (7, .r (.sl 24 (pcs l))), (8, .r (.v (.int .i64 (l.length : Int)))), (9, .r (.v (.int .i64 (i : Int))))], [(0, some (.mp ((l.take i).map Pc.ix)))], 1⟩
set_option maxHeartbeats 4000000 in
theorem sound_m (l : List Pc) (hl : l.length ≤ 1000000) (h : PcOk l) : Meets Tryz.prog 33 [.r (.sl 24 (pcs l))] [] (.r (.v (.bool true))) [] := by
  have hlen : (pcs l).length = l.length := pcs_len l
  refine fn_of Tryz.func33 rfl (Nat.le_of_ble_eq_true rfl) rfl rfl ?_
  have h00 : ([] : List Int) = (l.take 0).map Pc.ix := rfl
  (repeat' (first | refine r_95e112 ?_ | (refine r_48b933 (fun hb => ?_) (fun hb => ?_) <;> (try (exfalso; omega))) | (refine awp_cond rfl (fun hb => ?_) (fun hb => ?_) <;> (try simp only [Bool.not_eq_true', Bool.not_eq_false', decide_eq_true_eq, decide_eq_false_iff_not] at hb) <;> (try (exfalso; omega)))))
  refine awp_loop' (sdS l) (fun i => i ≤ l.length) (fun i => l.length - i) 0 (Nat.zero_le _) (by (refine Le.mk [] [] q_5ec36 q_43730 q_bbfed q_509a2)) fun i hi => ?_
  rcases Nat.lt_or_ge i l.length with hlt | hge
  · obtain ⟨x, hx⟩ : ∃ x, l[i]? = some x := ⟨_, List.getElem?_eq_getElem hlt⟩
    have hg := pcs_get hx
    have hm := List.mem_of_getElem? hx
    have cV := coneValid_ok (h.c x hm)
    have h0 := h.ix x hm
    have hE : (l.take i).map Pc.ix ++ [x.ix] = (l.take (i + 1)).map Pc.ix := by
      rw [List.take_add_one, hx, List.map_append]; rfl
    have hn : x.ix ∉ (l.take i).map Pc.ix := by
      have hsub : ((l.take (i + 1)).map Pc.ix).Nodup := (List.Sublist.map _ (List.take_sublist _ _)).nodup h.nd
      rw [← hE, List.nodup_append] at hsub
      exact fun hc => hsub.2.2 _ hc _ (by simp) rfl
    have hw : IntKind.i64.wrap ((i : Int) + 1) = ((i + 1 : Nat) : Int) := nat_incI i (by omega)
    (repeat' (first | refine r_95e112 ?_ | (refine is_f 64 ?_; refine r_571910 (cV) ?_) | (refine r_48b933 (fun hb => ?_) (fun hb => ?_) <;> (try (exfalso; omega))) | (refine awp_cond rfl (fun hb => ?_) (fun hb => ?_) <;> (try simp only [Bool.not_eq_true', Bool.not_eq_false', decide_eq_true_eq, decide_eq_false_iff_not] at hb) <;> (try (exfalso; omega)))))
    all_goals (first | (exfalso; omega) | exact absurd hb hn | exact ⟨i + 1, hlt, by (refine Le.mk [] [] q_5ec36 q_43730 q_bbfed q_509a2), by show l.length - (i + 1) < l.length - i; omega⟩)
  · (repeat' (first | refine r_95e112 ?_ | (refine r_48b933 (fun hb => ?_) (fun hb => ?_) <;> (try (exfalso; omega))) | (refine awp_cond rfl (fun hb => ?_) (fun hb => ?_) <;> (try simp only [Bool.not_eq_true', Bool.not_eq_false', decide_eq_true_eq, decide_eq_false_iff_not] at hb) <;> (try (exfalso; omega)))))
    all_goals (first | (exfalso; omega) | exact ret1 [] (.bool rfl) rfl rfl rfl)
end Go.Proofs.YtibedaeefnjjlaaGreat
