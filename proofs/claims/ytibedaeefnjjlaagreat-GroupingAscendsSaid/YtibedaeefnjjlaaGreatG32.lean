/- Texts of the second layer in one: Gp2 Gp3 So2 Ai5 Ai7 So3 So4 So5. -/
import Derived.Test.YtibedaeefnjjlaaGreatG30
import Derived.Test.YtibedaeefnjjlaaGreatG31
import Derived.Sort.Statements
import Derived.Test.YtibedaeefnjjlaaGreatG14
import Derived.LoopIn
import Derived.Test.YtibedaeefnjjlaaGreatG15
import Derived.Test.YtibedaeefnjjlaaGreatSh
set_option maxRecDepth 100000
set_option linter.unusedVariables false
set_option linter.unusedSimpArgs false
namespace Go.Proofs.YtibedaeefnjjlaaGreat
open Go.RowKit Go.Ab Go.Wd
def meetC (a b : Cn) : Option Cn :=
 if a.o then some b else if b.o then some a else
 if (mLo a.p a.q b.p b.q).1 * (mHi a.r a.s b.r b.s).2 ≤ (mHi a.r a.s b.r b.s).1 * (mLo a.p a.q b.p b.q).2 then some ⟨false, (mLo a.p a.q b.p b.q).1, (mLo a.p a.q b.p b.q).2, (mHi a.r a.s b.r b.s).1, (mHi a.r a.s b.r b.s).2⟩ else none
theorem meetC_ok {a b c : Cn} (ha : a.ok) (hb : b.ok) (h : meetC a b = some c) : c.ok := by
 unfold meetC at h
 split at h
 ·injection h with h; subst h; exact hb
 ·split at h
  ·injection h with h; subst h; exact ha
  ·split at h
   ·rename_i h1 h2 h3
    injection h with h
    subst h
    rcases ha with ⟨g, _⟩ | ⟨g, ha⟩
    ·exact absurd g h1
    ·rcases hb with ⟨g', _⟩ | ⟨g', hb⟩
     ·exact absurd g' h2
     ·exact .inr ⟨rfl, mLo_VR ha.1 hb.1, mHi_VR ha.2.1 hb.2.1, h3⟩
   ·cases h
theorem meet_some {a b c : Cn} (ha : a.ok) (hb : b.ok) (h : meetC a b = some c) : Meets Tryz.prog 72 [a.A, b.A] [] (.tu [c.A, .r (.v (.bool true))]) [] := by
 obtain ⟨o, p, q, r, s⟩ := a
 obtain ⟨o', p', q', r', s'⟩ := b
 unfold meetC at h
 unfold Cn.A
 rcases ha with ⟨h1, h2, h3, h4, h5⟩ | ⟨h1, h2⟩ <;> dsimp only at * <;> subst h1
 ·subst h2 h3 h4 h5
  rw [if_pos rfl] at h
  injection h with h
  subst h
  refine coneMeet0l_m _ _ _ _ _ ?_
  rcases hb with ⟨g1, g2, g3, g4, g5⟩ | ⟨g1, g2⟩ <;> dsimp only at * <;> subst g1
  ·subst g2 g3 g4 g5; exact coneValid0_m
  ·exact coneValid_m _ _ _ _ g2
 ·rw [if_neg (by simp)] at h
  rcases hb with ⟨g1, g2, g3, g4, g5⟩ | ⟨g1, g2⟩ <;> dsimp only at * <;> subst g1
  ·rw [if_pos rfl] at h
   injection h with h
   subst h g2 g3 g4 g5
   exact coneMeet0r_m _ _ _ _ h2
  ·rw [if_neg (by simp)] at h
   have := coneMeet_m p q r s p' q' r' s' h2 g2
   split at h
   ·rename_i h3
    rw [if_pos h3] at this
    injection h with h
    subst h
    exact this
   ·cases h
theorem meet_none {a b : Cn} (ha : a.ok) (hb : b.ok) (h : meetC a b = none) : Meets Tryz.prog 72 [a.A, b.A] [] (.tu [cn false 0 0 0 0, .r (.v (.bool false))]) [] := by
 obtain ⟨o, p, q, r, s⟩ := a
 obtain ⟨o', p', q', r', s'⟩ := b
 unfold meetC at h
 unfold Cn.A
 rcases ha with ⟨h1, h2, h3, h4, h5⟩ | ⟨h1, h2⟩ <;> dsimp only at * <;> subst h1
 ·rw [if_pos rfl] at h; cases h
 ·rw [if_neg (by simp)] at h
  rcases hb with ⟨g1, g2, g3, g4, g5⟩ | ⟨g1, g2⟩ <;> dsimp only at * <;> subst g1
  ·rw [if_pos rfl] at h; cases h
  ·rw [if_neg (by simp)] at h
   have := coneMeet_m p q r s p' q' r' s' h2 g2
   split at h
   ·cases h
   ·rename_i h3
    rw [if_neg h3] at this
    exact this
def gwC (ky : Int) (s : AV) (c : Cn) : List AV := .r (.v (.int .i64 ky)) :: (vsA (rtVs 0 0) ++ s :: vsA (cnVs c.o c.p c.q c.r c.s))
set_option maxHeartbeats 4000000 in
theorem take_yes (es : List (List RV)) (ky : Int) (st : List Int) (c c' : Cn) (x : Pc) (hst : st.length ≤ 1000000) (hc : c.ok) (hx : x.c.ok) (hm : meetC c x.c = some c') (hk : ky = x.ky) :
  MeetsX Tryz.prog 37 [.pe 1 33 es.length 0, pcA x] [.row 3 1 (nums .i64 st), .rowo 87 33 es (gwC ky (.ow 0) c)] (.r (.v (.bool true)))
   [none, some (.rowo 87 33 es (gwC ky (.fr 3 1 (nums .i64 (st ++ [x.ix]))) c'))] := by
 have cM := meet_some hc hx hm
 subst hk
 have hsl : (nums .i64 st).length = st.length := nums_len _ st
 have hE : nums .i64 st ++ [[.v (.int .i64 x.ix)]] = nums .i64 (st ++ [x.ix]) := by rw [nums_append]; rfl
 clear hm hc hx
 refine fn_ofX Tryz.func37 rfl (Nat.le_of_ble_eq_true rfl) rfl rfl ?_
 (repeat' (first | refine r_95e112 ?_ | (refine is_f 72 ?_; refine r_571910 (cM) ?_) | (refine r_0efca5 (fun hb => ?_) (fun hb => ?_) <;> (try (exfalso; omega))) | fail))
 all_goals (first | (exfalso; omega) | exact ret1X [] (.r _) rfl rfl q_7e73e (by rfl))
set_option maxHeartbeats 4000000 in
theorem take_apart (es : List (List RV)) (ky : Int) (st : List Int) (c : Cn) (x : Pc) (hc : c.ok) (hx : x.c.ok) (hm : meetC c x.c = none) :
  MeetsX Tryz.prog 37 [.pe 1 33 es.length 0, pcA x] [.row 3 1 (nums .i64 st), .rowo 87 33 es (gwC ky (.ow 0) c)] (.r (.v (.bool false)))
   [some (.row 3 1 (nums .i64 st)), some (.rowo 87 33 es (gwC ky (.ow 0) c))] := by
 have cM := meet_none hc hx hm
 clear hm hc hx
 refine fn_ofX Tryz.func37 rfl (Nat.le_of_ble_eq_true rfl) rfl rfl ?_
 (repeat' (first | refine r_95e112 ?_ | (refine is_f 72 ?_; refine r_571910 (cM) ?_) | (refine r_0efca5 (fun hb => ?_) (fun hb => ?_) <;> (try (exfalso; omega))) | fail))
 all_goals (first | (exfalso; omega) | exact absurd rfl hb | exact ret1X [] (.r _) rfl rfl q_7e73e (by rfl))
set_option maxHeartbeats 4000000 in
theorem take_other (es : List (List RV)) (ky : Int) (st : List Int) (c c' : Cn) (x : Pc) (hc : c.ok) (hx : x.c.ok) (hm : meetC c x.c = some c') (hk : ky ≠ x.ky) :
  MeetsX Tryz.prog 37 [.pe 1 33 es.length 0, pcA x] [.row 3 1 (nums .i64 st), .rowo 87 33 es (gwC ky (.ow 0) c)] (.r (.v (.bool false)))
   [some (.row 3 1 (nums .i64 st)), some (.rowo 87 33 es (gwC ky (.ow 0) c))] := by
 have cM := meet_some hc hx hm
 clear hm hc hx
 refine fn_ofX Tryz.func37 rfl (Nat.le_of_ble_eq_true rfl) rfl rfl ?_
 (repeat' (first | refine r_95e112 ?_ | (refine is_f 72 ?_; refine r_571910 (cM) ?_) | (refine r_0efca5 (fun hb => ?_) (fun hb => ?_) <;> (try (exfalso; omega))) | fail))
 all_goals (first | (exfalso; omega) | exact absurd rfl hb | exact ret1X [] (.r _) rfl rfl q_7e73e (by rfl))
end Go.Proofs.YtibedaeefnjjlaaGreat
namespace Go.Proofs.YtibedaeefnjjlaaGreat
open Go.RowKit Go.Ab Go.Wd
def pcs (l : List Pc) : List (List RV) := l.map fun x => (pcVs x).map RV.v
theorem pcs_len (l : List Pc) : (pcs l).length = l.length := by simp [pcs]
theorem pcs_get {l : List Pc} {i : Nat} {x : Pc} (h : l[i]? = some x) : (pcs l)[i]? = some ((pcVs x).map RV.v) := by simp [pcs, h]
theorem coneValid_ok {c : Cn} (h : c.ok) : Meets Tryz.prog 64 [c.A] [] (.r (.v (.bool true))) [] := by
 obtain ⟨o, p, q, r, s⟩ := c
 unfold Cn.A
 rcases h with ⟨h1, h2, h3, h4, h5⟩ | ⟨h1, h2⟩ <;> dsimp only at * <;> subst h1
 ·subst h2 h3 h4 h5; exact coneValid0_m
 ·exact coneValid_m _ _ _ _ h2
structure PcOk (l : List Pc) : Prop where
 c : ∀ x ∈ l, x.c.ok
 ix : ∀ x ∈ l, 0 ≤ x.ix
 nd : (l.map Pc.ix).Nodup
def sdS (l : List Pc) (i : Nat) : St := ⟨[(2, .r (.v (.bool false))), (3, .ow 0), (7, .r (.sl 24 (pcs l))), (8, .r (.v (.int .i64 (l.length : Int)))), (9, .r (.v (.int .i64 (i : Int))))], [(0, some (.mp ((l.take i).map Pc.ix)))], 1⟩
set_option maxHeartbeats 4000000 in
theorem sound_m (l : List Pc) (hl : l.length ≤ 1000000) (h : PcOk l) : Meets Tryz.prog 33 [.r (.sl 24 (pcs l))] [] (.r (.v (.bool true))) [] := by
 have hlen : (pcs l).length = l.length := pcs_len l
 refine fn_of Tryz.func33 rfl (Nat.le_of_ble_eq_true rfl) rfl rfl ?_
 have h00 : ([] : List Int) = (l.take 0).map Pc.ix := rfl
 (repeat' (first | refine r_95e112 ?_ | (refine r_0efca5 (fun hb => ?_) (fun hb => ?_) <;> (try (exfalso; omega))) | fail))
 refine awp_loop' (sdS l) (fun i => i ≤ l.length) (fun i => l.length - i) 0 (Nat.zero_le _) (by (refine Le.mk [] [] q_5ec36 q_43730 q_bbfed q_509a2)) fun i hi => ?_
 rcases Nat.lt_or_ge i l.length with hlt | hge
 ·obtain ⟨x, hx⟩ : ∃ x, l[i]? = some x := ⟨_, List.getElem?_eq_getElem hlt⟩
  have hg := pcs_get hx
  have hm := List.mem_of_getElem? hx
  have cV := coneValid_ok (h.c x hm)
  have h0 := h.ix x hm
  have hE : (l.take i).map Pc.ix ++ [x.ix] = (l.take (i + 1)).map Pc.ix := by
   rw [List.take_add_one, hx, List.map_append]; rfl
  have hn : x.ix ∉ (l.take i).map Pc.ix := by
   have hsub : ((l.take (i + 1)).map Pc.ix).Nodup := (List.Sublist.map _ (List.take_sublist _ _)).nodup h.nd
   rw [← hE, List.nodup_append] at hsub
   exact fun hc => hsub.2.2 _ hc _ (by simp) rfl
  have hw : IntKind.i64.wrap ((i : Int) + 1) = ((i + 1 : Nat) : Int) := nat_incI i (by omega)
  (repeat' (first | refine r_95e112 ?_ | (refine is_f 64 ?_; refine r_571910 (cV) ?_) | (refine r_0efca5 (fun hb => ?_) (fun hb => ?_) <;> (try (exfalso; omega))) | fail))
  all_goals (first | (exfalso; omega) | exact absurd hb hn | exact ⟨i + 1, hlt, by (refine Le.mk [] [] q_5ec36 q_43730 q_bbfed q_509a2), by show l.length - (i + 1) < l.length - i; omega⟩)
 ·(repeat' (first | refine r_95e112 ?_ | (refine r_0efca5 (fun hb => ?_) (fun hb => ?_) <;> (try (exfalso; omega))) | fail))
  all_goals (first | (exfalso; omega) | exact ret1 [] (.bool rfl) rfl rfl rfl)
end Go.Proofs.YtibedaeefnjjlaaGreat
namespace Go.Proofs.YtibedaeefnjjlaaGreat
open Go.RowKit Go.Ab
structure CmpOk {α : Type} (D : α → Prop) (c : α → α → Int) : Prop where
 refl : ∀ x, D x → c x x = 0
 anti : ∀ x y, D x → D y → (c x y < 0 ↔ 0 < c y x)
 trans : ∀ x y z, D x → D y → D z → c x y ≤ 0 → c y z ≤ 0 → c x z ≤ 0
section
variable {α β : Type} {D : α → Prop} {c d : α → α → Int}
theorem CmpOk.le (h : CmpOk D c) {x y : α} (hx : D x) (hy : D y) : c x y ≤ 0 ↔ 0 ≤ c y x := by
 have := h.anti y x hy hx; omega
theorem CmpOk.lt (h : CmpOk D c) {x y z : α} (hx : D x) (hy : D y) (hz : D z) (h1 : c x y < 0) (h2 : c y z ≤ 0) : c x z < 0 := by
 have h3 := h.trans x y z hx hy hz (by omega) h2
 rcases Int.lt_or_eq_of_le h3 with h4 | h4
 ·exact h4
 ·have h5 : c z x ≤ 0 := (h.le hz hx).2 (by omega)
  have h6 := h.trans y z x hy hz hx h2 h5
  have := (h.anti x y hx hy).1 h1
  omega
theorem CmpOk.lt' (h : CmpOk D c) {x y z : α} (hx : D x) (hy : D y) (hz : D z) (h1 : c x y ≤ 0) (h2 : c y z < 0) : c x z < 0 := by
 have h3 := h.trans x y z hx hy hz h1 (by omega)
 rcases Int.lt_or_eq_of_le h3 with h4 | h4
 ·exact h4
 ·have h5 : c z x ≤ 0 := (h.le hz hx).2 (by omega)
  have h6 := h.trans z x y hz hx hy h5 h1
  have := (h.anti y z hy hz).1 h2
  omega
theorem CmpOk.or (h : CmpOk D c) (k : CmpOk D d) : CmpOk D fun x y => if c x y ≠ 0 then c x y else d x y := by
 have z : ∀ x y, D x → D y → (c x y = 0 ↔ c y x = 0) := fun x y hx hy => by
  have h1 := h.anti x y hx hy
  have h2 := h.anti y x hy hx
  omega
 refine ⟨fun x hx => by rw [if_neg (by simp [h.refl x hx])]; exact k.refl x hx, fun x y hx hy => ?_, fun x y w hx hy hw h1 h2 => ?_⟩
 ·have h1 := h.anti x y hx hy
  have h2 := k.anti x y hx hy
  have h3 := z x y hx hy
  split <;> split <;> omega
 ·by_cases e1 : c x y = 0
  ·rw [if_neg (by simp [e1])] at h1
   by_cases e2 : c y w = 0
   ·rw [if_neg (by simp [e2])] at h2
    have h3 := h.trans x y w hx hy hw (by omega) (by omega)
    have h4 := h.trans w y x hw hy hx (by rw [(z y w hy hw).1 e2]; exact Int.le_refl _) (by rw [(z x y hx hy).1 e1]; exact Int.le_refl _)
    have h5 := (h.le hw hx).1 h4
    rw [if_neg (by simp; omega)]
    exact k.trans x y w hx hy hw h1 h2
   ·rw [if_pos e2] at h2
    have h3 := h.lt' hx hy hw (by omega) (by omega)
    rw [if_pos (by omega)]; omega
  ·rw [if_pos e1] at h1
   have h4 : c y w ≤ 0 := by
    split at h2
    ·exact h2
    ·omega
   have h3 := h.lt hx hy hw (by omega) h4
   rw [if_pos (by omega)]; omega
theorem CmpOk.pull {D' : β → Prop} (f : β → α) (hf : ∀ x, D' x → D (f x)) (h : CmpOk D c) : CmpOk D' fun x y => c (f x) (f y) :=
 ⟨fun x hx => h.refl _ (hf x hx), fun x y hx hy => h.anti _ _ (hf x hx) (hf y hy), fun x y z hx hy hz => h.trans _ _ _ (hf x hx) (hf y hy) (hf z hz)⟩
theorem CmpOk.congr {c' : α → α → Int} (h : CmpOk D c) (e : ∀ x y, D x → D y → c' x y = c x y) : CmpOk D c' :=
 ⟨fun x hx => by rw [e x x hx hx]; exact h.refl x hx, fun x y hx hy => by rw [e x y hx hy, e y x hy hx]; exact h.anti x y hx hy, fun x y z hx hy hz => by rw [e x y hx hy, e y z hy hz, e x z hx hz]; exact h.trans x y z hx hy hz⟩
end
theorem cmpZ_ok : CmpOk (fun _ : Int => True) cmpZ := by
 refine ⟨fun x _ => ?_, fun x y _ _ => ?_, fun x y z _ _ _ h1 h2 => ?_⟩
 ·unfold cmpZ; simp
 ·unfold cmpZ; split <;> split <;> (try split) <;> (try split) <;> omega
 ·unfold cmpZ at *
  split at h1 <;> split at h2 <;> split <;> (try split at h1) <;> (try split at h2) <;> (try split) <;> omega
theorem orL2 (a b : Int) : orL [a, b] = if a ≠ 0 then a else b := by
 rw [orL, orL, orL]
 by_cases h : a ≠ 0
 ·rw [if_pos h, if_pos h]
 ·rw [if_neg h, if_neg h]
  by_cases k : b ≠ 0
  ·rw [if_pos k]
  ·rw [if_neg k]; simp at k; exact k.symm
theorem orL3 (a b c : Int) : orL [a, b, c] = if a ≠ 0 then a else if b ≠ 0 then b else c := by
 rw [orL]
 by_cases h : a ≠ 0
 ·rw [if_pos h, if_pos h]
 ·rw [if_neg h, if_neg h]; exact orL2 b c
theorem inj_of_nodup {α β : Type} {f : α → β} : ∀ {l : List α}, (l.map f).Nodup → ∀ a ∈ l, ∀ b ∈ l, f a = f b → a = b
 | x :: l, h, a, ha, b, hb, e => by
  rw [List.map_cons, List.nodup_cons] at h
  rcases List.mem_cons.1 ha with e1 | ha' <;> rcases List.mem_cons.1 hb with e2 | hb'
  ·rw [e1, e2]
  ·subst e1; exact absurd (e ▸ List.mem_map_of_mem hb') h.1
  ·subst e2; exact absurd (e ▸ List.mem_map_of_mem ha') h.1
  ·exact inj_of_nodup h.2 a ha' b hb' e
def cmpF (a b : Int × Int) : Int := cmpZ (a.1 * b.2) (b.1 * a.2)
theorem cmpZ_le0 {x y : Int} : cmpZ x y ≤ 0 ↔ x ≤ y := by
 unfold cmpZ; split <;> (try split) <;> constructor <;> omega
theorem cmpF_ok : CmpOk (fun a : Int × Int => 0 < a.2) cmpF := by
 refine ⟨fun x _ => cmpZ_ok.refl _ trivial, fun x y _ _ => cmpZ_ok.anti _ _ trivial trivial, fun x y z hx hy hz h1 h2 => ?_⟩
 unfold cmpF at *
 rw [cmpZ_le0] at *
 have e1 := Int.mul_le_mul_of_nonneg_right h1 (Int.le_of_lt hz)
 have e2 := Int.mul_le_mul_of_nonneg_right h2 (Int.le_of_lt hx)
 refine Int.le_of_mul_le_mul_right (a := y.2) ?_ hy
 calc x.1 * z.2 * y.2 = x.1 * y.2 * z.2 := by rw [Int.mul_right_comm]
  _ ≤ y.1 * x.2 * z.2 := e1
  _ = y.1 * z.2 * x.2 := by rw [Int.mul_right_comm]
  _ ≤ z.1 * y.2 * x.2 := e2
  _ = z.1 * x.2 * y.2 := by rw [Int.mul_right_comm]
theorem cmpC_ok : CmpOk Cn.ok cmpC := by
 have hP : ∀ c : Cn, c.ok → c.o = false → 0 < c.q ∧ 0 < c.s := by
  rintro c (⟨h1, _⟩ | ⟨_, h2⟩) h
  ·rw [h1] at h; cases h
  ·exact ⟨h2.1.1, h2.2.1.1⟩
 have k : CmpOk (fun c : Cn => c.ok ∧ c.o = false) fun a b => if cmpF (a.p, a.q) (b.p, b.q) ≠ 0 then cmpF (a.p, a.q) (b.p, b.q) else cmpF (a.r, a.s) (b.r, b.s) :=
  (cmpF_ok.pull (fun c : Cn => (c.p, c.q)) fun c h => (hP c h.1 h.2).1).or (cmpF_ok.pull (fun c : Cn => (c.r, c.s)) fun c h => (hP c h.1 h.2).2)
 have e : ∀ a b : Cn, a.o = false → b.o = false → cmpC a b = if cmpF (a.p, a.q) (b.p, b.q) ≠ 0 then cmpF (a.p, a.q) (b.p, b.q) else cmpF (a.r, a.s) (b.r, b.s) := by
  intro a b ha hb
  unfold cmpC
  rw [ha, hb]
  simp only [Bool.false_eq_true, if_false]
  exact orL2 _ _
 have t : ∀ a b : Cn, a.o = true → cmpC a b = if b.o then 0 else -1 := fun a b h => by unfold cmpC; rw [h]; rfl
 have f : ∀ a b : Cn, a.o = false → b.o = true → cmpC a b = 1 := fun a b h g => by unfold cmpC; rw [h, g]; rfl
 refine ⟨fun x hx => ?_, fun x y hx hy => ?_, fun x y z hx hy hz h1 h2 => ?_⟩
 ·cases ho : x.o with
  | true => rw [t x x ho, ho]; rfl
  | false => rw [e x x ho ho]; exact k.refl x ⟨hx, ho⟩
 ·cases ho : x.o with
  | true =>
   rw [t x y ho]
   cases hp : y.o with
   | true => rw [t y x hp, ho]; simp
   | false => rw [f y x hp ho]; simp
  | false =>
   cases hp : y.o with
   | true => rw [f x y ho hp, t y x hp, ho]; simp
   | false => rw [e x y ho hp, e y x hp ho]; exact k.anti x y ⟨hx, ho⟩ ⟨hy, hp⟩
 ·cases ho : x.o with
  | true => rw [t x z ho]; split <;> omega
  | false =>
   cases hp : y.o with
   | true => rw [f x y ho hp] at h1; omega
   | false =>
    cases hq : z.o with
    | true => rw [f y z hp hq] at h2; omega
    | false =>
     rw [e x y ho hp] at h1
     rw [e y z hp hq] at h2
     rw [e x z ho hq]
     exact k.trans x y z ⟨hx, ho⟩ ⟨hy, hp⟩ ⟨hz, hq⟩ h1 h2
theorem cmpP_or (a b : Pc) : cmpP a b = if cmpZ a.ky b.ky ≠ 0 then cmpZ a.ky b.ky else if cmpC a.c b.c ≠ 0 then cmpC a.c b.c else cmpZ a.ix b.ix := by
 exact orL3 _ _ _
theorem cmpP_ok : CmpOk (fun x : Pc => x.c.ok) cmpP :=
 ((cmpZ_ok.pull Pc.ky fun _ _ => trivial).or ((cmpC_ok.pull Pc.c fun _ h => h).or (cmpZ_ok.pull Pc.ix fun _ _ => trivial))).congr fun x y _ _ => cmpP_or x y
theorem cmpP_ix {a b : Pc} (h : cmpP a b = 0) : a.ix = b.ix ∧ a.ky = b.ky := by
 rw [cmpP_or] at h
 have z : ∀ x y : Int, cmpZ x y = 0 → x = y := fun x y h => by
  unfold cmpZ at h; split at h <;> (try split at h) <;> omega
 split at h
 ·contradiction
 ·rename_i h1
  split at h
  ·contradiction
  ·exact ⟨z _ _ h, z _ _ (by simpa using h1)⟩
def leP (a b : Pc) : Bool := decide (cmpP a b ≤ 0)
def sortP (l : List Pc) : List Pc := l.mergeSort leP
theorem sortP_perm (l : List Pc) : (sortP l).Perm l := List.mergeSort_perm _ _
theorem swoP : Go.Sort.SWO (fun x y : { x : Pc // x.c.ok } => decide (cmpP x.1 y.1 < 0)) := by
 refine ⟨fun x => ?_, fun x y z h1 h2 => ?_, fun x y z h1 h2 => ?_⟩
 ·simp [cmpP_ok.refl x.1 x.2]
 ·simp only [decide_eq_true_eq] at *
  exact cmpP_ok.lt x.2 y.2 z.2 h1 (by omega)
 ·simp only [decide_eq_false_iff_not, Int.not_lt] at *
  have h3 := (cmpP_ok.le y.2 x.2).2 h1
  have h4 := (cmpP_ok.le z.2 y.2).2 h2
  exact (cmpP_ok.le z.2 x.2).1 (cmpP_ok.trans _ _ _ z.2 y.2 x.2 h4 h3)
theorem sortP_eq {l l' : List Pc} (hc : ∀ x ∈ l, x.c.ok) (hn : (l.map Pc.ix).Nodup) (hp : l'.Perm l) (hs : l'.Pairwise fun a b => cmpP a b ≤ 0) : l' = sortP l := by
 have inj := inj_of_nodup hn
 have hm : (sortP l).Pairwise fun a b => cmpP a b ≤ 0 := by
  have key : ∀ (m : List { x : Pc // x.c.ok }), ((m.map (·.1)).mergeSort leP).Pairwise fun a b => cmpP a b ≤ 0 := by
   intro m
   have h1 := List.pairwise_mergeSort (le := fun x y : { x : Pc // x.c.ok } => leP x.1 y.1) (fun a b c h1 h2 => by
    simp only [leP, decide_eq_true_eq] at *
    exact cmpP_ok.trans _ _ _ a.2 b.2 c.2 h1 h2) (fun a b => by
    simp only [leP, Bool.or_eq_true, decide_eq_true_eq]
    have := cmpP_ok.le b.2 a.2
    omega) m
   have h2 : (m.map (·.1)).mergeSort leP = (m.mergeSort fun x y => leP x.1 y.1).map (·.1) := (List.map_mergeSort (f := fun x : { x : Pc // x.c.ok } => x.1) (fun a _ b _ => rfl)).symm
   rw [h2]
   refine List.pairwise_map.2 (h1.imp fun {a b} h => ?_)
   simpa [leP] using h
  have := key (l.attach.map fun x => ⟨x.1, hc x.1 x.2⟩)
  unfold sortP
  simpa [List.map_map, Function.comp_def] using this
 refine List.Perm.eq_of_pairwise (le := fun a b => cmpP a b ≤ 0) (fun a b ha hb h1 h2 => ?_) hs hm (hp.trans (sortP_perm l).symm)
 have ha' : a ∈ l := hp.mem_iff.1 ha
 have hb' : b ∈ l := (sortP_perm l).mem_iff.1 hb
 have h3 := (cmpP_ok.le (hc b hb') (hc a ha')).1 h2
 exact inj a ha' b hb' (cmpP_ix (by omega)).1
theorem PcOk.perm {l l' : List Pc} (h : PcOk l) (hp : l'.Perm l) : PcOk l' :=
 ⟨fun x hx => h.c x (hp.mem_iff.1 hx), fun x hx => h.ix x (hp.mem_iff.1 hx), (hp.map _).nodup_iff.2 h.nd⟩
end Go.Proofs.YtibedaeefnjjlaaGreat
namespace Go.Proofs.YtibedaeefnjjlaaGreat
open Go.RowKit Go.Ab
attribute [local go_sem] Oper.semAt_some
def pcv (x : Pc) : Value := .agg (pcVs x).toArray
set_option maxHeartbeats 4000000 in
theorem values1_it (l : List Pc) (hl : l.length ≤ 1000000) {lb : Array Value} {B0 : Nat → Prop} {W0 : World} {Z0 : Nat → Value} (hr : AV.reps Z0 B0 W0 [.rp [.sl 24 (pcs l)]] lb.toList) : Iter Tryz.prog 67 lb (l.map pcv) B0 W0 := by
 intro n yl J W hn stab hK hY h0
 have hlen : (pcs l).length = l.length := pcs_len l
 rw [AV.reps] at hr
 obtain ⟨p, us, e1, h1, h2⟩ := hr
 rw [AV.reps] at h2
 subst h2
 rw [AV.rep] at h1
 obtain ⟨ad, rfl, hlt, hnb, hrow⟩ := h1
 rw [RV.row] at hrow
 obtain ⟨⟨u, hc, hone, hu⟩, _⟩ := hrow
 have elb : lb = #[.pointer (some ad)] := by
  have := congrArg List.toArray e1
  simpa using this
 subst elb
 have hc0 : W0.cell? ad = some u := hc
 have good : ∀ B A, Kp B0 B W0 A → RV.rep B A (.sl 24 (pcs l)) u := fun B A hk => RV.rep_mono hk.up hk.old _ _ hu
 have hu' := hu
 rw [RV.rep] at hu'
 obtain ⟨sa, sc, eu, _⟩ := hu'
 rw [hlen] at eu
 clear hu hc hone e1
 obtain ⟨B, hkp, hBlt⟩ := hK 0 W h0
 have hcw : W.cell? ad = some (.slice sa l.length sc) := by rw [← eu]; exact hkp.up.cell hc0 hnb
 refine callsIn_of_wp Tryz.func67 rfl trivial ?_ rfl
 simp only [Tryz.ntmps67, List.size_toArray, List.length_cons, List.length_nil, Nat.reduceAdd, Nat.reduceSub, Array.replicate_succ, Array.replicate_zero, List.push_toArray, List.append_toArray, List.nil_append, List.cons_append]
 gi_wp2
 refine wpIn_loop (fun a w => ∃ k : Nat, k ≤ l.length ∧ J k w ∧ a.defers = [] ∧ a.tmps.size = 16 ∧ a.tmps.getD 0 undef = .func (.yield yl) #[] #[] ∧ a.tmps.getD 5 undef = u ∧ a.tmps.getD 6 undef = .int .i64 (l.length : Int) ∧ a.tmps.getD 7 undef = .int .i64 (k : Int)) (fun a _ => l.length - (intOf (a.tmps.getD 7 undef)).toNat) ⟨0, Nat.zero_le _, h0, rfl, rfl, rfl, by rw [eu]; rfl, rfl, rfl⟩ ?_
 clear hcw hkp hBlt h0
 rintro a w1 ⟨k, hk, hJ, hd, hsz, t0, t5, t6, t7⟩
 obtain ⟨B1, kp1, lt1⟩ := hK k w1 hJ
 have hg := good _ _ kp1
 have s1 : Sim ⟨Tryz.prog, w1, B1, Z0, ⟨0, 0⟩, 16, []⟩ ⟨[(0, .r (.v (.func (.yield yl) #[] #[]))), (5, .r (.sl 24 (pcs l))), (6, .r (.v (.int .i64 (l.length : Int)))), (7, .r (.v (.int .i64 (k : Int))))], [], 0⟩ a w1 := by
  refine sim_ro lt1 hsz hd (by intro p hp; simp only [List.mem_cons, List.not_mem_nil, or_false] at hp; rcases hp with rfl | rfl | rfl | rfl <;> rfl) ?_
  intro p hp
  simp only [List.mem_cons, List.not_mem_nil, or_false] at hp
  rcases hp with rfl | rfl | rfl | rfl
  ·show AV.rep _ _ _ _ (a.tmps.getD 0 undef); rw [t0, AV.rep, RV.rep]
  ·show AV.rep _ _ _ _ (a.tmps.getD 5 undef); rw [t5, AV.rep]; exact hg
  ·show AV.rep _ _ _ _ (a.tmps.getD 6 undef); rw [t6, AV.rep, RV.rep]
  ·show AV.rep _ _ _ _ (a.tmps.getD 7 undef); rw [t7, AV.rep, RV.rep]
 have F0 := fok_wide Tryz.prog n
 by_cases hlt2 : k < l.length
 ·obtain ⟨x, hx⟩ : ∃ x, l[k]? = some x := ⟨_, List.getElem?_eq_getElem hlt2⟩
  have hgx := pcs_get hx
  refine wpIn_seq ?_
  refine region_use (fun S' => Le ⟨0, 0⟩ S' ⟨[(0, .r (.v (.func (.yield yl) #[] #[]))), (5, .r (.sl 24 (pcs l))), (6, .r (.v (.int .i64 (l.length : Int)))), (7, .r (.v (.int .i64 (k : Int)))), (8, .r (.v (.bool true)))], [], 0⟩) F0 rfl s1 ?_ ?_
  ·(repeat' (first | refine r_95e112 ?_ | (refine r_0efca5 (fun hb => ?_) (fun hb => ?_) <;> (try (exfalso; omega))) | fail))
   all_goals exact by (refine Le.mk [] [] q_5ec36 q_43730 q_bbfed q_509a2)
  intro S2 a2 w2 hle2 hs2 pr2
  have s2 := hle2 _ _ _ rfl hs2
  show Code.wpIn Fence.wide n Tryz.prog _ _ a2 w2
  refine wpIn_seq (wpIn_cond_true (sim_v s2 (t := 8) rfl) (wpIn_skip ?_))
  show Code.wpIn Fence.wide n Tryz.prog _ _ a2 w2
  refine wpIn_seq (wpIn_block (wpIn_seq ?_))
  refine region_use (fun S' => Le ⟨0, 0⟩ S' ⟨[(0, .r (.v (.func (.yield yl) #[] #[]))), (5, .r (.sl 24 (pcs l))), (6, .r (.v (.int .i64 (l.length : Int)))), (7, .r (.v (.int .i64 (k : Int)))), (4, .pt 0 0)], [(0, some (.var 42 (vsA (pcVs x))))], 1⟩) F0 rfl s2 ?_ ?_
  ·(repeat' (first | refine r_95e112 ?_ | (refine r_0efca5 (fun hb => ?_) (fun hb => ?_) <;> (try (exfalso; omega))) | fail))
   all_goals exact by (refine Le.mk [] [] q_5ec36 q_43730 q_bbfed q_509a2)
  intro S3 a3 w3 hle3 hs3 pr3
  have s3 := hle3 _ _ _ rfl hs3
  show Code.wpIn Fence.wide n Tryz.prog _ _ a3 w3
  refine wpIn_seq (wpIn_region_lit ?_)
  refine list_use (l := [_, _]) (rest := [_, _]) (Q0 := fun S' => Le ⟨0, 0⟩ S' ⟨[(0, .r (.v (.func (.yield yl) #[] #[]))), (5, .r (.sl 24 (pcs l))), (6, .r (.v (.int .i64 (l.length : Int)))), (7, .r (.v (.int .i64 (k : Int)))), (11, .r (.v (.func (.yield yl) #[] #[]))), (12, pcA x)], [], 0⟩) (chk := fun _ => true) F0 (by rfl) _ [] _ _ s3 ?_ ?_
  ·(repeat' (first | refine r_95e112 ?_ | (refine r_0efca5 (fun hb => ?_) (fun hb => ?_) <;> (try (exfalso; omega))) | fail))
   all_goals exact by (refine Le.mk [] [] q_5ec36 q_43730 q_bbfed q_509a2)
  intro S4 a4 w4 hle4 hs4 pr4
  have s4 := hle4 _ _ _ rfl hs4
  refine op_yield (v := pcv x) rfl rfl (sim_v s4 (t := 11) rfl) (sim_ag s4 (t := 12) (vs := pcVs x) rfl) (fun _ => hn) (fun _ => trivial) (hY k (pcv x) w4 (stab k w1 w4 hJ (sim_below s4)) (by rw [List.getElem?_map, hx]; rfl)) ?_
  rintro e w5 ⟨rfl, hJ5⟩
  refine ⟨_, rfl, ?_⟩
  obtain ⟨z4, d4⟩ := sim_size s4
  have z5 : (a4.put (some 13) (.bool true)).tmps.size = 16 := by show (a4.tmps.setIfInBounds 13 _).size = 16; simpa using z4
  have d5 : (a4.put (some 13) (.bool true)).defers = [] := d4
  have t13 : (a4.put (some 13) (.bool true)).tmps.getD 13 undef = .bool true := put_eq (by rw [z4]; show 13 < 16; omega)
  have tr : ∀ t, (t = 0 ∨ t = 5 ∨ t = 6 ∨ t = 7) → (a4.put (some 13) (.bool true)).tmps.getD t undef = a.tmps.getD t undef := by
   intro t ht
   rw [put_ne (by rintro ⟨⟩; omega), pr4 t (by rcases ht with rfl | rfl | rfl | rfl <;> simp), pr3 t (by rcases ht with rfl | rfl | rfl | rfl <;> simp), pr2 t (by rcases ht with rfl | rfl | rfl | rfl <;> simp)]
  obtain ⟨B5, kp5, lt5⟩ := hK (k + 1) w5 hJ5
  have hg5 := good _ _ kp5
  have s5 : Sim ⟨Tryz.prog, w5, B5, Z0, ⟨0, 0⟩, 16, []⟩ ⟨[(0, .r (.v (.func (.yield yl) #[] #[]))), (5, .r (.sl 24 (pcs l))), (6, .r (.v (.int .i64 (l.length : Int)))), (7, .r (.v (.int .i64 (k : Int)))), (13, .r (.v (.bool true)))], [], 0⟩ (a4.put (some 13) (.bool true)) w5 := by
   refine sim_ro lt5 z5 d5 (by intro p hp; simp only [List.mem_cons, List.not_mem_nil, or_false] at hp; rcases hp with rfl | rfl | rfl | rfl | rfl <;> rfl) ?_
   intro p hp
   simp only [List.mem_cons, List.not_mem_nil, or_false] at hp
   rcases hp with rfl | rfl | rfl | rfl | rfl
   ·show AV.rep _ _ _ _ ((a4.put (some 13) (.bool true)).tmps.getD 0 undef); rw [tr 0 (by simp), t0, AV.rep, RV.rep]
   ·show AV.rep _ _ _ _ ((a4.put (some 13) (.bool true)).tmps.getD 5 undef); rw [tr 5 (by simp), t5, AV.rep]; exact hg5
   ·show AV.rep _ _ _ _ ((a4.put (some 13) (.bool true)).tmps.getD 6 undef); rw [tr 6 (by simp), t6, AV.rep, RV.rep]
   ·show AV.rep _ _ _ _ ((a4.put (some 13) (.bool true)).tmps.getD 7 undef); rw [tr 7 (by simp), t7, AV.rep, RV.rep]
   ·show AV.rep _ _ _ _ ((a4.put (some 13) (.bool true)).tmps.getD 13 undef); rw [t13, AV.rep, RV.rep]
  refine list_end (fun S' => Le ⟨0, 0⟩ S' ⟨[(0, .r (.v (.func (.yield yl) #[] #[]))), (5, .r (.sl 24 (pcs l))), (6, .r (.v (.int .i64 (l.length : Int)))), (7, .r (.v (.int .i64 (k : Int)))), (14, .r (.v (.bool false)))], [], 0⟩) F0 rfl s5 ?_ ?_
  ·(repeat' (first | refine r_95e112 ?_ | (refine r_0efca5 (fun hb => ?_) (fun hb => ?_) <;> (try (exfalso; omega))) | fail))
   all_goals exact by (refine Le.mk [] [] q_5ec36 q_43730 q_bbfed q_509a2)
  intro S6 a6 w6 hle6 hs6 pr6
  have s6 := hle6 _ _ _ rfl hs6
  show Code.wpIn Fence.wide n Tryz.prog _ _ a6 w6
  refine wpIn_cond_false (sim_v s6 (t := 14) rfl) (wpIn_skip ?_)
  show Code.wpIn Fence.wide n Tryz.prog _ _ a6 w6
  have hw : IntKind.i64.wrap ((k : Int) + 1) = ((k + 1 : Nat) : Int) := nat_incI k (by omega)
  refine region_use (fun S' => Le ⟨0, 0⟩ S' ⟨[(0, .r (.v (.func (.yield yl) #[] #[]))), (6, .r (.v (.int .i64 (l.length : Int)))), (7, .r (.v (.int .i64 ((k + 1 : Nat) : Int))))], [], 0⟩) F0 rfl s6 ?_ ?_
  ·(repeat' (first | refine r_95e112 ?_ | (refine r_0efca5 (fun hb => ?_) (fun hb => ?_) <;> (try (exfalso; omega))) | fail))
   all_goals exact by (refine Le.mk [] [] q_5ec36 q_43730 q_bbfed q_509a2)
  intro S7 a7 w7 hle7 hs7 pr7
  have s7 := hle7 _ _ _ rfl hs7
  obtain ⟨z7, d7⟩ := sim_size s7
  have h7 := sim_v s7 (t := 7) rfl
  refine ⟨⟨k + 1, by omega, stab _ _ _ hJ5 (sim_below s7), d7, z7, sim_v s7 rfl, ?_, sim_v s7 rfl, h7⟩, ?_⟩
  ·rw [pr7 5 (by simp), pr6 5 (by simp), tr 5 (by simp)]; exact t5
  ·show l.length - (intOf (a7.tmps.getD 7 undef)).toNat < l.length - (intOf (a.tmps.getD 7 undef)).toNat
   rw [h7, t7]
   simp only [intOf]
   omega
 ·have hke : k = l.length := by omega
  refine wpIn_seq ?_
  refine region_use (fun S' => Le ⟨0, 0⟩ S' ⟨[(8, .r (.v (.bool false)))], [], 0⟩) F0 rfl s1 ?_ ?_
  ·(repeat' (first | refine r_95e112 ?_ | (refine r_0efca5 (fun hb => ?_) (fun hb => ?_) <;> (try (exfalso; omega))) | fail))
   all_goals exact by (refine Le.mk [] [] q_5ec36 q_43730 q_bbfed q_509a2)
  intro S2 a2 w2 hle2 hs2 pr2
  have s2 := hle2 _ _ _ rfl hs2
  obtain ⟨z2, d2⟩ := sim_size s2
  show Code.wpIn Fence.wide n Tryz.prog _ _ a2 w2
  refine wpIn_seq (wpIn_cond_false (sim_v s2 (t := 8) rfl) (wpIn_exit ?_))
  refine ⟨d2, _, results_none rfl _ _ _, ⟨_, rfl⟩, ?_⟩
  rw [List.length_map, ← hke]
  exact stab _ _ _ hJ (sim_below s2)
end Go.Proofs.YtibedaeefnjjlaaGreat
namespace Go.Proofs.YtibedaeefnjjlaaGreat
open Go.RowKit Go.Ab
attribute [local go_sem] Oper.semAt_some
def itA (l : List Pc) : AV := .cl 67 [.rp [.sl 24 (pcs l)]]
theorem rep_sl_one {B : Nat → Prop} {w : World} {sz : Nat} {es : List (List RV)} {u : Value} (h : RV.rep B w (.sl sz es) u) : u.oneCell' = true := by
 rw [RV.rep] at h
 obtain ⟨A, c, rfl, _⟩ := h
 rfl
set_option maxHeartbeats 1000000 in
theorem values_m (l : List Pc) : Meets Tryz.prog 35 [.r (.sl 24 (pcs l))] [] (itA l) [] := by
 refine meets_raw (fun _ => rfl) fun w Z M us hM hr => ?_
 rw [AV.reps] at hr
 obtain ⟨u, us', rfl, h1, h2⟩ := hr
 rw [AV.reps] at h2
 subst h2
 rw [AV.rep] at h1
 have ho := rep_sl_one h1
 have key : CallsIn Fence.wide 1 Tryz.prog 35 #[u] w fun e w' => e = .returned (.func (.func 67) #[] #[.pointer (some ⟨w.heap.size, 0, none⟩)]) ∧ w' = w.alloc (.cells #[u] 22) := by
  obtain ⟨A, c, rfl, _⟩ : ∃ A c, u = .slice A (pcs l).length c ∧ True := by
   rw [RV.rep] at h1; obtain ⟨A, c, e, _⟩ := h1; exact ⟨A, c, e, trivial⟩
  refine callsIn_of_wp Tryz.func35 rfl trivial ?_ rfl
  simp only [Tryz.ntmps35, List.size_toArray, List.length_cons, List.length_nil, Nat.reduceAdd, Nat.reduceSub, Array.replicate_succ, Array.replicate_zero, List.push_toArray, List.append_toArray, List.nil_append, List.cons_append]
  gi_wp2
  go_ret
  exact ⟨rfl, rfl⟩
 refine Calls.mono (callsIn_wide.1 key) ?_
 rintro e w' ⟨rfl, rfl⟩
 have hb : Below w.heap.size w (w.alloc (.cells #[u] 22)) := (Below.refl _ _).alloc (Nat.le_refl _) _
 refine ⟨_, rfl, hb, ?_⟩
 unfold itA
 rw [AV.rep]
 refine ⟨_, rfl, ?_⟩
 rw [AV.reps]
 refine ⟨_, [], rfl, ?_, by rw [AV.reps]⟩
 rw [AV.rep]
 refine ⟨_, rfl, by simp, fun h => ?_, ?_⟩
 ·have := hM _ h
  exact absurd this (Nat.lt_irrefl _)
 ·rw [RV.row]
  refine ⟨⟨u, cell_one_new _ _ _ 0 u rfl, ho, RV.rep_mono (Upto.of_below hb) (fun _ _ h => h) _ _ h1⟩, by rw [RV.row]; trivial⟩
theorem vsA_reps {Z : Nat → Value} {B : Nat → Prop} {w : World} : ∀ vs : List Value, AV.reps Z B w (vsA vs) vs
 | [] => by show AV.reps Z B w [] []; rw [AV.reps]
 | v :: vs => by
  show AV.reps Z B w (.r (.v v) :: vsA vs) (v :: vs)
  rw [AV.reps]
  exact ⟨v, vs, rfl, by rw [AV.rep, RV.rep], vsA_reps vs⟩
def asH (l : List Pc) (k : Nat) : List (Nat × Option Blk) := [(0, some (.var 22 [.ow 1])), (1, some (.row 42 24 (pcs (l.take k))))]
theorem pcA_ids (x : Pc) : (pcA x).ids = [] := by
 obtain ⟨ix, ct, ky, o, p, q, r, s⟩ := x
 rfl
set_option maxHeartbeats 4000000 in
theorem appendSeq_m (l : List Pc) (hl : l.length ≤ 1000000) : Meets Tryz.prog 96 [.r (.v (.slice none 0 0)), itA l] [] (.fr 42 24 (pcs l)) [] := by
 have hlen : (pcs l).length = l.length := pcs_len l
 refine fn_ofM (n := 4) Tryz.func96 rfl (Nat.le_of_ble_eq_true rfl) rfl fun C a w hP hC hN hdf hs => ?_
 have hN' : C.N = 13 := hN
 have h00 : ([] : List (List RV)) = pcs (l.take 0) := rfl
 refine wpIn_seq (wp_awp (Q := fun e S' => e = .normal ∧ Le ⟨0, 0⟩ S' ⟨[(1, itA l), (2, .pt 0 0)], [(0, some (.var 22 [.r (.v (.slice none 0 0))]))], 1⟩) hP hC hs ?_ ?_)
 ·rw [hN']
  unfold itA
  (repeat' (first | refine r_95e112 ?_ | (refine r_0efca5 (fun hb => ?_) (fun hb => ?_) <;> (try (exfalso; omega))) | fail))
  exact ⟨rfl, by (refine Le.mk [] [] q_5ec36 q_871b6 q_bbfed q_509a2)⟩
 rintro e S1 a1 w1 ⟨rfl, hle1⟩ hs1
 have s1 : Sim C ⟨[(1, itA l), (2, .pt 0 0)], [(0, some (.var 22 [.ow 1])), (1, some (.row 42 24 [])), (0, some (.var 22 [.r (.v (.slice none 0 0))]))], 2⟩ a1 w1 := (hle1 C _ _ hC hs1).nilvar (T' := 42) (sz := 24) (i := 0) rfl
 show Code.wpIn Fence.wide 4 Tryz.prog _ _ a1 w1
 refine wpIn_seq (wpIn_seq (wp_awp (Q := fun e S' => e = .normal ∧ Le ⟨0, 0⟩ S' ⟨[(2, .pt 0 0), (6, itA l)], asH l 0, 2⟩) hP hC s1 ?_ ?_))
 ·rw [hN']
  unfold itA
  (repeat' (first | refine r_95e112 ?_ | (refine r_0efca5 (fun hb => ?_) (fun hb => ?_) <;> (try (exfalso; omega))) | fail))
  exact ⟨rfl, by (refine Le.mk [] [] q_5ec36 q_871b6 q_bbfed q_509a2)⟩
 rintro e S2 a2 w2 ⟨rfl, hle2⟩ hs2
 obtain ⟨Z2, K2, s2⟩ := SimK.of_sim (hle2 C _ _ hC hs2)
 show Code.wpIn Fence.wide 4 Tryz.prog _ _ a2 w2
 have sl := s2.sim.slots 6
 have sl' : AV.rep Z2 (Go.Ab.Own C (famH K2 (St.HF ⟨[(2, .pt 0 0), (6, itA l)], asH l 0, 2⟩) []) Z2) w2 (itA l) (a2.tmps.getD 6 undef) := sl
 unfold itA at sl'
 rw [AV.rep] at sl'
 obtain ⟨lb, e6, hlb⟩ := sl'
 refine wpIn_block (range_it (n := 4) (E := [(2, .pt 0 0), (6, itA l)]) (H := asH l) (nx := 2) (F := []) 1 (vs := l.map pcv) (avs := l.map pcA) hP hC hdf s2 (by rw [hN']; decide) (by omega) (by omega) ?hE e6 (enters_of Tryz.func67 (by kernel_rfl) rfl) (values1_it l hl hlb) ?hav ?hf0 ?hround ?hdone)
 case hE =>
  intro t i hi
  rcases get_mem (l := [(2, AV.pt 0 0), (6, itA l)]) (t := t) with e | e
  ·rw [e] at hi; cases hi
  ·simp only [List.mem_cons, List.not_mem_nil, or_false, Prod.mk.injEq] at e
   rcases e with ⟨_, e⟩ | ⟨_, e⟩ <;> rw [e] at hi <;> simp [itA, AV.ids, AV.idss] at hi <;> omega
 case hav =>
  intro k v hv
  rw [List.getElem?_map, Option.map_eq_some_iff] at hv
  obtain ⟨x, hx, rfl⟩ := hv
  refine ⟨pcA x, by rw [List.getElem?_map, hx]; rfl, pcA_ids x, ?_⟩
  unfold pcA pcv
  rw [AV.rep]
  exact ⟨_, rfl, by simpa using vsA_reps (pcVs x)⟩
 case hf0 =>
  intro k _
  rfl
 case hround =>
  intro k c hk hc F m hF
  rw [List.length_map] at hk
  rw [List.getElem?_map, Option.map_eq_some_iff] at hc
  obtain ⟨x, hx, rfl⟩ := hc
  rw [hN']
  unfold itA asH
  refine awpIn_text hF ?_
  have hE : pcs (l.take k) ++ [(pcVs x).map RV.v] = pcs (l.take (k + 1)) := by
   unfold pcs
   rw [List.take_add_one, hx, List.map_append]; rfl
  have hlk : (pcs (l.take k)).length = k := by rw [pcs_len, List.length_take]; omega
  (repeat' (first | refine r_95e112 ?_ | (refine r_0efca5 (fun hb => ?_) (fun hb => ?_) <;> (try (exfalso; omega))) | fail))
  refine ⟨rfl, rfl, fun F m hF => ?_⟩
  refine awpIn_block (awpIn_text hF ?_)
  (repeat' (first | refine r_95e112 ?_ | (refine r_0efca5 (fun hb => ?_) (fun hb => ?_) <;> (try (exfalso; omega))) | fail))
  show Exit.normal = Exit.normal ∧ _
  exact ⟨rfl, [(1, 4)], rfl, hl_var (hl_row hl_nil hE rfl) (cfl_ow .nil rfl) rfl, fun i hi => by
   have : i = 0 := by omega
   subst this
   rfl⟩
 case hdone =>
  intro D Z' K' W' hS
  show Code.wpIn Fence.wide 4 Tryz.prog (Code.seq _ _) _ _ _
  have e9 : asH l (l.map pcv).length = [(0, some (.var 22 [.ow 1])), (1, some (.row 42 24 (pcs l)))] := by
   unfold asH
   rw [List.length_map, List.take_length]
  rw [e9] at hS
  refine wp_awpX (C := { C with df := [{ target := .collected D, args := #[] }] }) (Q := fun e S' => (e = .normal ∨ e = .ret) ∧ RetOk Tryz.prog ⟨0, 0⟩ Tryz.f96 S' (.fr 42 24 (pcs l)) []) hP hC rfl hS ?_ ?_
  ·show awp _ _ C.N _ _ _
   rw [hN']
   unfold itA
   (repeat' (first | refine r_95e112 ?_ | (refine r_0efca5 (fun hb => ?_) (fun hb => ?_) <;> (try (exfalso; omega))) | fail))
   exact ret1 [] (.fr 1 _ _ _ rfl) rfl rfl rfl
  ·rintro e S' a' w' Z'' K'' ⟨h1, h2⟩ h3
   exact ⟨h1, S', D, Z'', K'', h2, h3⟩
set_option maxHeartbeats 1000000 in
theorem collect_m (l : List Pc) (hl : l.length ≤ 1000000) : Meets Tryz.prog 65 [itA l] [] (.fr 42 24 (pcs l)) [] := by
 have cA := appendSeq_m l hl
 refine fn_of Tryz.func65 rfl (Nat.le_of_ble_eq_true rfl) rfl rfl ?_
 unfold itA at *
 (repeat' (first | refine r_95e112 ?_ | (refine is_f 96 ?_; refine r_e7cc0f (cA) ?_) | (refine r_0efca5 (fun hb => ?_) (fun hb => ?_) <;> (try (exfalso; omega))) | fail))
 exact ret1 [] (.fr 0 _ _ _ rfl) rfl rfl rfl
end Go.Proofs.YtibedaeefnjjlaaGreat
namespace Go.Proofs.YtibedaeefnjjlaaGreat
open Go.RowKit Go.Ab
theorem holds_of {β : Type} [Inhabited β] (e : β → Value) {w : World} {g T : Nat} {cur : Array Value} {D : Array β} (hg : w.heap[g]? = some (.cells cur T (0, 0))) (ht : cur.toList.take D.size = D.toList.map e) : Go.Sort.Holds e w g 0 D := by
 intro j hj
 have h1 : (cur.toList.take D.size)[j]? = some (e D[j]!) := by
  rw [ht, List.getElem?_map, getElem!_pos D j hj]
  simp [hj]
 rw [List.getElem?_take_of_lt hj] at h1
 have h2 : cur[j]? = some (e D[j]!) := by simpa using h1
 constructor
 ·simp only [World.cell?, hg, Nat.zero_add]
  simpa using h2
 ·simp [World.frozen?, hg]
theorem flatK_toList {α : Type} [Inhabited α] (enc : α → List Value) {k : Nat} (hk : ∀ x, (enc x).length = k) (d : Array α) : (Go.Sort.flatK enc k d).toList = (d.toList.map enc).flatten := by
 have hk' : ∀ e ∈ d.toList.map enc, e.length = k := fun e he => by
  obtain ⟨x, _, rfl⟩ := List.mem_map.1 he; exact hk x
 apply List.ext_getElem?
 intro t
 rcases Nat.lt_or_ge t (d.size * k) with h | h
 ·have hkp : 0 < k := by
   rcases Nat.eq_zero_or_pos k with h0 | h0
   ·subst h0; simp at h
   ·exact h0
  have hq : t / k < d.size := (Nat.div_lt_iff_lt_mul hkp).2 h
  have hr : t % k < k := Nat.mod_lt _ hkp
  have e1 : (d.toList.map enc)[t / k]? = some (enc d[t / k]!) := by
   rw [List.getElem?_map, getElem!_pos d _ hq]; simp [hq]
  have e2 : (enc d[t / k]!)[t % k]? = some (enc d[t / k]!)[t % k]! := by
   rw [getElem!_pos (enc d[t / k]!) _ (by rw [hk]; exact hr)]
   simp [hk, hr]
  have e3 := flat_get hk' e1 e2
  rw [show t / k * k + t % k = t by rw [Nat.mul_comm]; exact Nat.div_add_mod t k] at e3
  rw [e3]
  have : (Go.Sort.flatK enc k d)[t]? = some (Go.Sort.flatK enc k d)[t]! := by
   rw [getElem!_pos (Go.Sort.flatK enc k d) t (by simpa using h)]
   simp [h]
  rw [Array.getElem?_toList, this, Go.Sort.get_flatK enc k d t h]
 ·rw [List.getElem?_eq_none (by simpa using h), List.getElem?_eq_none (by rw [flatten_len k _ hk']; simpa using h)]
def sortZ (l : List Int) : List Int := l.mergeSort fun x y => decide (x ≤ y)
theorem nums_raw (k : IntKind) (l : List Int) : nums k l = rawR (l.map fun z => [Value.int k z]) := by simp [nums, rawR]
theorem flat_ones (k : IntKind) (l : List Int) : (l.map fun z => [Value.int k z]).flatten = l.map (Value.int k) := by
 induction l with
 | nil => rfl
 | cons x l ih => rw [List.map_cons, List.flatten_cons, ih]; rfl
theorem sortI_m (zs : List Int) (hl : zs.length ≤ 1000000) : Meets Tryz.prog 38 [.ow 0] [.row 3 1 (nums .i64 zs)] (.tu []) [some (.row 3 1 (nums .i64 (sortZ zs)))] := by
 rw [nums_raw, nums_raw]
 refine meets_sort (rest := []) ((List.mergeSort_perm _ _).map _) (fun h w Z M us hr => ?_) (fun w Z M us g cap cur hr hg hnc hcm hcs ht => ?_)
 ·rw [AV.reps] at hr
  subst hr
  refine Calls.mono (Tryz.slices_Sort_int_none none 0 w) ?_
  rintro e w' ⟨rfl, rfl⟩
  exact ⟨rfl, Below.refl _ _⟩
 ·rw [AV.reps] at hr
  subst hr
  rw [flat_ones] at ht
  rw [List.length_map] at *
  rw [Nat.mul_one] at *
  have hH : Go.Sort.Holds (Value.int .i64) w g 0 zs.toArray := holds_of _ hg (by simpa using ht)
  refine Calls.mono (Tryz.slices_Sort_int g 0 cap zs w hH (heap_lt hg) (by omega)) ?_
  rintro e w' ⟨rfl, n, os, rfl⟩
  have hml : (sortZ zs).length = zs.length := (List.mergeSort_perm _ _).length_eq
  obtain ⟨cur', q1, q2, q3, q4⟩ := cells_sorted (Value.int .i64) (n := n) (D := (sortZ zs).toArray) (os := os) hg (by simp [hml]; omega)
  refine ⟨rfl, cur', q1, q2, ?_, q4⟩
  rw [flat_ones]
  simpa [hml] using q3
abbrev Pk := { x : Pc // x.c.ok }
instance : Inhabited Pk := ⟨⟨⟨0, 0, 0, ⟨true, 0, 0, 0, 0⟩⟩, .inl ⟨rfl, rfl, rfl, rfl, rfl⟩⟩⟩
theorem world_grow {W w' : World} (h : Upto (fun _ => False) W w') (hd : W.drawn ≤ w'.drawn) : ∃ q os', w' = Go.Sort.grow (W.drewN q) os' := by
 refine ⟨w'.drawn - W.drawn, w'.heap.extract W.heap.size w'.heap.size, ?_⟩
 obtain ⟨h1, h2, h3, h4, h5⟩ := h
 obtain ⟨heap, tape, drawn, os, output⟩ := w'
 obtain ⟨heap0, tape0, drawn0, os0, output0⟩ := W
 simp only at h1 h2 h3 h4 h5 hd
 subst h1 h2 h3
 unfold Go.Sort.grow World.drewN
 simp only [World.mk.injEq, true_and, and_true]
 refine ⟨?_, by omega⟩
 apply Array.ext_getElem?
 intro k
 rcases Nat.lt_or_ge k heap0.size with h | h
 ·rw [Array.getElem?_append_left h]; exact h5 k h fun h => h
 ·rw [Array.getElem?_append_right h, Array.getElem?_extract]
  simp only [Nat.min_self]
  split
  ·congr 1; omega
  ·rw [Array.getElem?_eq_none (by omega)]
theorem pcVs_len (x : Pc) : (pcVs x).length = 24 := by
 obtain ⟨ix, ct, ky, o, p, q, r, s⟩ := x
 rfl
theorem pcVs_one (x : Pc) : ∀ v ∈ pcVs x, v.oneCell' = true := by
 obtain ⟨ix, ct, ky, o, p, q, r, s⟩ := x
 have : (pcVs ⟨ix, ct, ky, o, p, q, r, s⟩).all (·.oneCell') = true := rfl
 exact List.all_eq_true.1 this
theorem pcA_rep {Z : Nat → Value} {B : Nat → Prop} {w : World} (x : Pc) : AV.rep Z B w (pcA x) (pcv x) := by
 unfold pcA pcv
 rw [AV.rep]
 exact ⟨_, rfl, by simpa using vsA_reps (pcVs x)⟩
theorem cmpLays (blk n : Nat) (w : World) : Go.Proofs.CmpLays Tryz.prog 36 #[] (fun x : Pk => pcVs x.1) 24 (fun x y => cmpP x.1 y.1) blk 0 n w := by
 intro m os dk hs x y
 have h := compareP_m x.1 y.1 x.2 y.2 (sortWorldK (fun x : Pk => pcVs x.1) 24 w blk 0 m dk os) (fun _ => undef) (fun _ => False) 0 [pcv x.1, pcv y.1] (fun _ h => h.elim) (Nat.le_refl _) (by
  rw [AV.reps]; refine ⟨_, _, rfl, pcA_rep _, ?_⟩
  rw [AV.reps]; exact ⟨_, _, rfl, pcA_rep _, by rw [AV.reps]⟩) (fun i b h => (nomatch h)) (fun i j b c h => (nomatch h))
 refine Calls.mono (Go.Dr.calls_d h fun e w' ⟨v, hv, _⟩ => ⟨v, hv⟩) ?_
 rintro e w' ⟨⟨v, rfl, Z', hA⟩, hd⟩
 have hv : v = .int .i64 (cmpP x.1 y.1) := by
  have := hA.out
  rw [show (callSp 0 [] (.r (.v (.int .i64 (cmpP x.1 y.1)))) []).out = .r (.v (.int .i64 (cmpP x.1 y.1))) from rfl, AV.rep, RV.rep] at this
  exact this
 subst hv
 exact ⟨rfl, world_grow (hA.upto.mono fun k _ ⟨i, o, h, _⟩ => (nomatch h)) hd⟩
end Go.Proofs.YtibedaeefnjjlaaGreat
namespace Go.Proofs.YtibedaeefnjjlaaGreat
open Go.RowKit Go.Ab
def cpF : AV := .r (.v (.func (.func 36) #[] #[]))
attribute [local go_sem] Oper.semAt_some
theorem insNil (n : Nat) (cb : Value) (w : World) : CallsIn Fence.wide n Tryz.prog 131 #[.slice none 0 0, .int .i64 0, .int .i64 0, cb] w fun e w' => e = .returned (.tuple #[]) ∧ w' = w := by
 refine callsIn_of_wp Tryz.func131 rfl trivial ?_ rfl
 simp only [Tryz.ntmps131, List.size_toArray, List.length_cons, List.length_nil, Nat.reduceAdd, Nat.reduceSub, Array.replicate_succ, Array.replicate_zero, List.push_toArray, List.append_toArray, List.nil_append, List.cons_append]
 gi_wp2
 refine wpIn_loop_once ?_
 gi_wp2
 go_end0
 exact ⟨rfl, rfl⟩
theorem pdqNil (n : Nat) (cb : Value) (w : World) : CallsIn Fence.wide n Tryz.prog 97 #[.slice none 0 0, .int .i64 0, .int .i64 0, .int .i64 0, cb] w fun e w' => e = .returned (.tuple #[]) ∧ w' = w := by
 refine callsIn_of_wp Tryz.func97 rfl trivial ?_ rfl
 simp only [Tryz.ntmps97, List.size_toArray, List.length_cons, List.length_nil, Nat.reduceAdd, Nat.reduceSub, Array.replicate_succ, Array.replicate_zero, List.push_toArray, List.append_toArray, List.nil_append, List.cons_append]
 gi_wp2
 refine wpIn_loop_once ?_
 gi_wp2
 refine ⟨trivial, (fun h => nomatch h), (insNil _ cb w).mono ?_⟩
 rintro e w' ⟨rfl, rfl⟩
 gi_wp2
 exact bodyPost_ret (results_none rfl _ _ _) rfl ⟨rfl, rfl⟩
theorem sortNil (n : Nat) (cb : Value) (w : World) : CallsIn Fence.wide n Tryz.prog 66 #[.slice none 0 0, cb] w fun e w' => e = .returned (.tuple #[]) ∧ w' = w := by
 have hB : Calls Tryz.prog 74 #[.int .u64 0] w fun e w' => e = .returned (.int .i64 0) ∧ w' = w := (Tryz.bits_Len 0 w (by omega) (by omega)).mono fun e w' h => ⟨h.1, h.2⟩
 refine callsIn_of_wp Tryz.func66 rfl trivial ?_ rfl
 simp only [Tryz.ntmps66, List.size_toArray, List.length_cons, List.length_nil, Nat.reduceAdd, Nat.reduceSub, Array.replicate_succ, Array.replicate_zero, List.push_toArray, List.append_toArray, List.nil_append, List.cons_append]
 gi_wp2
 refine ⟨trivial, (fun h => nomatch h), (callsIn_wide.2 hB).mono ?_⟩
 rintro e w' ⟨rfl, rfl⟩
 gi_wp2
 refine ⟨trivial, (fun h => nomatch h), (pdqNil _ cb _).mono ?_⟩
 rintro e w' ⟨rfl, rfl⟩
 gi_wp2
 go_end0
 exact ⟨rfl, rfl⟩
theorem sortPc_m (l : List Pc) (hl : l.length ≤ 1000000) (h : PcOk l) : Meets Tryz.prog 66 [.ow 0, cpF] [.row 42 24 (pcs l)] (.tu []) [some (.row 42 24 (pcs (sortP l)))] := by
 have e0 : ∀ m : List Pc, pcs m = rawR (m.map pcVs) := fun m => by simp [pcs, rawR]
 rw [e0, e0]
 refine meets_sort (rest := [cpF]) ((sortP_perm l).map _) (fun h w Z M us hr => ?_) (fun w Z M us g cap cur hr hg hnc hcm hcs ht => ?_)
 ·rw [AV.reps] at hr
  obtain ⟨u, us', rfl, h1, h2⟩ := hr
  rw [AV.reps] at h2
  subst h2
  refine Calls.mono (callsIn_wide.1 (sortNil 9 u w)) ?_
  rintro e w' ⟨rfl, rfl⟩
  exact ⟨rfl, Below.refl _ _⟩
 ·rw [AV.reps] at hr
  obtain ⟨u, us', rfl, h1, h2⟩ := hr
  rw [AV.reps] at h2
  subst h2
  rw [cpF, AV.rep, RV.rep] at h1
  subst h1
  rw [List.length_map] at *
  let d : Array Pk := (l.attach.map fun x => (⟨x.1, h.c x.1 x.2⟩ : Pk)).toArray
  have hd : d.toList.map (·.1) = l := by simp [d, List.map_map, Function.comp_def]
  have hds : d.size = l.length := by simp [d]
  have hflat : ∀ d : Array Pk, (Go.Sort.flatK (fun x : Pk => pcVs x.1) 24 d).toList = ((d.toList.map (·.1)).map pcVs).flatten := fun d => by
   rw [flatK_toList (fun x : Pk => pcVs x.1) (fun x => pcVs_len x.1), List.map_map]; rfl
  have hH : Go.Sort.HoldsK (fun x : Pk => pcVs x.1) 24 w g 0 d := by
   refine holds_of id hg ?_
   rw [hflat, hd, Go.Sort.size_flatK, hds, ht, List.map_id]
  refine Calls.mono (hds ▸ Tryz.slices_SortFunc_pc (fun x : Pk => pcVs x.1) (fun x => pcVs_len x.1) (fun x => pcVs_one x.1) (fun x y => cmpP x.1 y.1) swoP 36 #[] g 0 cap d w (enters_of Tryz.func36 (by kernel_rfl) rfl) (cmpLays _ _ _) hH (heap_lt hg) (by omega)) ?_
  rintro e w' ⟨rfl, d', n, os, hp, hs, rfl⟩
  have hs' : d'.size = l.length := hp.1.trans hds
  have hlist : d'.toList.map (·.1) = sortP l := by
   refine sortP_eq h.c h.nd ?_ ?_
   ·have h1 := hp.2.2
    rw [← hs', Array.extract_size, hs', ← hds, Array.extract_size] at h1
    rw [← hd]
    exact h1.map _
   ·rw [List.pairwise_map, List.pairwise_iff_getElem]
    intro i j hi hj hij
    have hi' : i < d'.size := by simpa using hi
    have hj' : j < d'.size := by simpa using hj
    have h1 := hs i j (Nat.zero_le _) hij (by omega)
    rw [getElem!_pos d' i hi', getElem!_pos d' j hj'] at h1
    simp only [ltOf, decide_eq_false_iff_not, Int.not_lt] at h1
    exact (cmpP_ok.le (d'[i]).2 (d'[j]).2).2 h1
  obtain ⟨cur', q1, q2, q3, q4⟩ := cells_sorted id (n := n) (D := Go.Sort.flatK (fun x : Pk => pcVs x.1) 24 d') (os := os) hg (by rw [Go.Sort.size_flatK, hs', hcs]; exact Nat.mul_le_mul_right _ hnc)
  refine ⟨rfl, cur', q1, q2, ?_, q4⟩
  rw [hflat, hlist, Go.Sort.size_flatK, hs', List.map_id] at q3
  exact q3
end Go.Proofs.YtibedaeefnjjlaaGreat
namespace Go.Proofs.YtibedaeefnjjlaaGreat
open Go.RowKit Go.Ab
set_option maxHeartbeats 1000000 in
theorem sortedFunc_m (l : List Pc) (hl : l.length ≤ 1000000) (h : PcOk l) : Meets Tryz.prog 34 [itA l, cpF] [] (.fr 42 24 (pcs (sortP l))) [] := by
 have c1 := collect_m l hl
 have c2 := sortPc_m l hl h
 refine fn_of Tryz.func34 rfl (Nat.le_of_ble_eq_true rfl) rfl rfl ?_
 unfold itA cpF at *
 (repeat' (first | refine r_95e112 ?_ | (refine is_f 65 ?_; refine r_e7cc0f (c1) ?_) | (refine is_f 66 ?_; refine r_92fba5 (c2) ?_) | (refine r_0efca5 (fun hb => ?_) (fun hb => ?_) <;> (try (exfalso; omega))) | fail))
 exact ret1 [] (.fr 0 _ _ _ rfl) rfl rfl rfl
end Go.Proofs.YtibedaeefnjjlaaGreat
