/- Texts of the second layer in one: Gq2. -/
import Derived.Test.YtibedaeefnjjlaaGreatG41
import Derived.Test.YtibedaeefnjjlaaGreatG42
/- Chapter 21, plain: what the groups of pieces in order are. Conditions: good cones, different indexes. -/
namespace Go.Proofs.YtibedaeefnjjlaaGreat
open Go.RowKit Go.Ab Go.Wd
set_option linter.unusedVariables false
set_option linter.unusedSimpArgs false

def fle (a b : Int × Int) : Prop := a.1 * b.2 ≤ b.1 * a.2
def flt (a b : Int × Int) : Prop := a.1 * b.2 < b.1 * a.2
theorem fle_trans {a b c : Int × Int} (ha : 0 < a.2) (hb : 0 < b.2) (hc : 0 < c.2) (h1 : fle a b) (h2 : fle b c) : fle a c := by
  unfold fle at *
  have e1 := Int.mul_le_mul_of_nonneg_right h1 (Int.le_of_lt hc)
  have e2 := Int.mul_le_mul_of_nonneg_right h2 (Int.le_of_lt ha)
  refine Int.le_of_mul_le_mul_right (a := b.2) ?_ hb
  calc a.1 * c.2 * b.2 = a.1 * b.2 * c.2 := by rw [Int.mul_right_comm]
    _ ≤ b.1 * a.2 * c.2 := e1
    _ = b.1 * c.2 * a.2 := by rw [Int.mul_right_comm]
    _ ≤ c.1 * b.2 * a.2 := e2
    _ = c.1 * a.2 * b.2 := by rw [Int.mul_right_comm]
theorem not_fle {a b : Int × Int} : ¬ fle a b ↔ flt b a := by unfold fle flt; omega
theorem not_flt {a b : Int × Int} : ¬ flt a b ↔ fle b a := by unfold fle flt; omega
theorem flt.le {a b : Int × Int} (h : flt a b) : fle a b := by unfold fle flt at *; omega
theorem flt_le {a b c : Int × Int} (ha : 0 < a.2) (hb : 0 < b.2) (hc : 0 < c.2) (h1 : flt a b) (h2 : fle b c) : flt a c :=
  not_fle.1 fun h => not_fle.2 h1 (fle_trans hb hc ha h2 h)
theorem fle_refl (a : Int × Int) : fle a a := Int.le_refl _
def Cn.lo (c : Cn) : Int × Int := (c.p, c.q)
def Cn.hi (c : Cn) : Int × Int := (c.r, c.s)
theorem Cn.ok.pos {c : Cn} (h : c.ok) (ho : c.o = false) : 0 < c.lo.2 ∧ 0 < c.hi.2 ∧ fle c.lo c.hi := by
  rcases h with ⟨h, _⟩ | ⟨_, h1, h2, h3⟩
  · rw [ho] at h; cases h
  · exact ⟨h1.1, h2.1, h3⟩
/-- One cone lies in another one. -/
def subC (g x : Cn) : Prop := x.o = true ∨ (g.o = false ∧ x.o = false ∧ fle x.lo g.lo ∧ fle g.hi x.hi)
theorem subC_refl (x : Cn) : subC x x := by
  cases h : x.o with
  | true => exact .inl h
  | false => exact .inr ⟨h, h, fle_refl _, fle_refl _⟩
theorem cmpC_le {a b : Cn} (hb : b.ok) (h : cmpC a b ≤ 0) (ho : a.o = false) : b.o = false ∧ fle a.lo b.lo := by
  unfold cmpC at h
  rw [ho] at h
  simp only [Bool.false_eq_true, if_false] at h
  cases hb : b.o with
  | true => rw [hb] at h; simp at h
  | false =>
    rw [hb] at h
    simp only [Bool.false_eq_true, if_false, orL2] at h
    refine ⟨rfl, ?_⟩
    show a.p * b.q ≤ b.p * a.q
    rw [← cmpZ_le0]
    split at h
    · exact h
    · rename_i e; simp at e; omega
theorem cmpP_le {a b : Pc} (h : cmpP a b ≤ 0) : a.ky ≤ b.ky ∧ (a.ky = b.ky → cmpC a.c b.c ≤ 0) := by
  rw [cmpP_or] at h
  have z : ∀ x y : Int, cmpZ x y ≤ 0 ↔ x ≤ y := fun x y => cmpZ_le0
  have z0 : ∀ x y : Int, cmpZ x y = 0 ↔ x = y := fun x y => by unfold cmpZ; split <;> (try split) <;> constructor <;> omega
  split at h
  · rename_i e
    rw [z] at h
    exact ⟨h, fun hk => absurd ((z0 _ _).2 hk) e⟩
  · rename_i e
    simp only [ne_eq, Decidable.not_not] at e
    refine ⟨by rw [(z0 _ _).1 e]; exact Int.le_refl _, fun _ => ?_⟩
    split at h
    · exact h
    · rename_i e2; simp at e2; omega
/-- What two cones have in common. -/
theorem meet_sub {a b c : Cn} (ha : a.ok) (hb : b.ok) (h : meetC a b = some c) :
    (a.o = true ∧ c = b) ∨ (a.o = false ∧ b.o = true ∧ c = a) ∨
    (a.o = false ∧ b.o = false ∧ c.o = false ∧ fle a.lo c.lo ∧ fle b.lo c.lo ∧ fle c.hi a.hi ∧ fle c.hi b.hi ∧ (c.lo = a.lo ∨ c.lo = b.lo) ∧ (c.hi = a.hi ∨ c.hi = b.hi)) := by
  unfold meetC at h
  cases hao : a.o with
  | true => rw [hao] at h; simp only [if_true, Option.some.injEq] at h; exact .inl ⟨rfl, h.symm⟩
  | false =>
    cases hbo : b.o with
    | true => rw [hao, hbo] at h; simp only [if_true, Bool.false_eq_true, if_false, Option.some.injEq] at h; exact .inr (.inl ⟨rfl, rfl, h.symm⟩)
    | false =>
      rw [hao, hbo] at h
      simp only [Bool.false_eq_true, if_false] at h
      split at h
      · injection h with h
        subst h
        refine .inr (.inr ⟨rfl, rfl, rfl, ?_⟩)
        have e1 : (mLo a.p a.q b.p b.q = a.lo ∧ fle b.lo a.lo) ∨ (mLo a.p a.q b.p b.q = b.lo ∧ fle a.lo b.lo) := by
          unfold mLo
          split
          · rename_i e; exact .inr ⟨rfl, flt.le e⟩
          · rename_i e; exact .inl ⟨rfl, not_flt.1 e⟩
        have e2 : (mHi a.r a.s b.r b.s = a.hi ∧ fle a.hi b.hi) ∨ (mHi a.r a.s b.r b.s = b.hi ∧ fle b.hi a.hi) := by
          unfold mHi
          split
          · rename_i e; exact .inr ⟨rfl, flt.le e⟩
          · rename_i e; exact .inl ⟨rfl, not_flt.1 e⟩
        show fle a.lo (mLo a.p a.q b.p b.q) ∧ fle b.lo (mLo a.p a.q b.p b.q) ∧ fle (mHi a.r a.s b.r b.s) a.hi ∧ fle (mHi a.r a.s b.r b.s) b.hi ∧ (mLo a.p a.q b.p b.q = a.lo ∨ mLo a.p a.q b.p b.q = b.lo) ∧ (mHi a.r a.s b.r b.s = a.hi ∨ mHi a.r a.s b.r b.s = b.hi)
        rcases e1 with ⟨e1, f1⟩ | ⟨e1, f1⟩ <;> rcases e2 with ⟨e2, f2⟩ | ⟨e2, f2⟩ <;> rw [e1, e2]
        · exact ⟨fle_refl _, f1, fle_refl _, f2, .inl rfl, .inl rfl⟩
        · exact ⟨fle_refl _, f1, f2, fle_refl _, .inl rfl, .inr rfl⟩
        · exact ⟨f1, fle_refl _, fle_refl _, f2, .inr rfl, .inl rfl⟩
        · exact ⟨f1, fle_refl _, f2, fle_refl _, .inr rfl, .inr rfl⟩
      · cases h
theorem meet_no {a b : Cn} (ha : a.ok) (hb : b.ok) (hle : a.o = false → b.o = false ∧ fle a.lo b.lo) (h : meetC a b = none) : a.o = false ∧ b.o = false ∧ flt a.hi b.lo := by
  unfold meetC at h
  cases hao : a.o with
  | true => rw [hao] at h; simp at h
  | false =>
    obtain ⟨hbo, hlo⟩ := hle hao
    rw [hao, hbo] at h
    simp only [Bool.false_eq_true, if_false] at h
    split at h
    · cases h
    · rename_i h1
      refine ⟨rfl, hbo, ?_⟩
      obtain ⟨a1, a2, a3⟩ := ha.pos hao
      obtain ⟨b1, b2, b3⟩ := hb.pos hbo
      have e1 : fle (mLo a.p a.q b.p b.q) b.lo ∧ 0 < (mLo a.p a.q b.p b.q).2 := by
        unfold mLo
        split
        · exact ⟨fle_refl _, b1⟩
        · exact ⟨hlo, a1⟩
      have e2 : mHi a.r a.s b.r b.s = a.hi ∨ mHi a.r a.s b.r b.s = b.hi := by
        unfold mHi; split
        · exact .inr rfl
        · exact .inl rfl
      refine not_fle.1 fun hf => h1 ?_
      show fle (mLo a.p a.q b.p b.q) (mHi a.r a.s b.r b.s)
      rcases e2 with e2 | e2 <;> rw [e2]
      · exact fle_trans e1.2 b1 a2 e1.1 hf
      · exact fle_trans e1.2 b1 b2 e1.1 b3
/-- The groups of pieces in order. -/
structure GInv (S : List Pc) (gs : List Gr) : Prop where
  fl : (gs.map Gr.ss).flatten = S.map Pc.ix
  ok : ∀ g ∈ gs, g.c.ok
  ne : ∀ g ∈ gs, ∃ x ∈ S, x.ix ∈ g.ss
  sub : ∀ g ∈ gs, ∀ x ∈ S, x.ix ∈ g.ss → g.ky = x.ky ∧ subC g.c x.c
  hi : ∀ g ∈ gs, g.c.o = false → ∃ x ∈ S, x.ix ∈ g.ss ∧ x.c.o = false ∧ x.c.hi = g.c.hi
  lo : ∀ g ∈ gs, g.c.o = false → ∃ x ∈ S, x.ix ∈ g.ss ∧ x.c.o = false ∧ x.c.lo = g.c.lo
  ap : gs.Pairwise fun g g' => g.ky ≤ g'.ky ∧ (g.ky = g'.ky → g.c.o = false ∧ g'.c.o = false ∧ ∀ x ∈ S, x.ix ∈ g'.ss → x.c.o = false ∧ flt g.c.hi x.c.lo)
theorem GInv.mem {S : List Pc} {gs : List Gr} (h : GInv S gs) {g : Gr} (hg : g ∈ gs) {z : Int} (hz : z ∈ g.ss) : z ∈ S.map Pc.ix := by
  rw [← h.fl]
  exact List.mem_flatten.2 ⟨_, List.mem_map_of_mem hg, hz⟩
theorem GInv.mk1 {S : List Pc} {gs : List Gr} {x : Pc} (h : GInv S gs) (hx : x.c.ok) (hf : x.ix ∉ S.map Pc.ix)
    (ha : ∀ g ∈ gs, g.ky ≤ x.ky ∧ (g.ky = x.ky → g.c.o = false ∧ x.c.o = false ∧ flt g.c.hi x.c.lo)) : GInv (S ++ [x]) (gs ++ [newG x]) := by
  have old : ∀ g ∈ gs, ∀ y ∈ S ++ [x], y.ix ∈ g.ss → y ∈ S := fun g hg y hy hi => by
    rcases List.mem_append.1 hy with hy | hy
    · exact hy
    · rw [List.mem_singleton] at hy; subst hy; exact absurd (h.mem hg hi) hf
  have new : ∀ y ∈ S ++ [x], y.ix ∈ (newG x).ss → y = x := fun y hy hi => by
    rcases List.mem_append.1 hy with hy | hy
    · simp [newG] at hi; exact absurd (hi ▸ List.mem_map_of_mem hy) hf
    · exact List.mem_singleton.1 hy
  have hxm : x ∈ S ++ [x] := by simp
  have hxi : x.ix ∈ (newG x).ss := by simp [newG]
  refine ⟨by rw [List.map_append, List.flatten_append, h.fl]; simp [newG], ?_, ?_, ?_, ?_, ?_, ?_⟩
  · intro g hg
    rcases List.mem_append.1 hg with hg | hg
    · exact h.ok g hg
    · rw [List.mem_singleton] at hg; subst hg; exact hx
  · intro g hg
    rcases List.mem_append.1 hg with hg | hg
    · obtain ⟨y, hy, hi⟩ := h.ne g hg; exact ⟨y, List.mem_append_left _ hy, hi⟩
    · rw [List.mem_singleton] at hg; subst hg; exact ⟨x, hxm, hxi⟩
  · intro g hg y hy hi
    rcases List.mem_append.1 hg with hg | hg
    · exact h.sub g hg y (old g hg y hy hi) hi
    · rw [List.mem_singleton] at hg; subst hg
      rw [new y hy hi]; exact ⟨rfl, subC_refl _⟩
  · intro g hg ho
    rcases List.mem_append.1 hg with hg | hg
    · obtain ⟨y, hy, hi⟩ := h.hi g hg ho; exact ⟨y, List.mem_append_left _ hy, hi⟩
    · rw [List.mem_singleton] at hg; subst hg; exact ⟨x, hxm, hxi, ho, rfl⟩
  · intro g hg ho
    rcases List.mem_append.1 hg with hg | hg
    · obtain ⟨y, hy, hi⟩ := h.lo g hg ho; exact ⟨y, List.mem_append_left _ hy, hi⟩
    · rw [List.mem_singleton] at hg; subst hg; exact ⟨x, hxm, hxi, ho, rfl⟩
  · rw [List.pairwise_append]
    refine ⟨h.ap.imp_of_mem fun {a b} hma hmb hab => ⟨hab.1, fun hk => ⟨(hab.2 hk).1, (hab.2 hk).2.1, fun y hy hi => (hab.2 hk).2.2 y (old _ hmb y hy hi) hi⟩⟩, .cons (fun _ hm => nomatch hm) .nil, fun a hma b hmb => ?_⟩
    rw [List.mem_singleton] at hmb; subst hmb
    refine ⟨(ha a hma).1, fun hk => ?_⟩
    obtain ⟨a1, a2, a3⟩ := (ha a hma).2 hk
    exact ⟨a1, a2, fun y hy hi => by rw [new y hy hi]; exact ⟨a2, a3⟩⟩
theorem GInv.mk2 {S : List Pc} {gs : List Gr} {g : Gr} {x : Pc} {c : Cn} (h : GInv S (gs ++ [g])) (hS : ∀ y ∈ S, y.c.ok) (hx : x.c.ok) (hf : x.ix ∉ S.map Pc.ix) (hm : meetC g.c x.c = some c) (hk : g.ky = x.ky)
    (hs : ∀ y ∈ S, y.ky = x.ky → y.c.o = false → x.c.o = false ∧ fle y.c.lo x.c.lo) : GInv (S ++ [x]) (gs ++ [⟨g.ky, g.ss ++ [x.ix], c⟩]) := by
  have hgm : g ∈ gs ++ [g] := by simp
  have hgo := h.ok g hgm
  have hco := meetC_ok hgo hx hm
  have old : ∀ a ∈ gs ++ [g], ∀ y ∈ S ++ [x], y.ix ∈ a.ss → y ∈ S := fun a hg y hy hi => by
    rcases List.mem_append.1 hy with hy | hy
    · exact hy
    · rw [List.mem_singleton] at hy; subst hy; exact absurd (h.mem hg hi) hf
  have new : ∀ y ∈ S ++ [x], y.ix ∈ g.ss ++ [x.ix] → y = x ∨ (y ∈ S ∧ y.ix ∈ g.ss) := fun y hy hi => by
    rcases List.mem_append.1 hi with hi | hi
    · exact .inr ⟨old g hgm y hy hi, hi⟩
    · rcases List.mem_append.1 hy with hy | hy
      · rw [List.mem_singleton] at hi; exact absurd (hi ▸ List.mem_map_of_mem hy) hf
      · exact .inl (List.mem_singleton.1 hy)
  have hxm : x ∈ S ++ [x] := by simp
  have hxi : x.ix ∈ g.ss ++ [x.ix] := by simp
  have hc := meet_sub hgo hx hm
  have hap := h.ap
  rw [List.pairwise_append] at hap
  refine ⟨?_, ?_, ?_, ?_, ?_, ?_, ?_⟩
  · have := h.fl
    rw [List.map_append, List.flatten_append] at this ⊢
    rw [List.map_append, ← this]
    simp
  · intro a ha
    rcases List.mem_append.1 ha with ha | ha
    · exact h.ok a (List.mem_append_left _ ha)
    · rw [List.mem_singleton] at ha; subst ha; exact hco
  · intro a ha
    rcases List.mem_append.1 ha with ha | ha
    · obtain ⟨y, hy, hi⟩ := h.ne a (List.mem_append_left _ ha); exact ⟨y, List.mem_append_left _ hy, hi⟩
    · rw [List.mem_singleton] at ha; subst ha; exact ⟨x, hxm, hxi⟩
  · intro a ha y hy hi
    rcases List.mem_append.1 ha with ha | ha
    · exact h.sub a (List.mem_append_left _ ha) y (old a (List.mem_append_left _ ha) y hy hi) hi
    · rw [List.mem_singleton] at ha; subst ha
      rcases new y hy hi with rfl | ⟨hy', hi'⟩
      · refine ⟨hk, ?_⟩
        rcases hc with ⟨_, rfl⟩ | ⟨h1, h2, rfl⟩ | ⟨h1, h2, h3, h4, h5, h6, h7, _⟩
        · exact subC_refl _
        · exact .inl h2
        · exact .inr ⟨h3, h2, h5, h7⟩
      · obtain ⟨s1, s2⟩ := h.sub g hgm y hy' hi'
        refine ⟨s1, ?_⟩
        rcases s2 with s2 | ⟨t1, t2, t3, t4⟩
        · exact .inl s2
        · obtain ⟨p1, p2, _⟩ := hgo.pos t1
          obtain ⟨q1, q2, _⟩ := (hS y hy').pos t2
          rcases hc with ⟨h1, _⟩ | ⟨h1, h2, rfl⟩ | ⟨h1, h2, h3, h4, h5, h6, h7, _⟩
          · rw [t1] at h1; cases h1
          · exact .inr ⟨t1, t2, t3, t4⟩
          · obtain ⟨c1, c2, _⟩ := hco.pos h3
            exact .inr ⟨h3, t2, fle_trans q1 p1 c1 t3 h4, fle_trans c2 p2 q2 h6 t4⟩
  · intro a ha ho
    rcases List.mem_append.1 ha with ha | ha
    · obtain ⟨y, hy, hi⟩ := h.hi a (List.mem_append_left _ ha) ho; exact ⟨y, List.mem_append_left _ hy, hi⟩
    · rw [List.mem_singleton] at ha; subst ha
      have hg : g.c.o = false → ∃ y ∈ S ++ [x], y.ix ∈ g.ss ++ [x.ix] ∧ y.c.o = false ∧ y.c.hi = g.c.hi := fun h1 => by
        obtain ⟨y, hy, hi, e⟩ := h.hi g hgm h1
        exact ⟨y, List.mem_append_left _ hy, List.mem_append_left _ hi, e⟩
      rcases hc with ⟨_, rfl⟩ | ⟨h1, h2, rfl⟩ | ⟨h1, h2, h3, _, _, _, _, _, h4 | h4⟩
      · exact ⟨x, hxm, hxi, ho, rfl⟩
      · exact hg h1
      · show ∃ y ∈ S ++ [x], y.ix ∈ g.ss ++ [x.ix] ∧ y.c.o = false ∧ y.c.hi = c.hi
        rw [h4]; exact hg h1
      · exact ⟨x, hxm, hxi, h2, h4.symm⟩
  · intro a ha ho
    rcases List.mem_append.1 ha with ha | ha
    · obtain ⟨y, hy, hi⟩ := h.lo a (List.mem_append_left _ ha) ho; exact ⟨y, List.mem_append_left _ hy, hi⟩
    · rw [List.mem_singleton] at ha; subst ha
      have hg : g.c.o = false → ∃ y ∈ S ++ [x], y.ix ∈ g.ss ++ [x.ix] ∧ y.c.o = false ∧ y.c.lo = g.c.lo := fun h1 => by
        obtain ⟨y, hy, hi, e⟩ := h.lo g hgm h1
        exact ⟨y, List.mem_append_left _ hy, List.mem_append_left _ hi, e⟩
      rcases hc with ⟨_, rfl⟩ | ⟨h1, h2, rfl⟩ | ⟨h1, h2, h3, _, _, _, _, h4 | h4, _⟩
      · exact ⟨x, hxm, hxi, ho, rfl⟩
      · exact hg h1
      · show ∃ y ∈ S ++ [x], y.ix ∈ g.ss ++ [x.ix] ∧ y.c.o = false ∧ y.c.lo = c.lo
        rw [h4]; exact hg h1
      · exact ⟨x, hxm, hxi, h2, h4.symm⟩
  · rw [List.pairwise_append]
    refine ⟨hap.1.imp_of_mem fun {a b} hma hmb hab => ⟨hab.1, fun hk => ⟨(hab.2 hk).1, (hab.2 hk).2.1, fun y hy hi => (hab.2 hk).2.2 y (old _ (List.mem_append_left _ hmb) y hy hi) hi⟩⟩, .cons (fun _ hm => nomatch hm) .nil, fun a hma b hmb => ?_⟩
    rw [List.mem_singleton] at hmb; subst hmb
    obtain ⟨q1, q2⟩ := hap.2.2 a hma g (List.mem_singleton_self _)
    refine ⟨q1, fun hka => ?_⟩
    obtain ⟨r1, r2, r3⟩ := q2 hka
    obtain ⟨y0, hy0, hi0⟩ := h.ne g hgm
    obtain ⟨z1, z2⟩ := r3 y0 hy0 hi0
    have hky := (h.sub g hgm y0 hy0 hi0).1
    obtain ⟨w1, w2⟩ := hs y0 hy0 (by rw [← hky, hk]) z1
    have hao := h.ok a (List.mem_append_left _ hma)
    have hlt : flt a.c.hi x.c.lo := flt_le (hao.pos r1).2.1 ((hS y0 hy0).pos z1).1 (hx.pos w1).1 z2 w2
    refine ⟨r1, ?_, fun y hy hi => ?_⟩
    · rcases hc with ⟨h1, _⟩ | ⟨h1, h2, rfl⟩ | ⟨h1, h2, h3, _⟩
      · rw [r2] at h1; cases h1
      · exact r2
      · exact h3
    · rcases new y hy hi with rfl | ⟨hy', hi'⟩
      · exact ⟨w1, hlt⟩
      · exact r3 y hy' hi'
theorem GInv.step {S : List Pc} {gs : List Gr} {x : Pc} (h : GInv S gs) (hS : ∀ y ∈ S, y.c.ok) (hx : x.c.ok) (hf : x.ix ∉ S.map Pc.ix) (hs : ∀ y ∈ S, cmpP y x ≤ 0) : GInv (S ++ [x]) (jn gs x) := by
  have hs1 : ∀ y ∈ S, y.ky = x.ky → y.c.o = false → x.c.o = false ∧ fle y.c.lo x.c.lo := fun y hy hk ho => cmpC_le hx ((cmpP_le (hs y hy)).2 hk) ho
  rcases List.eq_nil_or_concat gs with rfl | ⟨gs', g, rfl⟩
  · rw [jn_nil]
    exact h.mk1 hx hf fun g hg => nomatch hg
  · rw [List.concat_eq_append] at *
    rw [jn_snoc]
    have hgm : g ∈ gs' ++ [g] := by simp
    obtain ⟨y0, hy0, hi0⟩ := h.ne g hgm
    obtain ⟨hky, hsu⟩ := h.sub g hgm y0 hy0 hi0
    have hkx : g.ky ≤ x.ky := by rw [hky]; exact (cmpP_le (hs y0 hy0)).1
    split
    · rename_i g2 hg2
      obtain ⟨c, hc, hk, rfl⟩ := jnTo_some hg2
      exact h.mk2 hS hx hf hc hk hs1
    · rename_i hno
      refine h.mk1 hx hf fun a ha => ?_
      have hap := h.ap
      rw [List.pairwise_append] at hap
      rcases List.mem_append.1 ha with ha' | ha'
      · obtain ⟨q1, q2⟩ := hap.2.2 a ha' g (List.mem_singleton_self _)
        refine ⟨by omega, fun hk => ?_⟩
        obtain ⟨r1, r2, r3⟩ := q2 (by omega)
        obtain ⟨z1, z2⟩ := r3 y0 hy0 hi0
        obtain ⟨w1, w2⟩ := hs1 y0 hy0 (by omega) z1
        exact ⟨r1, w1, flt_le ((h.ok a ha).pos r1).2.1 ((hS y0 hy0).pos z1).1 (hx.pos w1).1 z2 w2⟩
      · rw [List.mem_singleton] at ha'; subst ha'
        refine ⟨hkx, fun hk => ?_⟩
        refine meet_no (h.ok a ha) hx (fun ho => ?_) ?_
        · obtain ⟨y, hy, hi, e1, e2⟩ := h.lo a ha ho
          have := hs1 y hy (by rw [← (h.sub a ha y hy hi).1, hk]) e1
          rw [e2] at this; exact this
        · rcases hm : meetC a.c x.c with _ | c
          · rfl
          · exact absurd hk (jnTo_none hno c hm)
theorem GInv.fold : ∀ (T S : List Pc) (gs : List Gr), GInv S gs → (∀ y ∈ S ++ T, y.c.ok) → ((S ++ T).map Pc.ix).Nodup → (S ++ T).Pairwise (fun a b => cmpP a b ≤ 0) → GInv (S ++ T) (T.foldl jn gs)
  | [], S, gs, h, _, _, _ => by rw [List.append_nil]; exact h
  | x :: T, S, gs, h, h1, h2, h3 => by
    have e : S ++ x :: T = S ++ [x] ++ T := by simp
    rw [List.foldl_cons]
    have h2' := h2
    have h3' := h3
    rw [e] at h1 h2 h3 ⊢
    refine GInv.fold T (S ++ [x]) (jn gs x) (h.step (fun y hy => h1 y (by simp [hy])) (h1 x (by simp)) ?_ ?_) h1 h2 h3
    · rw [List.map_append, List.nodup_append] at h2'
      intro hm
      exact h2'.2.2 _ hm _ (by simp) rfl
    · intro y hy
      exact (List.pairwise_append.1 h3').2.2 y hy x (List.mem_cons_self ..)
theorem sortP_pw {l : List Pc} (h : PcOk l) : (sortP l).Pairwise fun a b => cmpP a b ≤ 0 := by
  have h1 := List.pairwise_mergeSort (le := fun x y : { x : Pc // x.c.ok } => leP x.1 y.1) (fun a b c h1 h2 => by
    simp only [leP, decide_eq_true_eq] at *
    exact cmpP_ok.trans _ _ _ a.2 b.2 c.2 h1 h2) (fun a b => by
    simp only [leP, Bool.or_eq_true, decide_eq_true_eq]
    have := cmpP_ok.le b.2 a.2
    omega) (l.attach.map fun x => ⟨x.1, h.c x.1 x.2⟩)
  have h2 : ((l.attach.map fun x => (⟨x.1, h.c x.1 x.2⟩ : { x : Pc // x.c.ok })).map (·.1)).mergeSort leP = ((l.attach.map fun x => (⟨x.1, h.c x.1 x.2⟩ : { x : Pc // x.c.ok })).mergeSort fun x y => leP x.1 y.1).map (·.1) := (List.map_mergeSort (f := fun x : { x : Pc // x.c.ok } => x.1) (fun a _ b _ => rfl)).symm
  have e : (l.attach.map fun x => (⟨x.1, h.c x.1 x.2⟩ : { x : Pc // x.c.ok })).map (·.1) = l := by simp [List.map_map, Function.comp_def]
  unfold sortP
  rw [e] at h2
  rw [h2]
  refine List.pairwise_map.2 (h1.imp fun {a b} h => ?_)
  simpa [leP] using h
theorem gInv {l : List Pc} (h : PcOk l) : GInv (sortP l) ((sortP l).foldl jn []) := by
  have hp := h.perm (sortP_perm l)
  have h0 : GInv [] [] := ⟨rfl, fun _ h => (nomatch h), fun _ h => (nomatch h), fun _ h => (nomatch h), fun _ h => (nomatch h), fun _ h => (nomatch h), .nil⟩
  have := GInv.fold (sortP l) [] [] h0 (by simpa using hp.c) (by simpa using hp.nd) (by simpa using sortP_pw h)
  simpa using this
end Go.Proofs.YtibedaeefnjjlaaGreat
