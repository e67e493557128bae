/- Texts of the second layer in one: So2. -/
import Derived.Test.YtibedaeefnjjlaaGreatG35
import Derived.Sort.Statements
/- Chapter 21, plain: pieces in order. No conditions. -/
namespace Go.Proofs.YtibedaeefnjjlaaGreat
open Go.RowKit Go.Ab
set_option linter.unusedVariables false
set_option linter.unusedSimpArgs false

/-- A comparison that is an order on what has the property D. -/
structure CmpOk {α : Type} (D : α → Prop) (c : α → α → Int) : Prop where
  refl : ∀ x, D x → c x x = 0
  anti : ∀ x y, D x → D y → (c x y < 0 ↔ 0 < c y x)
  trans : ∀ x y z, D x → D y → D z → c x y ≤ 0 → c y z ≤ 0 → c x z ≤ 0
section
variable {α β : Type} {D : α → Prop} {c d : α → α → Int}
theorem CmpOk.le (h : CmpOk D c) {x y : α} (hx : D x) (hy : D y) : c x y ≤ 0 ↔ 0 ≤ c y x := by
  have := h.anti y x hy hx; omega
theorem CmpOk.lt (h : CmpOk D c) {x y z : α} (hx : D x) (hy : D y) (hz : D z) (h1 : c x y < 0) (h2 : c y z ≤ 0) : c x z < 0 := by
  have h3 := h.trans x y z hx hy hz (by omega) h2
  rcases Int.lt_or_eq_of_le h3 with h4 | h4
  · exact h4
  · have h5 : c z x ≤ 0 := (h.le hz hx).2 (by omega)
    have h6 := h.trans y z x hy hz hx h2 h5
    have := (h.anti x y hx hy).1 h1
    omega
theorem CmpOk.lt' (h : CmpOk D c) {x y z : α} (hx : D x) (hy : D y) (hz : D z) (h1 : c x y ≤ 0) (h2 : c y z < 0) : c x z < 0 := by
  have h3 := h.trans x y z hx hy hz h1 (by omega)
  rcases Int.lt_or_eq_of_le h3 with h4 | h4
  · exact h4
  · have h5 : c z x ≤ 0 := (h.le hz hx).2 (by omega)
    have h6 := h.trans z x y hz hx hy h5 h1
    have := (h.anti y z hy hz).1 h2
    omega
theorem CmpOk.or (h : CmpOk D c) (k : CmpOk D d) : CmpOk D fun x y => if c x y ≠ 0 then c x y else d x y := by
  have z : ∀ x y, D x → D y → (c x y = 0 ↔ c y x = 0) := fun x y hx hy => by
    have h1 := h.anti x y hx hy
    have h2 := h.anti y x hy hx
    omega
  refine ⟨fun x hx => by rw [if_neg (by simp [h.refl x hx])]; exact k.refl x hx, fun x y hx hy => ?_, fun x y w hx hy hw h1 h2 => ?_⟩
  · have h1 := h.anti x y hx hy
    have h2 := k.anti x y hx hy
    have h3 := z x y hx hy
    split <;> split <;> omega
  · by_cases e1 : c x y = 0
    · rw [if_neg (by simp [e1])] at h1
      by_cases e2 : c y w = 0
      · rw [if_neg (by simp [e2])] at h2
        have h3 := h.trans x y w hx hy hw (by omega) (by omega)
        have h4 := h.trans w y x hw hy hx (by rw [(z y w hy hw).1 e2]; exact Int.le_refl _) (by rw [(z x y hx hy).1 e1]; exact Int.le_refl _)
        have h5 := (h.le hw hx).1 h4
        rw [if_neg (by simp; omega)]
        exact k.trans x y w hx hy hw h1 h2
      · rw [if_pos e2] at h2
        have h3 := h.lt' hx hy hw (by omega) (by omega)
        rw [if_pos (by omega)]; omega
    · rw [if_pos e1] at h1
      have h4 : c y w ≤ 0 := by
        split at h2
        · exact h2
        · omega
      have h3 := h.lt hx hy hw (by omega) h4
      rw [if_pos (by omega)]; omega
theorem CmpOk.pull {D' : β → Prop} (f : β → α) (hf : ∀ x, D' x → D (f x)) (h : CmpOk D c) : CmpOk D' fun x y => c (f x) (f y) :=
  ⟨fun x hx => h.refl _ (hf x hx), fun x y hx hy => h.anti _ _ (hf x hx) (hf y hy), fun x y z hx hy hz => h.trans _ _ _ (hf x hx) (hf y hy) (hf z hz)⟩
theorem CmpOk.congr {c' : α → α → Int} (h : CmpOk D c) (e : ∀ x y, D x → D y → c' x y = c x y) : CmpOk D c' :=
  ⟨fun x hx => by rw [e x x hx hx]; exact h.refl x hx, fun x y hx hy => by rw [e x y hx hy, e y x hy hx]; exact h.anti x y hx hy, fun x y z hx hy hz => by rw [e x y hx hy, e y z hy hz, e x z hx hz]; exact h.trans x y z hx hy hz⟩
end
theorem cmpZ_ok : CmpOk (fun _ : Int => True) cmpZ := by
  refine ⟨fun x _ => ?_, fun x y _ _ => ?_, fun x y z _ _ _ h1 h2 => ?_⟩
  · unfold cmpZ; simp
  · unfold cmpZ; split <;> split <;> (try split) <;> (try split) <;> omega
  · unfold cmpZ at *
    split at h1 <;> split at h2 <;> split <;> (try split at h1) <;> (try split at h2) <;> (try split) <;> omega
theorem orL2 (a b : Int) : orL [a, b] = if a ≠ 0 then a else b := by
  rw [orL, orL, orL]
  by_cases h : a ≠ 0
  · rw [if_pos h, if_pos h]
  · rw [if_neg h, if_neg h]
    by_cases k : b ≠ 0
    · rw [if_pos k]
    · rw [if_neg k]; simp at k; exact k.symm
theorem orL3 (a b c : Int) : orL [a, b, c] = if a ≠ 0 then a else if b ≠ 0 then b else c := by
  rw [orL]
  by_cases h : a ≠ 0
  · rw [if_pos h, if_pos h]
  · rw [if_neg h, if_neg h]; exact orL2 b c
theorem inj_of_nodup {α β : Type} {f : α → β} : ∀ {l : List α}, (l.map f).Nodup → ∀ a ∈ l, ∀ b ∈ l, f a = f b → a = b
  | x :: l, h, a, ha, b, hb, e => by
    rw [List.map_cons, List.nodup_cons] at h
    rcases List.mem_cons.1 ha with e1 | ha' <;> rcases List.mem_cons.1 hb with e2 | hb'
    · rw [e1, e2]
    · subst e1; exact absurd (e ▸ List.mem_map_of_mem hb') h.1
    · subst e2; exact absurd (e ▸ List.mem_map_of_mem ha') h.1
    · exact inj_of_nodup h.2 a ha' b hb' e
/-- Fractions with positive denominators. -/
def cmpF (a b : Int × Int) : Int := cmpZ (a.1 * b.2) (b.1 * a.2)
theorem cmpZ_le0 {x y : Int} : cmpZ x y ≤ 0 ↔ x ≤ y := by
  unfold cmpZ; split <;> (try split) <;> constructor <;> omega
theorem cmpF_ok : CmpOk (fun a : Int × Int => 0 < a.2) cmpF := by
  refine ⟨fun x _ => cmpZ_ok.refl _ trivial, fun x y _ _ => cmpZ_ok.anti _ _ trivial trivial, fun x y z hx hy hz h1 h2 => ?_⟩
  unfold cmpF at *
  rw [cmpZ_le0] at *
  have e1 := Int.mul_le_mul_of_nonneg_right h1 (Int.le_of_lt hz)
  have e2 := Int.mul_le_mul_of_nonneg_right h2 (Int.le_of_lt hx)
  refine Int.le_of_mul_le_mul_right (a := y.2) ?_ hy
  calc x.1 * z.2 * y.2 = x.1 * y.2 * z.2 := by rw [Int.mul_right_comm]
    _ ≤ y.1 * x.2 * z.2 := e1
    _ = y.1 * z.2 * x.2 := by rw [Int.mul_right_comm]
    _ ≤ z.1 * y.2 * x.2 := e2
    _ = z.1 * x.2 * y.2 := by rw [Int.mul_right_comm]
theorem cmpC_ok : CmpOk Cn.ok cmpC := by
  have hP : ∀ c : Cn, c.ok → c.o = false → 0 < c.q ∧ 0 < c.s := by
    rintro c (⟨h1, _⟩ | ⟨_, h2⟩) h
    · rw [h1] at h; cases h
    · exact ⟨h2.1.1, h2.2.1.1⟩
  have k : CmpOk (fun c : Cn => c.ok ∧ c.o = false) fun a b => if cmpF (a.p, a.q) (b.p, b.q) ≠ 0 then cmpF (a.p, a.q) (b.p, b.q) else cmpF (a.r, a.s) (b.r, b.s) :=
    (cmpF_ok.pull (fun c : Cn => (c.p, c.q)) fun c h => (hP c h.1 h.2).1).or (cmpF_ok.pull (fun c : Cn => (c.r, c.s)) fun c h => (hP c h.1 h.2).2)
  have e : ∀ a b : Cn, a.o = false → b.o = false → cmpC a b = if cmpF (a.p, a.q) (b.p, b.q) ≠ 0 then cmpF (a.p, a.q) (b.p, b.q) else cmpF (a.r, a.s) (b.r, b.s) := by
    intro a b ha hb
    unfold cmpC
    rw [ha, hb]
    simp only [Bool.false_eq_true, if_false]
    exact orL2 _ _
  have t : ∀ a b : Cn, a.o = true → cmpC a b = if b.o then 0 else -1 := fun a b h => by unfold cmpC; rw [h]; rfl
  have f : ∀ a b : Cn, a.o = false → b.o = true → cmpC a b = 1 := fun a b h g => by unfold cmpC; rw [h, g]; rfl
  refine ⟨fun x hx => ?_, fun x y hx hy => ?_, fun x y z hx hy hz h1 h2 => ?_⟩
  · cases ho : x.o with
    | true => rw [t x x ho, ho]; rfl
    | false => rw [e x x ho ho]; exact k.refl x ⟨hx, ho⟩
  · cases ho : x.o with
    | true =>
      rw [t x y ho]
      cases hp : y.o with
      | true => rw [t y x hp, ho]; simp
      | false => rw [f y x hp ho]; simp
    | false =>
      cases hp : y.o with
      | true => rw [f x y ho hp, t y x hp, ho]; simp
      | false => rw [e x y ho hp, e y x hp ho]; exact k.anti x y ⟨hx, ho⟩ ⟨hy, hp⟩
  · cases ho : x.o with
    | true => rw [t x z ho]; split <;> omega
    | false =>
      cases hp : y.o with
      | true => rw [f x y ho hp] at h1; omega
      | false =>
        cases hq : z.o with
        | true => rw [f y z hp hq] at h2; omega
        | false =>
          rw [e x y ho hp] at h1
          rw [e y z hp hq] at h2
          rw [e x z ho hq]
          exact k.trans x y z ⟨hx, ho⟩ ⟨hy, hp⟩ ⟨hz, hq⟩ h1 h2
theorem cmpP_or (a b : Pc) : cmpP a b = if cmpZ a.ky b.ky ≠ 0 then cmpZ a.ky b.ky else if cmpC a.c b.c ≠ 0 then cmpC a.c b.c else cmpZ a.ix b.ix := by
  exact orL3 _ _ _
theorem cmpP_ok : CmpOk (fun x : Pc => x.c.ok) cmpP :=
  ((cmpZ_ok.pull Pc.ky fun _ _ => trivial).or ((cmpC_ok.pull Pc.c fun _ h => h).or (cmpZ_ok.pull Pc.ix fun _ _ => trivial))).congr fun x y _ _ => cmpP_or x y
theorem cmpP_ix {a b : Pc} (h : cmpP a b = 0) : a.ix = b.ix ∧ a.ky = b.ky := by
  rw [cmpP_or] at h
  have z : ∀ x y : Int, cmpZ x y = 0 → x = y := fun x y h => by
    unfold cmpZ at h; split at h <;> (try split at h) <;> omega
  split at h
  · contradiction
  · rename_i h1
    split at h
    · contradiction
    · exact ⟨z _ _ h, z _ _ (by simpa using h1)⟩
/-- The order of pieces. -/
def leP (a b : Pc) : Bool := decide (cmpP a b ≤ 0)
def sortP (l : List Pc) : List Pc := l.mergeSort leP
theorem sortP_perm (l : List Pc) : (sortP l).Perm l := List.mergeSort_perm _ _
theorem swoP : Go.Sort.SWO (fun x y : { x : Pc // x.c.ok } => decide (cmpP x.1 y.1 < 0)) := by
  refine ⟨fun x => ?_, fun x y z h1 h2 => ?_, fun x y z h1 h2 => ?_⟩
  · simp [cmpP_ok.refl x.1 x.2]
  · simp only [decide_eq_true_eq] at *
    exact cmpP_ok.lt x.2 y.2 z.2 h1 (by omega)
  · simp only [decide_eq_false_iff_not, Int.not_lt] at *
    have h3 := (cmpP_ok.le y.2 x.2).2 h1
    have h4 := (cmpP_ok.le z.2 y.2).2 h2
    exact (cmpP_ok.le z.2 x.2).1 (cmpP_ok.trans _ _ _ z.2 y.2 x.2 h4 h3)
/-- What is sorted and the same pieces is the sorted list. -/
theorem sortP_eq {l l' : List Pc} (hc : ∀ x ∈ l, x.c.ok) (hn : (l.map Pc.ix).Nodup) (hp : l'.Perm l) (hs : l'.Pairwise fun a b => cmpP a b ≤ 0) : l' = sortP l := by
  have inj := inj_of_nodup hn
  have hm : (sortP l).Pairwise fun a b => cmpP a b ≤ 0 := by
    have key : ∀ (m : List { x : Pc // x.c.ok }), ((m.map (·.1)).mergeSort leP).Pairwise fun a b => cmpP a b ≤ 0 := by
      intro m
      have h1 := List.pairwise_mergeSort (le := fun x y : { x : Pc // x.c.ok } => leP x.1 y.1) (fun a b c h1 h2 => by
        simp only [leP, decide_eq_true_eq] at *
        exact cmpP_ok.trans _ _ _ a.2 b.2 c.2 h1 h2) (fun a b => by
        simp only [leP, Bool.or_eq_true, decide_eq_true_eq]
        have := cmpP_ok.le b.2 a.2
        omega) m
      have h2 : (m.map (·.1)).mergeSort leP = (m.mergeSort fun x y => leP x.1 y.1).map (·.1) := (List.map_mergeSort (f := fun x : { x : Pc // x.c.ok } => x.1) (fun a _ b _ => rfl)).symm
      rw [h2]
      refine List.pairwise_map.2 (h1.imp fun {a b} h => ?_)
      simpa [leP] using h
    have := key (l.attach.map fun x => ⟨x.1, hc x.1 x.2⟩)
    unfold sortP
    simpa [List.map_map, Function.comp_def] using this
  refine List.Perm.eq_of_pairwise (le := fun a b => cmpP a b ≤ 0) (fun a b ha hb h1 h2 => ?_) hs hm (hp.trans (sortP_perm l).symm)
  have ha' : a ∈ l := hp.mem_iff.1 ha
  have hb' : b ∈ l := (sortP_perm l).mem_iff.1 hb
  have h3 := (cmpP_ok.le (hc b hb') (hc a ha')).1 h2
  exact inj a ha' b hb' (cmpP_ix (by omega)).1
theorem PcOk.perm {l l' : List Pc} (h : PcOk l) (hp : l'.Perm l) : PcOk l' :=
  ⟨fun x hx => h.c x (hp.mem_iff.1 hx), fun x hx => h.ix x (hp.mem_iff.1 hx), (hp.map _).nodup_iff.2 h.nd⟩
end Go.Proofs.YtibedaeefnjjlaaGreat
