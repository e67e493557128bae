/- A SECOND LAYER: VALUES AND MEMORY BY WHAT THEY READ AS. A slice that is only read is the list of its elements; memory that the call owns lies under a number of its own; addresses are not spoken of. No conditions. -/
import Derived.Calls
import Derived.Tactics
import Derived.Below
import Derived.Laws.Rows
import Derived.Laws.OwnMore
import Derived.Laws.AppendOwn
import Derived.KernelRfl
namespace Go.Ab
open Go.RowKit
set_option linter.unusedVariables false

/-- What a cell of memory that is only read holds: a value; or a slice with elements of sz cells. -/
inductive RV where
  | v (x : Value)
  | sl (sz : Nat) (es : List (List RV))

/-- But for the blocks of M (and new ones) nothing has turned. -/
structure Upto (M : Nat → Prop) (w w' : World) : Prop where
  os : w'.os = w.os
  tape : w'.tape = w.tape
  output : w'.output = w.output
  size : w.heap.size ≤ w'.heap.size
  block : ∀ k, k < w.heap.size → ¬ M k → w'.heap[k]? = w.heap[k]?
section
variable {M M' : Nat → Prop} {a w w' : World}
theorem Upto.refl (w : World) : Upto M w w := ⟨rfl, rfl, rfl, Nat.le_refl _, fun _ _ _ => rfl⟩
theorem Upto.trans (h : Upto M a w) (k : Upto M w w') : Upto M a w' :=
  ⟨k.os.trans h.os, k.tape.trans h.tape, k.output.trans h.output, Nat.le_trans h.size k.size, fun i h1 h2 => (k.block i (Nat.lt_of_lt_of_le h1 h.size) h2).trans (h.block i h1 h2)⟩
theorem Upto.mono (h : Upto M w w') (hM : ∀ k, k < w.heap.size → M k → M' k) : Upto M' w w' := ⟨h.os, h.tape, h.output, h.size, fun k hk hn => h.block k hk fun hm => hn (hM k hk hm)⟩
theorem Upto.cell (h : Upto M w w') {p : Addr} {u : Value} (hc : w.cell? p = some u) (hM : ¬ M p.block) : w'.cell? p = some u :=
  (World.cell?_of_block (h.block _ (block_lt_of_cell hc) hM)).trans hc
theorem Upto.of_below (hb : Below w.heap.size w w') : Upto M w w' := ⟨hb.os, hb.tape, hb.output, hb.size, fun k hk _ => hb.block k hk⟩
theorem Upto.to_below (h : Upto (fun _ => False) w w') : Below w.heap.size w w' := ⟨h.os, h.tape, h.output, h.size, fun k hk => h.block k hk (fun f => f)⟩
theorem Upto.alloc (w : World) (o : Obj) : Upto M w (w.alloc o) := Upto.of_below ((Below.refl _ _).alloc (Nat.le_refl _) o)
end

mutual
/-- The value u reads so in the world w, outside the blocks of B. -/
def RV.rep (B : Nat → Prop) (w : World) : RV → Value → Prop
  | .v x, u => u = x
  | .sl sz es, u => ∃ A c, u = .slice A es.length c ∧ es.length ≤ c ∧ c ≤ maxLen ∧ (∀ e ∈ es, e.length = sz) ∧ (es ≠ [] → ∃ ad, A = some ad ∧ ad.block < w.heap.size ∧ ¬ B ad.block ∧ RV.rows B w es ad 0)
/-- The cells from j on behind the address. -/
def RV.row (B : Nat → Prop) (w : World) : List RV → Addr → Nat → Prop
  | [], _, _ => True
  | c :: cs, ad, j => (∃ u, w.cell? (ad.add j) = some u ∧ u.oneCell' = true ∧ RV.rep B w c u) ∧ RV.row B w cs ad (j + 1)
def RV.rows (B : Nat → Prop) (w : World) : List (List RV) → Addr → Nat → Prop
  | [], _, _ => True
  | e :: es, ad, j => RV.row B w e ad j ∧ RV.rows B w es ad (j + e.length)
end

theorem add_add (a : Addr) (i j : Nat) : (a.add i).add j = a.add (i + j) := by
  unfold Addr.add
  by_cases hi : i = 0 <;> by_cases hj : j = 0 <;> simp [hi, hj, Nat.add_assoc]
theorem add_block (a : Addr) (n : Nat) : (a.add n).block = a.block := by unfold Addr.add; split <;> rfl

/-- The values us read as the cells cs. -/
inductive RVs (B : Nat → Prop) (w : World) : List RV → List Value → Prop
  | nil : RVs B w [] []
  | cons {c u cs us} : u.oneCell' = true → RV.rep B w c u → RVs B w cs us → RVs B w (c :: cs) (u :: us)

section
variable {B B' : Nat → Prop} {w w' : World}

theorem RV.row_iff (ad : Addr) : ∀ (cs : List RV) (j : Nat), RV.row B w cs ad j ↔ ∀ k c, cs[k]? = some c → ∃ u, w.cell? (ad.add (j + k)) = some u ∧ u.oneCell' = true ∧ RV.rep B w c u
  | [], j => by simp [RV.row]
  | c :: cs, j => by
    rw [RV.row, RV.row_iff ad cs (j + 1)]
    constructor
    · rintro ⟨h0, h⟩ k x hk
      cases k with
      | zero => simp at hk; subst hk; simpa using h0
      | succ k =>
        have := h k x (by simpa using hk)
        rwa [show j + 1 + k = j + (k + 1) by omega] at this
    · intro h
      refine ⟨by simpa using h 0 c (by simp), fun k x hk => ?_⟩
      have := h (k + 1) x (by simpa using hk)
      rwa [show j + (k + 1) = j + 1 + k by omega] at this
theorem RV.rows_flat (ad : Addr) : ∀ (es : List (List RV)) (j : Nat), RV.rows B w es ad j ↔ RV.row B w es.flatten ad j
  | [], j => by simp [RV.rows, RV.row]
  | e :: es, j => by
    rw [RV.rows, RV.rows_flat ad es, List.flatten_cons]
    simp only [RV.row_iff]
    constructor
    · rintro ⟨h1, h2⟩ k c hk
      by_cases hl : k < e.length
      · exact h1 k c (by rwa [List.getElem?_append_left hl] at hk)
      · rw [List.getElem?_append_right (by omega)] at hk
        have := h2 (k - e.length) c hk
        rwa [show j + e.length + (k - e.length) = j + k by omega] at this
    · intro h
      refine ⟨fun k c hk => ?_, fun k c hk => ?_⟩
      · have hl : k < e.length := by
          rcases Nat.lt_or_ge k e.length with h' | h'
          · exact h'
          · rw [List.getElem?_eq_none h'] at hk; cases hk
        exact h k c (by rwa [List.getElem?_append_left hl])
      · have := h (e.length + k) c (by rw [List.getElem?_append_right (by omega)]; simpa using hk)
        rwa [show j + (e.length + k) = j + e.length + k by omega] at this
theorem RV.row_add (ad : Addr) (cs : List RV) (i j : Nat) : RV.row B w cs (ad.add i) j ↔ RV.row B w cs ad (i + j) := by
  simp only [RV.row_iff, add_add, Nat.add_assoc]
theorem RV.row_drop {ad : Addr} {cs : List RV} {j : Nat} (h : RV.row B w cs ad j) (k : Nat) : RV.row B w (cs.drop k) ad (j + k) := by
  rw [RV.row_iff] at h ⊢
  intro i c hi
  have := h (k + i) c (by simpa using hi)
  rwa [show j + (k + i) = j + k + i by omega] at this
theorem RV.row_take {ad : Addr} {cs : List RV} {j : Nat} (h : RV.row B w cs ad j) (k : Nat) : RV.row B w (cs.take k) ad j := by
  rw [RV.row_iff] at h ⊢
  intro i c hi
  rw [List.getElem?_take] at hi
  split at hi
  · exact h i c hi
  · cases hi
theorem flatten_drop_take {α : Type} (sz : Nat) : ∀ (es : List (List α)) (_ : ∀ e ∈ es, e.length = sz) (k : Nat), (es.drop k).flatten = es.flatten.drop (k * sz) ∧ (es.take k).flatten = es.flatten.take (k * sz)
  | [], _, k => by simp
  | e :: es, h, 0 => by simp
  | e :: es, h, k + 1 => by
    have he := h e (by simp)
    have ih := flatten_drop_take sz es (fun x hx => h x (by simp [hx])) k
    simp only [List.drop_succ_cons, List.flatten_cons, List.take_succ_cons, ih.1, ih.2]
    rw [show (k + 1) * sz = e.length + k * sz by rw [he, Nat.add_mul]; omega]
    constructor
    · rw [List.drop_append]
      simp
    · rw [List.take_append, List.take_of_length_le (l := e) (by omega)]
      simp
theorem flatten_len {α : Type} (sz : Nat) : ∀ (es : List (List α)) (_ : ∀ e ∈ es, e.length = sz), es.flatten.length = es.length * sz
  | [], _ => by simp
  | e :: es, h => by
    rw [List.flatten_cons, List.length_append, h e (by simp), flatten_len sz es (fun x hx => h x (by simp [hx])), List.length_cons, Nat.add_mul]
    omega
theorem RV.rows_get {ad : Addr} {es : List (List RV)} {sz j : Nat} (h : RV.rows B w es ad j) (hs : ∀ e ∈ es, e.length = sz) {i : Nat} {e : List RV} (hi : es[i]? = some e) : RV.row B w e (ad.add (i * sz)) j := by
  rw [RV.rows_flat] at h
  have h1 := RV.row_take (RV.row_drop h (i * sz)) sz
  rw [RV.row_add]
  rw [← (flatten_drop_take sz es hs i).1] at h1
  have hl : i < es.length := by
    rcases Nat.lt_or_ge i es.length with h' | h'
    · exact h'
    · rw [List.getElem?_eq_none h'] at hi; cases hi
  rw [List.drop_eq_getElem_cons hl, List.flatten_cons] at h1
  rw [List.getElem?_eq_getElem hl] at hi
  injection hi with hi
  have he := hs e (by rw [← hi]; exact List.getElem_mem hl)
  rw [hi, show sz = e.length from he.symm, List.take_left, he] at h1
  rwa [Nat.add_comm]

mutual
theorem RV.rep_mono (hU : Upto B w w') (hB : ∀ k, k < w.heap.size → B' k → B k) : ∀ (c : RV) (u : Value), RV.rep B w c u → RV.rep B' w' c u
  | .v x, u, h => by rw [RV.rep] at h ⊢; exact h
  | .sl sz es, u, h => by
    rw [RV.rep] at h ⊢
    obtain ⟨A, c, h1, h2, h3, h4, h5⟩ := h
    refine ⟨A, c, h1, h2, h3, h4, fun hne => ?_⟩
    obtain ⟨ad, e, hlt, hb, hr⟩ := h5 hne
    exact ⟨ad, e, Nat.lt_of_lt_of_le hlt hU.size, fun hb' => hb (hB _ hlt hb'), RV.rows_mono hU hB es ad 0 hb hlt hr⟩
theorem RV.row_mono (hU : Upto B w w') (hB : ∀ k, k < w.heap.size → B' k → B k) : ∀ (cs : List RV) (ad : Addr) (j : Nat), ¬ B ad.block → ad.block < w.heap.size → RV.row B w cs ad j → RV.row B' w' cs ad j
  | [], _, _, _, _, _ => by rw [RV.row]; trivial
  | c :: cs, ad, j, hb, hlt, h => by
    rw [RV.row] at h ⊢
    obtain ⟨⟨u, h1, h2, h3⟩, h4⟩ := h
    exact ⟨⟨u, hU.cell h1 (by rwa [add_block]), h2, RV.rep_mono hU hB c u h3⟩, RV.row_mono hU hB cs ad (j + 1) hb hlt h4⟩
theorem RV.rows_mono (hU : Upto B w w') (hB : ∀ k, k < w.heap.size → B' k → B k) : ∀ (es : List (List RV)) (ad : Addr) (j : Nat), ¬ B ad.block → ad.block < w.heap.size → RV.rows B w es ad j → RV.rows B' w' es ad j
  | [], _, _, _, _, _ => by rw [RV.rows]; trivial
  | e :: es, ad, j, hb, hlt, h => by
    rw [RV.rows] at h ⊢
    exact ⟨RV.row_mono hU hB e ad j hb hlt h.1, RV.rows_mono hU hB es ad (j + e.length) hb hlt h.2⟩
end
theorem RVs.mono (hU : Upto B w w') (hB : ∀ k, k < w.heap.size → B' k → B k) {cs : List RV} {us : List Value} (h : RVs B w cs us) : RVs B' w' cs us := by
  induction h with
  | nil => exact .nil
  | cons h1 h2 _ ih => exact .cons h1 (RV.rep_mono hU hB _ _ h2) ih
theorem RVs.len {cs : List RV} {us : List Value} (h : RVs B w cs us) : cs.length = us.length := by
  induction h with
  | nil => rfl
  | cons _ _ _ ih => simp [ih]
theorem RVs.one {cs : List RV} {us : List Value} (h : RVs B w cs us) : ∀ u ∈ us, u.oneCell' = true := by
  induction h with
  | nil => simp
  | cons h1 _ _ ih => simpa using ⟨h1, ih⟩
theorem RVs.append {cs ds : List RV} {us vs : List Value} (h : RVs B w cs us) (k : RVs B w ds vs) : RVs B w (cs ++ ds) (us ++ vs) := by
  induction h with
  | nil => exact k
  | cons h1 h2 _ ih => exact .cons h1 h2 ih
theorem RVs.take {cs : List RV} {us : List Value} (h : RVs B w cs us) : ∀ k, RVs B w (cs.take k) (us.take k) := by
  induction h with
  | nil => intro k; simpa using RVs.nil
  | cons h1 h2 _ ih =>
    intro k
    cases k with
    | zero => exact .nil
    | succ k => exact .cons h1 h2 (ih k)
theorem RVs.get {cs : List RV} {us : List Value} (h : RVs B w cs us) : ∀ {k : Nat} {c : RV}, cs[k]? = some c → ∃ u, us[k]? = some u ∧ u.oneCell' = true ∧ RV.rep B w c u := by
  induction h with
  | nil => intro k c hk; simp at hk
  | cons h1 h2 _ ih =>
    intro k c hk
    cases k with
    | zero => simp at hk; subst hk; exact ⟨_, rfl, h1, h2⟩
    | succ k => simpa using ih (by simpa using hk)
/-- The cells that lie behind an address. -/
theorem RV.row_vals (ad : Addr) : ∀ (cs : List RV) (j : Nat), RV.row B w cs ad j ↔ ∃ us, RVs B w cs us ∧ ∀ k u, us[k]? = some u → w.cell? (ad.add (j + k)) = some u
  | [], j => by
    rw [RV.row]
    exact ⟨fun _ => ⟨[], .nil, by simp⟩, fun _ => trivial⟩
  | c :: cs, j => by
    rw [RV.row, RV.row_vals ad cs (j + 1)]
    constructor
    · rintro ⟨⟨u, h1, h2, h3⟩, us, h4, h5⟩
      refine ⟨u :: us, .cons h2 h3 h4, fun k x hk => ?_⟩
      cases k with
      | zero => simp at hk; subst hk; simpa using h1
      | succ k =>
        have := h5 k x (by simpa using hk)
        rwa [show j + 1 + k = j + (k + 1) by omega] at this
    · rintro ⟨us, h, h5⟩
      cases h with
      | cons h2 h3 h4 =>
        refine ⟨⟨_, by simpa using h5 0 _ rfl, h2, h3⟩, _, h4, fun k x hk => ?_⟩
        have := h5 (k + 1) x (by simpa using hk)
        rwa [show j + (k + 1) = j + 1 + k by omega] at this
end

def blk : Value → Option Nat
  | .pointer (some a) => some a.block
  | .slice (some a) _ _ => some a.block
  | _ => none
/-- What a slot holds: what is only read; a pointer to what is only read; the own slice i; a pointer into the own block i; a pointer to cell f of element k of the own slice i; a struct or an array; results; the own slice i at another length; the slice that the own variable i is; a new slice (in what a call hands back); nothing known. -/
inductive AV where
  | r (c : RV)
  | rp (cs : List RV)
  | ow (i : Nat)
  | pt (i o : Nat)
  | pe (i sz k f : Nat)
  | ag (cs : List AV)
  | tu (xs : List AV)
  | fr (T sz : Nat) (es : List (List RV))
  | ol (i n : Nat)
  | sv (i n : Nat)
  | na

mutual
def AV.rep (Z : Nat → Value) (B : Nat → Prop) (w : World) : AV → Value → Prop
  | .r c, u => RV.rep B w c u
  | .rp cs, u => ∃ ad, u = .pointer (some ad) ∧ ad.block < w.heap.size ∧ ¬ B ad.block ∧ RV.row B w cs ad 0
  | .ow i, u => u = Z i
  | .pt i o, u => ∃ b, blk (Z i) = some b ∧ u = .pointer (some ⟨b, o, none⟩)
  | .pe i sz k f, u => ∃ b, blk (Z i) = some b ∧ u = .pointer (some ⟨b, k * sz + f, none⟩)
  | .ag cs, u => ∃ us, u = .agg us ∧ AV.reps Z B w cs us.toList
  | .tu xs, u => ∃ us, u = .tuple us ∧ AV.reps Z B w xs us.toList
  | .fr _ _ _, _ => False
  | .ol i n, u => ∃ g m c, Z i = .slice (some ⟨g, 0, none⟩) m c ∧ u = .slice (some ⟨g, 0, none⟩) n c
  | .sv i n, u => ∃ b, blk (Z i) = some b ∧ u = .slice (some ⟨b, 0, none⟩) n n
  | .na, _ => True
def AV.reps (Z : Nat → Value) (B : Nat → Prop) (w : World) : List AV → List Value → Prop
  | [], us => us = []
  | c :: cs, us => ∃ u us', us = u :: us' ∧ AV.rep Z B w c u ∧ AV.reps Z B w cs us'
end
mutual
/-- The numbers of own blocks that are named. -/
def AV.ids : AV → List Nat
  | .ow i => [i]
  | .pt i _ => [i]
  | .pe i _ _ _ => [i]
  | .ol i _ => [i]
  | .sv i _ => [i]
  | .ag cs => AV.idss cs
  | .tu xs => AV.idss xs
  | _ => []
def AV.idss : List AV → List Nat
  | [] => []
  | c :: cs => AV.ids c ++ AV.idss cs
end
section
variable {B B' : Nat → Prop} {Z Z' : Nat → Value} {w w' : World}
mutual
theorem AV.rep_mono (hU : Upto B w w') (hB : ∀ k, k < w.heap.size → B' k → B k) : ∀ (c : AV) (_ : ∀ i ∈ c.ids, Z' i = Z i) (u : Value), AV.rep Z B w c u → AV.rep Z' B' w' c u
  | .r c, _, u, h => by rw [AV.rep] at h ⊢; exact RV.rep_mono hU hB c u h
  | .rp cs, _, u, h => by
    rw [AV.rep] at h ⊢
    obtain ⟨ad, e, hlt, hb, hr⟩ := h
    exact ⟨ad, e, Nat.lt_of_lt_of_le hlt hU.size, fun hb' => hb (hB _ hlt hb'), RV.row_mono hU hB cs ad 0 hb hlt hr⟩
  | .ow i, hz, u, h => by rw [AV.rep] at h ⊢; rw [hz i (by simp [AV.ids])]; exact h
  | .pt i o, hz, u, h => by rw [AV.rep] at h ⊢; rw [hz i (by simp [AV.ids])]; exact h
  | .pe i sz k f, hz, u, h => by rw [AV.rep] at h ⊢; rw [hz i (by simp [AV.ids])]; exact h
  | .ag cs, hz, u, h => by
    rw [AV.rep] at h ⊢
    obtain ⟨us, e, h⟩ := h
    exact ⟨us, e, AV.reps_mono hU hB cs (by simpa [AV.ids] using hz) _ h⟩
  | .tu xs, hz, u, h => by
    rw [AV.rep] at h ⊢
    obtain ⟨us, e, h⟩ := h
    exact ⟨us, e, AV.reps_mono hU hB xs (by simpa [AV.ids] using hz) _ h⟩
  | .fr _ _ _, _, u, h => by rw [AV.rep] at h; exact h.elim
  | .ol i n, hz, u, h => by rw [AV.rep] at h ⊢; rw [hz i (by simp [AV.ids])]; exact h
  | .sv i n, hz, u, h => by rw [AV.rep] at h ⊢; rw [hz i (by simp [AV.ids])]; exact h
  | .na, _, u, h => by rw [AV.rep]; trivial
theorem AV.reps_mono (hU : Upto B w w') (hB : ∀ k, k < w.heap.size → B' k → B k) : ∀ (cs : List AV) (_ : ∀ i ∈ AV.idss cs, Z' i = Z i) (us : List Value), AV.reps Z B w cs us → AV.reps Z' B' w' cs us
  | [], _, us, h => by rw [AV.reps] at h ⊢; exact h
  | c :: cs, hz, us, h => by
    rw [AV.reps] at h ⊢
    obtain ⟨u, us', e, h1, h2⟩ := h
    exact ⟨u, us', e, AV.rep_mono hU hB c (fun i hi => hz i (by simp [AV.idss, hi])) u h1, AV.reps_mono hU hB cs (fun i hi => hz i (by simp [AV.idss, hi])) us' h2⟩
end
theorem AV.reps_len {cs : List AV} : ∀ {us : List Value}, AV.reps Z B w cs us → cs.length = us.length := by
  induction cs with
  | nil => intro us h; rw [AV.reps] at h; subst h; rfl
  | cons c cs ih => intro us h; rw [AV.reps] at h; obtain ⟨u, us', rfl, _, h2⟩ := h; simp [ih h2]
theorem AV.reps_get {cs : List AV} : ∀ {us : List Value}, AV.reps Z B w cs us → ∀ {k : Nat} {c : AV}, cs[k]? = some c → ∃ u, us[k]? = some u ∧ AV.rep Z B w c u := by
  induction cs with
  | nil => intro us h k c hk; simp at hk
  | cons c cs ih =>
    intro us h k x hk
    rw [AV.reps] at h
    obtain ⟨u, us', rfl, h1, h2⟩ := h
    cases k with
    | zero => simp at hk; subst hk; exact ⟨_, rfl, h1⟩
    | succ k => simpa using ih h2 (by simpa using hk)
end

/-- What lies under a number: an own slice (row by row); a slice that is full and never stored into; a variable's cells; an own slice of n elements whose row of room c bears the elements es. -/
inductive Blk where
  | row (T sz : Nat) (es : List (List RV))
  | full (T sz : Nat) (es : List (List RV))
  | var (T : Nat) (cs : List AV)
  | rowk (T sz : Nat) (es : List (List RV)) (n c : Nat)
def Blk.ids : Blk → List Nat
  | .row _ _ _ => []
  | .full _ _ _ => []
  | .var _ cs => AV.idss cs
  | .rowk _ _ _ _ _ => []

def held (Z : Nat → Value) (B : Nat → Prop) (w : World) (i : Nat) : Blk → Prop
  | .row T sz es => ∃ us, w.ownsRow 0 T sz (Z i) es.length us ∧ RVs B w es.flatten us ∧ ∀ e ∈ es, e.length = sz
  | .full T sz es => ∃ g us fr, Z i = .slice (some ⟨g, 0, none⟩) es.length es.length ∧ w.heap[g]? = some (.cells us T fr) ∧ es.length ≤ maxLen ∧ RVs B w es.flatten us.toList ∧ ∀ e ∈ es, e.length = sz
  | .var T cs => ∃ b us, Z i = .pointer (some ⟨b, 0, none⟩) ∧ w.heap[b]? = some (.cells us T (0, 0)) ∧ AV.reps Z B w cs us.toList ∧ us.all (·.oneCell') = true
  | .rowk T sz es n c => ∃ g us, Z i = .slice (some ⟨g, 0, none⟩) n c ∧ w.ownsRow 0 T sz (.slice (some ⟨g, 0, none⟩) es.length c) es.length us ∧ n ≤ es.length ∧ RVs B w es.flatten us ∧ ∀ e ∈ es, e.length = sz
theorem heap_lt {w : World} {g : Nat} {o : Obj} (h : w.heap[g]? = some o) : g < w.heap.size := by
  rcases Nat.lt_or_ge g w.heap.size with h' | h'
  · exact h'
  · rw [Array.getElem?_eq_none h'] at h; cases h
section
variable {B B' C : Nat → Prop} {Z Z' : Nat → Value} {w w' : World}
theorem held.lt {i : Nat} {b : Blk} (h : held Z B w i b) {x : Nat} (hx : blk (Z i) = some x) : x < w.heap.size := by
  cases b with
  | row T sz es =>
    obtain ⟨us, h1, _⟩ := h
    rcases h1.2 with ⟨e, _⟩ | ⟨g, cap, cur, e, _, hg, _⟩
    · rw [e] at hx; cases hx
    · rw [e] at hx; simp [blk] at hx; subst hx; exact heap_lt hg
  | full T sz es =>
    obtain ⟨g, us, fr, e, hg, _⟩ := h
    rw [e] at hx; simp [blk] at hx; subst hx; exact heap_lt hg
  | var T cs =>
    obtain ⟨b, us, e, hg, _⟩ := h
    rw [e] at hx; simp [blk] at hx; subst hx; exact heap_lt hg
  | rowk T sz es n c =>
    obtain ⟨g, us, e, h1, _⟩ := h
    rcases h1.2 with ⟨e', _⟩ | ⟨g', cap, cur, e', _, hg, _⟩
    · cases e'
    · injection e' with e1; injection e1 with e1; injection e1 with e1; subst e1
      rw [e] at hx; simp [blk] at hx; subst hx; exact heap_lt hg
/-- What lies under a number stays while its own block does. -/
theorem held.keep {i : Nat} {b : Blk} (h : held Z B w i b) (hU : Upto B w w') (hB : ∀ k, k < w.heap.size → B' k → B k) (hz : Z' i = Z i) (hzs : ∀ j ∈ b.ids, Z' j = Z j)
    (hk : ∀ x, blk (Z i) = some x → w'.heap[x]? = w.heap[x]?) : held Z' B' w' i b := by
  cases b with
  | row T sz es =>
    obtain ⟨us, h1, h2, h3⟩ := h
    refine ⟨us, ⟨h1.1, ?_⟩, h2.mono hU hB, h3⟩
    rw [hz]
    rcases h1.2 with h0 | ⟨g, cap, cur, e, hb, hg, r⟩
    · exact .inl h0
    · exact .inr ⟨g, cap, cur, e, hb, (hk g (by rw [e]; rfl)).trans hg, r⟩
  | full T sz es =>
    obtain ⟨g, us, fr, e, hg, h1, h2, h3⟩ := h
    exact ⟨g, us, fr, hz.trans e, (hk g (by rw [e]; rfl)).trans hg, h1, h2.mono hU hB, h3⟩
  | var T cs =>
    obtain ⟨b, us, e, hg, h2, h3⟩ := h
    exact ⟨b, us, hz.trans e, (hk b (by rw [e]; rfl)).trans hg, AV.reps_mono hU hB cs hzs _ h2, h3⟩
  | rowk T sz es n c =>
    obtain ⟨g, us, e, h1, hn, h2, h3⟩ := h
    refine ⟨g, us, hz.trans e, ⟨h1.1, ?_⟩, hn, h2.mono hU hB, h3⟩
    rcases h1.2 with ⟨e', _⟩ | ⟨g', cap, cur, e', hb, hg, r⟩
    · cases e'
    · have hg' : g = g' := by injection e' with e1; injection e1 with e1; injection e1 with e1
      subst hg'
      exact .inr ⟨g, cap, cur, e', hb, (hk g (by rw [e]; rfl)).trans hg, r⟩
theorem held.anti {i : Nat} {b : Blk} (h : held Z B w i b) (hB : ∀ k, k < w.heap.size → B' k → B k) : held Z B' w i b := h.keep (Upto.refl _) hB rfl (fun _ _ => rfl) (fun _ _ => rfl)
end
end Go.Ab
