/- Texts of the second layer in one: Ab1 Ab2. -/
import Derived.Calls
import Derived.Tactics
import Derived.Below
import Derived.Laws.Rows
import Derived.Laws.OwnMore
import Derived.Laws.AppendOwn
import Derived.KernelRfl
import Derived.Test.YtibedaeefnjjlaaGreatAu
/- A SECOND LAYER: VALUES AND MEMORY BY WHAT THEY READ AS. A slice that is only read is the list of its elements; memory that the call owns lies under a number of its own; addresses are not spoken of. No conditions. -/
namespace Go.Ab
open Go.RowKit
set_option linter.unusedVariables false

/-- What a cell of memory that is only read holds: a value; or a slice with elements of sz cells. -/
inductive RV where
  | v (x : Value)
  | sl (sz : Nat) (es : List (List RV))

/-- But for the blocks of M (and new ones) nothing has turned. -/
structure Upto (M : Nat → Prop) (w w' : World) : Prop where
  os : w'.os = w.os
  tape : w'.tape = w.tape
  output : w'.output = w.output
  size : w.heap.size ≤ w'.heap.size
  block : ∀ k, k < w.heap.size → ¬ M k → w'.heap[k]? = w.heap[k]?
section
variable {M M' : Nat → Prop} {a w w' : World}
theorem Upto.refl (w : World) : Upto M w w := ⟨rfl, rfl, rfl, Nat.le_refl _, fun _ _ _ => rfl⟩
theorem Upto.trans (h : Upto M a w) (k : Upto M w w') : Upto M a w' :=
  ⟨k.os.trans h.os, k.tape.trans h.tape, k.output.trans h.output, Nat.le_trans h.size k.size, fun i h1 h2 => (k.block i (Nat.lt_of_lt_of_le h1 h.size) h2).trans (h.block i h1 h2)⟩
theorem Upto.mono (h : Upto M w w') (hM : ∀ k, k < w.heap.size → M k → M' k) : Upto M' w w' := ⟨h.os, h.tape, h.output, h.size, fun k hk hn => h.block k hk fun hm => hn (hM k hk hm)⟩
theorem Upto.cell (h : Upto M w w') {p : Addr} {u : Value} (hc : w.cell? p = some u) (hM : ¬ M p.block) : w'.cell? p = some u :=
  (World.cell?_of_block (h.block _ (block_lt_of_cell hc) hM)).trans hc
theorem Upto.of_below (hb : Below w.heap.size w w') : Upto M w w' := ⟨hb.os, hb.tape, hb.output, hb.size, fun k hk _ => hb.block k hk⟩
theorem Upto.to_below (h : Upto (fun _ => False) w w') : Below w.heap.size w w' := ⟨h.os, h.tape, h.output, h.size, fun k hk => h.block k hk (fun f => f)⟩
theorem Upto.alloc (w : World) (o : Obj) : Upto M w (w.alloc o) := Upto.of_below ((Below.refl _ _).alloc (Nat.le_refl _) o)
end

mutual
/-- The value u reads so in the world w, outside the blocks of B. -/
def RV.rep (B : Nat → Prop) (w : World) : RV → Value → Prop
  | .v x, u => u = x
  | .sl sz es, u => ∃ A c, u = .slice A es.length c ∧ es.length ≤ c ∧ c ≤ maxLen ∧ (∀ e ∈ es, e.length = sz) ∧ (es ≠ [] → ∃ ad, A = some ad ∧ ad.block < w.heap.size ∧ ¬ B ad.block ∧ RV.rows B w es ad 0)
/-- The cells from j on behind the address. -/
def RV.row (B : Nat → Prop) (w : World) : List RV → Addr → Nat → Prop
  | [], _, _ => True
  | c :: cs, ad, j => (∃ u, w.cell? (ad.add j) = some u ∧ u.oneCell' = true ∧ RV.rep B w c u) ∧ RV.row B w cs ad (j + 1)
def RV.rows (B : Nat → Prop) (w : World) : List (List RV) → Addr → Nat → Prop
  | [], _, _ => True
  | e :: es, ad, j => RV.row B w e ad j ∧ RV.rows B w es ad (j + e.length)
end

theorem add_add (a : Addr) (i j : Nat) : (a.add i).add j = a.add (i + j) := by
  unfold Addr.add
  by_cases hi : i = 0 <;> by_cases hj : j = 0 <;> simp [hi, hj, Nat.add_assoc]
theorem add_block (a : Addr) (n : Nat) : (a.add n).block = a.block := by unfold Addr.add; split <;> rfl

/-- The values us read as the cells cs. -/
inductive RVs (B : Nat → Prop) (w : World) : List RV → List Value → Prop
  | nil : RVs B w [] []
  | cons {c u cs us} : u.oneCell' = true → RV.rep B w c u → RVs B w cs us → RVs B w (c :: cs) (u :: us)

section
variable {B B' : Nat → Prop} {w w' : World}

theorem RV.row_iff (ad : Addr) : ∀ (cs : List RV) (j : Nat), RV.row B w cs ad j ↔ ∀ k c, cs[k]? = some c → ∃ u, w.cell? (ad.add (j + k)) = some u ∧ u.oneCell' = true ∧ RV.rep B w c u
  | [], j => by simp [RV.row]
  | c :: cs, j => by
    rw [RV.row, RV.row_iff ad cs (j + 1)]
    constructor
    · rintro ⟨h0, h⟩ k x hk
      cases k with
      | zero => simp at hk; subst hk; simpa using h0
      | succ k =>
        have := h k x (by simpa using hk)
        rwa [show j + 1 + k = j + (k + 1) by omega] at this
    · intro h
      refine ⟨by simpa using h 0 c (by simp), fun k x hk => ?_⟩
      have := h (k + 1) x (by simpa using hk)
      rwa [show j + (k + 1) = j + 1 + k by omega] at this
theorem RV.rows_flat (ad : Addr) : ∀ (es : List (List RV)) (j : Nat), RV.rows B w es ad j ↔ RV.row B w es.flatten ad j
  | [], j => by simp [RV.rows, RV.row]
  | e :: es, j => by
    rw [RV.rows, RV.rows_flat ad es, List.flatten_cons]
    simp only [RV.row_iff]
    constructor
    · rintro ⟨h1, h2⟩ k c hk
      by_cases hl : k < e.length
      · exact h1 k c (by rwa [List.getElem?_append_left hl] at hk)
      · rw [List.getElem?_append_right (by omega)] at hk
        have := h2 (k - e.length) c hk
        rwa [show j + e.length + (k - e.length) = j + k by omega] at this
    · intro h
      refine ⟨fun k c hk => ?_, fun k c hk => ?_⟩
      · have hl : k < e.length := by
          rcases Nat.lt_or_ge k e.length with h' | h'
          · exact h'
          · rw [List.getElem?_eq_none h'] at hk; cases hk
        exact h k c (by rwa [List.getElem?_append_left hl])
      · have := h (e.length + k) c (by rw [List.getElem?_append_right (by omega)]; simpa using hk)
        rwa [show j + (e.length + k) = j + e.length + k by omega] at this
theorem RV.row_add (ad : Addr) (cs : List RV) (i j : Nat) : RV.row B w cs (ad.add i) j ↔ RV.row B w cs ad (i + j) := by
  simp only [RV.row_iff, add_add, Nat.add_assoc]
theorem RV.row_drop {ad : Addr} {cs : List RV} {j : Nat} (h : RV.row B w cs ad j) (k : Nat) : RV.row B w (cs.drop k) ad (j + k) := by
  rw [RV.row_iff] at h ⊢
  intro i c hi
  have := h (k + i) c (by simpa using hi)
  rwa [show j + (k + i) = j + k + i by omega] at this
theorem RV.row_take {ad : Addr} {cs : List RV} {j : Nat} (h : RV.row B w cs ad j) (k : Nat) : RV.row B w (cs.take k) ad j := by
  rw [RV.row_iff] at h ⊢
  intro i c hi
  rw [List.getElem?_take] at hi
  split at hi
  · exact h i c hi
  · cases hi
theorem flatten_drop_take {α : Type} (sz : Nat) : ∀ (es : List (List α)) (_ : ∀ e ∈ es, e.length = sz) (k : Nat), (es.drop k).flatten = es.flatten.drop (k * sz) ∧ (es.take k).flatten = es.flatten.take (k * sz)
  | [], _, k => by simp
  | e :: es, h, 0 => by simp
  | e :: es, h, k + 1 => by
    have he := h e (by simp)
    have ih := flatten_drop_take sz es (fun x hx => h x (by simp [hx])) k
    simp only [List.drop_succ_cons, List.flatten_cons, List.take_succ_cons, ih.1, ih.2]
    rw [show (k + 1) * sz = e.length + k * sz by rw [he, Nat.add_mul]; omega]
    constructor
    · rw [List.drop_append]
      simp
    · rw [List.take_append, List.take_of_length_le (l := e) (by omega)]
      simp
theorem flatten_len {α : Type} (sz : Nat) : ∀ (es : List (List α)) (_ : ∀ e ∈ es, e.length = sz), es.flatten.length = es.length * sz
  | [], _ => by simp
  | e :: es, h => by
    rw [List.flatten_cons, List.length_append, h e (by simp), flatten_len sz es (fun x hx => h x (by simp [hx])), List.length_cons, Nat.add_mul]
    omega
theorem RV.rows_get {ad : Addr} {es : List (List RV)} {sz j : Nat} (h : RV.rows B w es ad j) (hs : ∀ e ∈ es, e.length = sz) {i : Nat} {e : List RV} (hi : es[i]? = some e) : RV.row B w e (ad.add (i * sz)) j := by
  rw [RV.rows_flat] at h
  have h1 := RV.row_take (RV.row_drop h (i * sz)) sz
  rw [RV.row_add]
  rw [← (flatten_drop_take sz es hs i).1] at h1
  have hl : i < es.length := by
    rcases Nat.lt_or_ge i es.length with h' | h'
    · exact h'
    · rw [List.getElem?_eq_none h'] at hi; cases hi
  rw [List.drop_eq_getElem_cons hl, List.flatten_cons] at h1
  rw [List.getElem?_eq_getElem hl] at hi
  injection hi with hi
  have he := hs e (by rw [← hi]; exact List.getElem_mem hl)
  rw [hi, show sz = e.length from he.symm, List.take_left, he] at h1
  rwa [Nat.add_comm]

mutual
theorem RV.rep_mono (hU : Upto B w w') (hB : ∀ k, k < w.heap.size → B' k → B k) : ∀ (c : RV) (u : Value), RV.rep B w c u → RV.rep B' w' c u
  | .v x, u, h => by rw [RV.rep] at h ⊢; exact h
  | .sl sz es, u, h => by
    rw [RV.rep] at h ⊢
    obtain ⟨A, c, h1, h2, h3, h4, h5⟩ := h
    refine ⟨A, c, h1, h2, h3, h4, fun hne => ?_⟩
    obtain ⟨ad, e, hlt, hb, hr⟩ := h5 hne
    exact ⟨ad, e, Nat.lt_of_lt_of_le hlt hU.size, fun hb' => hb (hB _ hlt hb'), RV.rows_mono hU hB es ad 0 hb hlt hr⟩
theorem RV.row_mono (hU : Upto B w w') (hB : ∀ k, k < w.heap.size → B' k → B k) : ∀ (cs : List RV) (ad : Addr) (j : Nat), ¬ B ad.block → ad.block < w.heap.size → RV.row B w cs ad j → RV.row B' w' cs ad j
  | [], _, _, _, _, _ => by rw [RV.row]; trivial
  | c :: cs, ad, j, hb, hlt, h => by
    rw [RV.row] at h ⊢
    obtain ⟨⟨u, h1, h2, h3⟩, h4⟩ := h
    exact ⟨⟨u, hU.cell h1 (by rwa [add_block]), h2, RV.rep_mono hU hB c u h3⟩, RV.row_mono hU hB cs ad (j + 1) hb hlt h4⟩
theorem RV.rows_mono (hU : Upto B w w') (hB : ∀ k, k < w.heap.size → B' k → B k) : ∀ (es : List (List RV)) (ad : Addr) (j : Nat), ¬ B ad.block → ad.block < w.heap.size → RV.rows B w es ad j → RV.rows B' w' es ad j
  | [], _, _, _, _, _ => by rw [RV.rows]; trivial
  | e :: es, ad, j, hb, hlt, h => by
    rw [RV.rows] at h ⊢
    exact ⟨RV.row_mono hU hB e ad j hb hlt h.1, RV.rows_mono hU hB es ad (j + e.length) hb hlt h.2⟩
end
theorem RVs.mono (hU : Upto B w w') (hB : ∀ k, k < w.heap.size → B' k → B k) {cs : List RV} {us : List Value} (h : RVs B w cs us) : RVs B' w' cs us := by
  induction h with
  | nil => exact .nil
  | cons h1 h2 _ ih => exact .cons h1 (RV.rep_mono hU hB _ _ h2) ih
theorem RVs.len {cs : List RV} {us : List Value} (h : RVs B w cs us) : cs.length = us.length := by
  induction h with
  | nil => rfl
  | cons _ _ _ ih => simp [ih]
theorem RVs.one {cs : List RV} {us : List Value} (h : RVs B w cs us) : ∀ u ∈ us, u.oneCell' = true := by
  induction h with
  | nil => simp
  | cons h1 _ _ ih => simpa using ⟨h1, ih⟩
theorem RVs.append {cs ds : List RV} {us vs : List Value} (h : RVs B w cs us) (k : RVs B w ds vs) : RVs B w (cs ++ ds) (us ++ vs) := by
  induction h with
  | nil => exact k
  | cons h1 h2 _ ih => exact .cons h1 h2 ih
theorem RVs.take {cs : List RV} {us : List Value} (h : RVs B w cs us) : ∀ k, RVs B w (cs.take k) (us.take k) := by
  induction h with
  | nil => intro k; simpa using RVs.nil
  | cons h1 h2 _ ih =>
    intro k
    cases k with
    | zero => exact .nil
    | succ k => exact .cons h1 h2 (ih k)
theorem RVs.get {cs : List RV} {us : List Value} (h : RVs B w cs us) : ∀ {k : Nat} {c : RV}, cs[k]? = some c → ∃ u, us[k]? = some u ∧ u.oneCell' = true ∧ RV.rep B w c u := by
  induction h with
  | nil => intro k c hk; simp at hk
  | cons h1 h2 _ ih =>
    intro k c hk
    cases k with
    | zero => simp at hk; subst hk; exact ⟨_, rfl, h1, h2⟩
    | succ k => simpa using ih (by simpa using hk)
/-- The cells that lie behind an address. -/
theorem RV.row_vals (ad : Addr) : ∀ (cs : List RV) (j : Nat), RV.row B w cs ad j ↔ ∃ us, RVs B w cs us ∧ ∀ k u, us[k]? = some u → w.cell? (ad.add (j + k)) = some u
  | [], j => by
    rw [RV.row]
    exact ⟨fun _ => ⟨[], .nil, by simp⟩, fun _ => trivial⟩
  | c :: cs, j => by
    rw [RV.row, RV.row_vals ad cs (j + 1)]
    constructor
    · rintro ⟨⟨u, h1, h2, h3⟩, us, h4, h5⟩
      refine ⟨u :: us, .cons h2 h3 h4, fun k x hk => ?_⟩
      cases k with
      | zero => simp at hk; subst hk; simpa using h1
      | succ k =>
        have := h5 k x (by simpa using hk)
        rwa [show j + 1 + k = j + (k + 1) by omega] at this
    · rintro ⟨us, h, h5⟩
      cases h with
      | cons h2 h3 h4 =>
        refine ⟨⟨_, by simpa using h5 0 _ rfl, h2, h3⟩, _, h4, fun k x hk => ?_⟩
        have := h5 (k + 1) x (by simpa using hk)
        rwa [show j + (k + 1) = j + 1 + k by omega] at this
end

def blk : Value → Option Nat
  | .pointer (some a) => some a.block
  | .slice (some a) _ _ => some a.block
  | .map (some b) => some b
  | _ => none
/-- What a slot holds: what is only read; a pointer to what is only read; the own slice i; a pointer into the own block i; a pointer to cell f of element k of the own slice i; a struct or an array; results; the own slice i at another length; the slice that the own variable i is; a function with what it has captured; a new slice (in what a call hands back); nothing known. -/
inductive AV where
  | r (c : RV)
  | rp (cs : List RV)
  | ow (i : Nat)
  | pt (i o : Nat)
  | pe (i sz k f : Nat)
  | ag (cs : List AV)
  | tu (xs : List AV)
  | fr (T sz : Nat) (es : List (List RV))
  | ol (i n : Nat)
  | sv (i n : Nat)
  | so (i o n c : Nat)
  | cl (f : Nat) (cs : List AV)
  | na

mutual
def AV.rep (Z : Nat → Value) (B : Nat → Prop) (w : World) : AV → Value → Prop
  | .r c, u => RV.rep B w c u
  | .rp cs, u => ∃ ad, u = .pointer (some ad) ∧ ad.block < w.heap.size ∧ ¬ B ad.block ∧ RV.row B w cs ad 0
  | .ow i, u => u = Z i
  | .pt i o, u => ∃ b, blk (Z i) = some b ∧ u = .pointer (some ⟨b, o, none⟩)
  | .pe i sz k f, u => ∃ b, blk (Z i) = some b ∧ u = .pointer (some ⟨b, k * sz + f, none⟩)
  | .ag cs, u => ∃ us, u = .agg us ∧ AV.reps Z B w cs us.toList
  | .tu xs, u => ∃ us, u = .tuple us ∧ AV.reps Z B w xs us.toList
  | .fr _ _ _, _ => False
  | .ol i n, u => ∃ g m c, Z i = .slice (some ⟨g, 0, none⟩) m c ∧ u = .slice (some ⟨g, 0, none⟩) n c
  | .sv i n, u => ∃ b, blk (Z i) = some b ∧ u = .slice (some ⟨b, 0, none⟩) n n
  | .so i o n c, u => ∃ b, blk (Z i) = some b ∧ u = .slice (some ⟨b, o, none⟩) n c
  | .cl f cs, u => ∃ us, u = .func (.func f) #[] us ∧ AV.reps Z B w cs us.toList
  | .na, _ => True
def AV.reps (Z : Nat → Value) (B : Nat → Prop) (w : World) : List AV → List Value → Prop
  | [], us => us = []
  | c :: cs, us => ∃ u us', us = u :: us' ∧ AV.rep Z B w c u ∧ AV.reps Z B w cs us'
end
mutual
/-- The numbers of own blocks that are named. -/
def AV.ids : AV → List Nat
  | .ow i => [i]
  | .pt i _ => [i]
  | .pe i _ _ _ => [i]
  | .ol i _ => [i]
  | .sv i _ => [i]
  | .so i _ _ _ => [i]
  | .cl _ cs => AV.idss cs
  | .ag cs => AV.idss cs
  | .tu xs => AV.idss xs
  | _ => []
def AV.idss : List AV → List Nat
  | [] => []
  | c :: cs => AV.ids c ++ AV.idss cs
end
section
variable {B B' : Nat → Prop} {Z Z' : Nat → Value} {w w' : World}
mutual
theorem AV.rep_mono (hU : Upto B w w') (hB : ∀ k, k < w.heap.size → B' k → B k) : ∀ (c : AV) (_ : ∀ i ∈ c.ids, Z' i = Z i) (u : Value), AV.rep Z B w c u → AV.rep Z' B' w' c u
  | .r c, _, u, h => by rw [AV.rep] at h ⊢; exact RV.rep_mono hU hB c u h
  | .rp cs, _, u, h => by
    rw [AV.rep] at h ⊢
    obtain ⟨ad, e, hlt, hb, hr⟩ := h
    exact ⟨ad, e, Nat.lt_of_lt_of_le hlt hU.size, fun hb' => hb (hB _ hlt hb'), RV.row_mono hU hB cs ad 0 hb hlt hr⟩
  | .ow i, hz, u, h => by rw [AV.rep] at h ⊢; rw [hz i (by simp [AV.ids])]; exact h
  | .pt i o, hz, u, h => by rw [AV.rep] at h ⊢; rw [hz i (by simp [AV.ids])]; exact h
  | .pe i sz k f, hz, u, h => by rw [AV.rep] at h ⊢; rw [hz i (by simp [AV.ids])]; exact h
  | .ag cs, hz, u, h => by
    rw [AV.rep] at h ⊢
    obtain ⟨us, e, h⟩ := h
    exact ⟨us, e, AV.reps_mono hU hB cs (by simpa [AV.ids] using hz) _ h⟩
  | .tu xs, hz, u, h => by
    rw [AV.rep] at h ⊢
    obtain ⟨us, e, h⟩ := h
    exact ⟨us, e, AV.reps_mono hU hB xs (by simpa [AV.ids] using hz) _ h⟩
  | .fr _ _ _, _, u, h => by rw [AV.rep] at h; exact h.elim
  | .ol i n, hz, u, h => by rw [AV.rep] at h ⊢; rw [hz i (by simp [AV.ids])]; exact h
  | .sv i n, hz, u, h => by rw [AV.rep] at h ⊢; rw [hz i (by simp [AV.ids])]; exact h
  | .so i o n c, hz, u, h => by rw [AV.rep] at h ⊢; rw [hz i (by simp [AV.ids])]; exact h
  | .cl f cs, hz, u, h => by
    rw [AV.rep] at h ⊢
    obtain ⟨us, e, h⟩ := h
    exact ⟨us, e, AV.reps_mono hU hB cs (by simpa [AV.ids] using hz) _ h⟩
  | .na, _, u, h => by rw [AV.rep]; trivial
theorem AV.reps_mono (hU : Upto B w w') (hB : ∀ k, k < w.heap.size → B' k → B k) : ∀ (cs : List AV) (_ : ∀ i ∈ AV.idss cs, Z' i = Z i) (us : List Value), AV.reps Z B w cs us → AV.reps Z' B' w' cs us
  | [], _, us, h => by rw [AV.reps] at h ⊢; exact h
  | c :: cs, hz, us, h => by
    rw [AV.reps] at h ⊢
    obtain ⟨u, us', e, h1, h2⟩ := h
    exact ⟨u, us', e, AV.rep_mono hU hB c (fun i hi => hz i (by simp [AV.idss, hi])) u h1, AV.reps_mono hU hB cs (fun i hi => hz i (by simp [AV.idss, hi])) us' h2⟩
end
theorem AV.reps_len {cs : List AV} : ∀ {us : List Value}, AV.reps Z B w cs us → cs.length = us.length := by
  induction cs with
  | nil => intro us h; rw [AV.reps] at h; subst h; rfl
  | cons c cs ih => intro us h; rw [AV.reps] at h; obtain ⟨u, us', rfl, _, h2⟩ := h; simp [ih h2]
theorem AV.reps_get {cs : List AV} : ∀ {us : List Value}, AV.reps Z B w cs us → ∀ {k : Nat} {c : AV}, cs[k]? = some c → ∃ u, us[k]? = some u ∧ AV.rep Z B w c u := by
  induction cs with
  | nil => intro us h k c hk; simp at hk
  | cons c cs ih =>
    intro us h k x hk
    rw [AV.reps] at h
    obtain ⟨u, us', rfl, h1, h2⟩ := h
    cases k with
    | zero => simp at hk; subst hk; exact ⟨_, rfl, h1⟩
    | succ k => simpa using ih h2 (by simpa using hk)
end

/-- What lies under a number: an own slice (row by row); a slice that is full and never stored into; a variable's cells; an own slice of n elements whose row of room c bears the elements es; an own slice whose last element may bear own slices; an own map with the keys l, each under true; an object that is no row of cells. -/
inductive Blk where
  | row (T sz : Nat) (es : List (List RV))
  | full (T sz : Nat) (es : List (List RV))
  | var (T : Nat) (cs : List AV)
  | rowk (T sz : Nat) (es : List (List RV)) (n c : Nat)
  | rowo (T sz : Nat) (es : List (List RV)) (cs : List AV)
  | mp (l : List Int)
  | obj (o : Obj)
def Blk.ids : Blk → List Nat
  | .row _ _ _ => []
  | .full _ _ _ => []
  | .var _ cs => AV.idss cs
  | .rowk _ _ _ _ _ => []
  | .rowo _ _ _ cs => AV.idss cs
  | .mp _ => []
  | .obj _ => []

def held (Z : Nat → Value) (B : Nat → Prop) (w : World) (i : Nat) : Blk → Prop
  | .row T sz es => ∃ us, w.ownsRow 0 T sz (Z i) es.length us ∧ RVs B w es.flatten us ∧ ∀ e ∈ es, e.length = sz
  | .full T sz es => ∃ g us fr, Z i = .slice (some ⟨g, 0, none⟩) es.length es.length ∧ w.heap[g]? = some (.cells us T fr) ∧ es.length ≤ maxLen ∧ RVs B w es.flatten us.toList ∧ ∀ e ∈ es, e.length = sz
  | .var T cs => ∃ b us, Z i = .pointer (some ⟨b, 0, none⟩) ∧ w.heap[b]? = some (.cells us T (0, 0)) ∧ AV.reps Z B w cs us.toList ∧ us.all (·.oneCell') = true
  | .rowk T sz es n c => ∃ g us, Z i = .slice (some ⟨g, 0, none⟩) n c ∧ w.ownsRow 0 T sz (.slice (some ⟨g, 0, none⟩) es.length c) es.length us ∧ n ≤ es.length ∧ RVs B w es.flatten us ∧ ∀ e ∈ es, e.length = sz
  | .rowo T sz es cs => ∃ us vs, w.ownsRow 0 T sz (Z i) (es.length + 1) (us ++ vs) ∧ RVs B w es.flatten us ∧ AV.reps Z B w cs vs ∧ (∀ e ∈ es, e.length = sz) ∧ cs.length = sz ∧ vs.all (·.oneCell') = true
  | .mp l => ∃ b es clock, Z i = .map (some b) ∧ w.heap[b]? = some (.map es clock) ∧ es.toList.map (fun e => (e.key, e.val)) = l.map fun k => (Value.int .i64 k, Value.bool true)
  | .obj o => ∃ b, Z i = .pointer (some ⟨b, 0, none⟩) ∧ w.heap[b]? = some o ∧ ∀ cs T fr, o ≠ .cells cs T fr
theorem heap_lt {w : World} {g : Nat} {o : Obj} (h : w.heap[g]? = some o) : g < w.heap.size := by
  rcases Nat.lt_or_ge g w.heap.size with h' | h'
  · exact h'
  · rw [Array.getElem?_eq_none h'] at h; cases h
section
variable {B B' C : Nat → Prop} {Z Z' : Nat → Value} {w w' : World}
theorem held.lt {i : Nat} {b : Blk} (h : held Z B w i b) {x : Nat} (hx : blk (Z i) = some x) : x < w.heap.size := by
  cases b with
  | row T sz es =>
    obtain ⟨us, h1, _⟩ := h
    rcases h1.2 with ⟨e, _⟩ | ⟨g, cap, cur, e, _, hg, _⟩
    · rw [e] at hx; cases hx
    · rw [e] at hx; simp [blk] at hx; subst hx; exact heap_lt hg
  | full T sz es =>
    obtain ⟨g, us, fr, e, hg, _⟩ := h
    rw [e] at hx; simp [blk] at hx; subst hx; exact heap_lt hg
  | var T cs =>
    obtain ⟨b, us, e, hg, _⟩ := h
    rw [e] at hx; simp [blk] at hx; subst hx; exact heap_lt hg
  | rowk T sz es n c =>
    obtain ⟨g, us, e, h1, _⟩ := h
    rcases h1.2 with ⟨e', _⟩ | ⟨g', cap, cur, e', _, hg, _⟩
    · cases e'
    · injection e' with e1; injection e1 with e1; injection e1 with e1; subst e1
      rw [e] at hx; simp [blk] at hx; subst hx; exact heap_lt hg
  | rowo T sz es cs =>
    obtain ⟨us, vs, h1, _⟩ := h
    rcases h1.2 with ⟨e, _⟩ | ⟨g, cap, cur, e, _, hg, _⟩
    · rw [e] at hx; cases hx
    · rw [e] at hx; simp [blk] at hx; subst hx; exact heap_lt hg
  | mp l =>
    obtain ⟨b, es, clock, e, hg, _⟩ := h
    rw [e] at hx; simp [blk] at hx; subst hx; exact heap_lt hg
  | obj o =>
    obtain ⟨b, e, hg, _⟩ := h
    rw [e] at hx; simp [blk] at hx; subst hx; exact heap_lt hg
/-- What lies under a number stays while its own block does. -/
theorem held.keep {i : Nat} {b : Blk} (h : held Z B w i b) (hU : Upto B w w') (hB : ∀ k, k < w.heap.size → B' k → B k) (hz : Z' i = Z i) (hzs : ∀ j ∈ b.ids, Z' j = Z j)
    (hk : ∀ x, blk (Z i) = some x → w'.heap[x]? = w.heap[x]?) : held Z' B' w' i b := by
  cases b with
  | row T sz es =>
    obtain ⟨us, h1, h2, h3⟩ := h
    refine ⟨us, ⟨h1.1, ?_⟩, h2.mono hU hB, h3⟩
    rw [hz]
    rcases h1.2 with h0 | ⟨g, cap, cur, e, hb, hg, r⟩
    · exact .inl h0
    · exact .inr ⟨g, cap, cur, e, hb, (hk g (by rw [e]; rfl)).trans hg, r⟩
  | full T sz es =>
    obtain ⟨g, us, fr, e, hg, h1, h2, h3⟩ := h
    exact ⟨g, us, fr, hz.trans e, (hk g (by rw [e]; rfl)).trans hg, h1, h2.mono hU hB, h3⟩
  | var T cs =>
    obtain ⟨b, us, e, hg, h2, h3⟩ := h
    exact ⟨b, us, hz.trans e, (hk b (by rw [e]; rfl)).trans hg, AV.reps_mono hU hB cs hzs _ h2, h3⟩
  | rowk T sz es n c =>
    obtain ⟨g, us, e, h1, hn, h2, h3⟩ := h
    refine ⟨g, us, hz.trans e, ⟨h1.1, ?_⟩, hn, h2.mono hU hB, h3⟩
    rcases h1.2 with ⟨e', _⟩ | ⟨g', cap, cur, e', hb, hg, r⟩
    · cases e'
    · have hg' : g = g' := by injection e' with e1; injection e1 with e1; injection e1 with e1
      subst hg'
      exact .inr ⟨g, cap, cur, e', hb, (hk g (by rw [e]; rfl)).trans hg, r⟩
  | rowo T sz es cs =>
    obtain ⟨us, vs, h1, h2, h3, h4⟩ := h
    refine ⟨us, vs, ⟨h1.1, ?_⟩, h2.mono hU hB, AV.reps_mono hU hB cs hzs _ h3, h4⟩
    rw [hz]
    rcases h1.2 with h0 | ⟨g, cap, cur, e, hb, hg, r⟩
    · exact .inl h0
    · exact .inr ⟨g, cap, cur, e, hb, (hk g (by rw [e]; rfl)).trans hg, r⟩
  | mp l =>
    obtain ⟨b, es, clock, e, hg, h3⟩ := h
    exact ⟨b, es, clock, hz.trans e, (hk b (by rw [e]; rfl)).trans hg, h3⟩
  | obj o =>
    obtain ⟨b, e, hg, h3⟩ := h
    exact ⟨b, hz.trans e, (hk b (by rw [e]; rfl)).trans hg, h3⟩
theorem held.anti {i : Nat} {b : Blk} (h : held Z B w i b) (hB : ∀ k, k < w.heap.size → B' k → B k) : held Z B' w i b := h.keep (Upto.refl _) hB rfl (fun _ _ => rfl) (fun _ _ => rfl)
end
end Go.Ab

/- The second layer: what is known of a run, and what one operation does to it. No conditions. -/
namespace Go.Ab
open Go.RowKit
set_option linter.unusedVariables false

/-- How many of the caller's blocks are lent; the first m of them are handed over. -/
structure Ln where
  n : Nat
  m : Nat
/-- Where a call began: the program, the world, the caller's own blocks, those of them that were lent, the number of slots; the calls that are deferred. -/
structure Cx where
  P : Program
  w0 : World
  M0 : Nat → Prop
  Z0 : Nat → Value
  ln : Ln
  N : Nat
  df : List Deferred := []
def Cx.nl (C : Cx) : Nat := C.ln.n
def Cx.lent (C : Cx) (x : Nat) : Prop := ∃ i, i < C.nl ∧ blk (C.Z0 i) = some x

def Own (C : Cx) (H : Nat → Option Blk) (Z : Nat → Value) (x : Nat) : Prop := C.M0 x ∨ ∃ i b, H i = some b ∧ blk (Z i) = some x

structure SimF (C : Cx) (D : Nat → Prop) (env : Nat → AV) (H : Nat → Option Blk) (Z : Nat → Value) (a : Act) (w : World) : Prop where
  size : a.tmps.size = C.N
  defers : a.defers = C.df
  frame : Upto C.lent C.w0 w
  m0 : ∀ x, C.M0 x → x < C.w0.heap.size
  slots : ∀ t, (env t).rep Z (Own C H Z) w (a.tmps.getD t undef)
  ids : ∀ t, ∀ i ∈ (env t).ids, D i
  holds : ∀ i b, H i = some b → held Z (Own C H Z) w i b ∧ D i ∧ ∀ j ∈ b.ids, D j
  dist : ∀ i j b c, H i = some b → H j = some c → i ≠ j → ∀ x, blk (Z i) = some x → blk (Z j) ≠ some x
  fresh : ∀ i b x, H i = some b → blk (Z i) = some x → i < C.nl ∨ C.w0.heap.size ≤ x ∨ ∃ j, j < C.ln.m ∧ blk (C.Z0 j) = some x
  lm : C.ln.m ≤ C.nl
  zl : ∀ i, i < C.nl → Z i = C.Z0 i ∧ D i

/-- What is said of one operation: whether it is carried out; what it looks at; what it yields; what becomes of own blocks; the new ones. -/
structure Sp where
  run : Bool
  rd : List (Nat × Blk)
  out : AV
  up : List (Nat × Option Blk)
  frs : List Blk

def New (k : Nat) (sp : Sp) (Z' : Nat → Value) (M : Nat → Prop) (x : Nat) : Prop := M x ∨ ∃ j, j < sp.frs.length ∧ blk (Z' (k + j)) = some x

structure AfterZ (k : Nat) (sp : Sp) (Z : Nat → Value) (M : Nat → Prop) (w : World) (v : Value) (w' : World) (Z' : Nat → Value) : Prop where
  z : ∀ i, (i < k ∨ k + sp.frs.length ≤ i) → Z' i = Z i
  out : sp.out.rep Z' (New k sp Z' M) w' v
  up : ∀ i b, (i, some b) ∈ sp.up → held Z' (New k sp Z' M) w' i b
  fr : ∀ j b, sp.frs[j]? = some b → held Z' (New k sp Z' M) w' (k + j) b
  dist : ∀ j j' x, j < sp.frs.length → j' < sp.frs.length → j ≠ j' → blk (Z' (k + j)) = some x → blk (Z' (k + j')) ≠ some x
  fresh : ∀ j x, j < sp.frs.length → blk (Z' (k + j)) = some x → w.heap.size ≤ x ∨ ∃ i, (i, none) ∈ sp.up ∧ blk (Z i) = some x
  upto : Upto (fun x => ∃ i o, (i, o) ∈ sp.up ∧ blk (Z i) = some x) w w'
def After (k : Nat) (sp : Sp) (Z : Nat → Value) (M : Nat → Prop) (w : World) (v : Value) (w' : World) : Prop := ∃ Z', AfterZ k sp Z M w v w' Z'

def updE (d : Option Nat) (x : AV) (env : Nat → AV) (t : Nat) : AV := if d = some t then x else env t
def updH (k : Nat) (sp : Sp) (H : Nat → Option Blk) (i : Nat) : Option Blk :=
  if k ≤ i ∧ i < k + sp.frs.length then sp.frs[i - k]? else match sp.up.lookup i with | some o => o | none => H i

/-- What is asked of the words about one operation. -/
structure SpOk (L : Ln) (D : Nat → Prop) (H : Nat → Option Blk) (k : Nat) (sp : Sp) : Prop where
  rd : ∀ i b, (i, b) ∈ sp.rd → H i = some b
  up : ∀ i o, (i, o) ∈ sp.up → ∃ b, (i, b) ∈ sp.rd
  nd : ∀ i o, (i, o) ∈ sp.up → sp.up.lookup i = some o
  loc : ∀ i, (i, none) ∈ sp.up → i < L.m ∨ L.n ≤ i
  free : ∀ i, D i → i < k ∨ k + sp.frs.length ≤ i
  outs : ∀ i ∈ sp.out.ids, D i ∨ (k ≤ i ∧ i < k + sp.frs.length)
  frs : ∀ b ∈ sp.frs, ∀ i ∈ b.ids, D i ∨ (k ≤ i ∧ i < k + sp.frs.length)
  ups : ∀ i b, (i, some b) ∈ sp.up → ∀ i ∈ b.ids, D i ∨ (k ≤ i ∧ i < k + sp.frs.length)

theorem lookup_mem {α : Type} : ∀ {l : List (Nat × α)} {i : Nat} {o : α}, l.lookup i = some o → (i, o) ∈ l
  | [], _, _, h => by simp at h
  | (j, x) :: l, i, o, h => by
    rw [List.lookup_cons] at h
    by_cases hij : i = j
    · subst hij; simp at h; subst h; simp
    · have : (i == j) = false := by simpa using hij
      rw [this] at h
      exact List.mem_cons_of_mem _ (lookup_mem h)
theorem lookup_none {α : Type} : ∀ {l : List (Nat × α)} {i : Nat} {o : α}, l.lookup i = none → (i, o) ∉ l
  | [], _, _, _ => by simp
  | (j, x) :: l, i, o, h => by
    rw [List.lookup_cons] at h
    by_cases hij : i = j
    · subst hij; simp at h
    · have : (i == j) = false := by simpa using hij
      rw [this] at h
      intro hm
      rcases List.mem_cons.1 hm with e | e
      · injection e with e1 e2; exact hij e1
      · exact lookup_none h e

section
variable {C : Cx} {D : Nat → Prop} {env : Nat → AV} {H : Nat → Option Blk} {Z : Nat → Value} {a : Act} {w w' : World}

theorem SimF.m_lt (S : SimF C D env H Z a w) : ∀ x, Own C H Z x → x < w.heap.size := by
  rintro x (h | ⟨i, b, hi, hx⟩)
  · exact Nat.lt_of_lt_of_le (S.m0 x h) S.frame.size
  · exact (S.holds i b hi).1.lt hx

theorem put_get (a : Act) (d : Option Nat) (v : Value) (t : Nat) (h : ∀ x, d = some x → x < a.tmps.size) : (a.put d v).tmps.getD t undef = if d = some t then v else a.tmps.getD t undef := by
  cases d with
  | none => simp [Act.put]
  | some e =>
    have he := h e rfl
    by_cases het : e = t
    · subst het; simp [Act.put, he]
    · simp [Act.put, Array.getElem?_setIfInBounds_ne het, het]
theorem put_size (a : Act) (d : Option Nat) (v : Value) : (a.put d v).tmps.size = a.tmps.size := by cases d <;> simp [Act.put]
theorem put_defers (a : Act) (d : Option Nat) (v : Value) : (a.put d v).defers = a.defers := by cases d <;> rfl

theorem SimF.step {k : Nat} {sp : Sp} {d : Option Nat} {v : Value} (S : SimF C D env H Z a w) (hs : SpOk C.ln D H k sp) (hd : ∀ x, d = some x → x < C.N) (hA : After k sp Z (Own C H Z) w v w') :
    ∃ Z', SimF C (fun i => D i ∨ (k ≤ i ∧ i < k + sp.frs.length)) (updE d sp.out env) (updH k sp H) Z' (a.put d v) w' := by
  obtain ⟨Z', A⟩ := hA
  have hz : ∀ i, D i → Z' i = Z i := fun i hi => A.z i (hs.free i hi)
  -- a number that lives on, unchanged or with other cells, is no new one
  have hcase : ∀ i b, updH k sp H i = some b → (k ≤ i ∧ i < k + sp.frs.length ∧ sp.frs[i - k]? = some b) ∨ ((i < k ∨ k + sp.frs.length ≤ i) ∧ (i, some b) ∈ sp.up) ∨ ((i < k ∨ k + sp.frs.length ≤ i) ∧ H i = some b ∧ ∀ o, (i, o) ∉ sp.up) := by
    intro i b h
    unfold updH at h
    split at h
    · rename_i hi; exact .inl ⟨hi.1, hi.2, h⟩
    · rename_i hi
      have hi' : i < k ∨ k + sp.frs.length ≤ i := by omega
      split at h
      · rename_i o ho
        subst h
        exact .inr (.inl ⟨hi', lookup_mem ho⟩)
      · rename_i ho
        exact .inr (.inr ⟨hi', h, fun o => lookup_none ho⟩)
  -- .. it was there before
  have hold : ∀ i b, updH k sp H i = some b → (i < k ∨ k + sp.frs.length ≤ i) → (∃ c, H i = some c) ∧ (i, none) ∉ sp.up := by
    intro i b h hi
    rcases hcase i b h with h1 | h1 | h1
    · omega
    · obtain ⟨c, hc⟩ := hs.up i _ h1.2
      refine ⟨⟨c, hs.rd i c hc⟩, fun hn => ?_⟩
      have e1 := hs.nd i _ h1.2
      have e2 := hs.nd i _ hn
      rw [e1] at e2; cases e2
    · exact ⟨⟨b, h1.2.1⟩, h1.2.2 _⟩
  have hM : ∀ x, x < w.heap.size → Own C (updH k sp H) Z' x → Own C H Z x := by
    rintro x hx (h | ⟨i, b, hi, hb⟩)
    · exact .inl h
    · rcases Nat.lt_or_ge i k with hk | hk
      · obtain ⟨⟨c, hc⟩, _⟩ := hold i b hi (.inl hk)
        rw [A.z i (.inl hk)] at hb
        exact .inr ⟨i, c, hc, hb⟩
      · rcases Nat.lt_or_ge i (k + sp.frs.length) with hk2 | hk2
        · rcases A.fresh (i - k) x (by omega) (by rwa [show k + (i - k) = i by omega]) with h | ⟨j, hj, hjx⟩
          · omega
          · obtain ⟨c, hc⟩ := hs.up j _ hj
            exact .inr ⟨j, c, hs.rd j c hc, hjx⟩
        · obtain ⟨⟨c, hc⟩, _⟩ := hold i b hi (.inr hk2)
          rw [A.z i (.inr hk2)] at hb
          exact .inr ⟨i, c, hc, hb⟩
  have hU : Upto (Own C H Z) w w' := A.upto.mono (by
    rintro x _ ⟨i, o, hi, hx⟩
    obtain ⟨c, hc⟩ := hs.up i o hi
    exact .inr ⟨i, c, hs.rd i c hc, hx⟩)
  -- the new own blocks are among New
  have hN : ∀ x, x < w'.heap.size → Own C (updH k sp H) Z' x → New k sp Z' (Own C H Z) x := by
    rintro x hx (h | ⟨i, b, hi, hb⟩)
    · exact .inl (.inl h)
    · rcases Nat.lt_or_ge i k with hk | hk
      · obtain ⟨⟨c, hc⟩, _⟩ := hold i b hi (.inl hk)
        rw [A.z i (.inl hk)] at hb
        exact .inl (.inr ⟨i, c, hc, hb⟩)
      · rcases Nat.lt_or_ge i (k + sp.frs.length) with hk2 | hk2
        · exact .inr ⟨i - k, by omega, by rwa [show k + (i - k) = i by omega]⟩
        · obtain ⟨⟨c, hc⟩, _⟩ := hold i b hi (.inr hk2)
          rw [A.z i (.inr hk2)] at hb
          exact .inl (.inr ⟨i, c, hc, hb⟩)
  refine ⟨Z', ?_, ?_, ?_, S.m0, ?_, ?_, ?_, ?_, ?_, S.lm, fun i hi => ⟨(hz i (S.zl i hi).2).trans (S.zl i hi).1, .inl (S.zl i hi).2⟩⟩
  · rw [put_size]; exact S.size
  · rw [put_defers]; exact S.defers
  · refine ⟨A.upto.os.trans S.frame.os, A.upto.tape.trans S.frame.tape, A.upto.output.trans S.frame.output, Nat.le_trans S.frame.size A.upto.size, fun x hx hl => ?_⟩
    refine (A.upto.block x (Nat.lt_of_lt_of_le hx S.frame.size) ?_).trans (S.frame.block x hx hl)
    rintro ⟨i, o, hi, hix⟩
    obtain ⟨c, hc⟩ := hs.up i o hi
    rcases S.fresh i c x (hs.rd i c hc) hix with h | h | ⟨j, h, hj⟩
    · exact hl ⟨i, h, by rw [← (S.zl i h).1]; exact hix⟩
    · omega
    · exact hl ⟨j, Nat.lt_of_lt_of_le h S.lm, hj⟩
  · intro t
    rw [put_get a d v t (fun x hx => by rw [S.size]; exact hd x hx)]
    unfold updE
    split
    · exact AV.rep_mono (Upto.refl _) hN _ (fun _ _ => rfl) _ A.out
    · exact AV.rep_mono hU hM _ (fun i hi => hz i (S.ids t i hi)) _ (S.slots t)
  · intro t i hi
    unfold updE at hi
    split at hi
    · exact hs.outs i hi
    · exact .inl (S.ids t i hi)
  · intro i b h
    rcases hcase i b h with ⟨h1, h2, h3⟩ | ⟨h1, h2⟩ | ⟨h1, h2, h3⟩
    · have := A.fr (i - k) b h3
      rw [show k + (i - k) = i by omega] at this
      exact ⟨this.anti hN, .inr ⟨h1, h2⟩, hs.frs b (List.mem_of_getElem? h3)⟩
    · refine ⟨(A.up i b h2).anti hN, ?_, hs.ups i b h2⟩
      obtain ⟨c, hc⟩ := hs.up i _ h2
      exact .inl (S.holds i c (hs.rd i c hc)).2.1
    · obtain ⟨g1, g2, g3⟩ := S.holds i b h2
      refine ⟨g1.keep hU hM (hz i g2) (fun j hj => hz j (g3 j hj)) (fun x hx => A.upto.block x (g1.lt hx) ?_), .inl g2, fun j hj => .inl (g3 j hj)⟩
      rintro ⟨j, o, hj, hjx⟩
      obtain ⟨c, hc⟩ := hs.up j o hj
      exact S.dist i j b c h2 (hs.rd j c hc) (fun e => h3 o (e ▸ hj)) x hx hjx
  · intro i j b c hi hj hij x hxi hxj
    by_cases hi2 : k ≤ i ∧ i < k + sp.frs.length <;> by_cases hj2 : k ≤ j ∧ j < k + sp.frs.length
    · exact A.dist (i - k) (j - k) x (by omega) (by omega) (by omega) (by rwa [show k + (i - k) = i by omega]) (by rwa [show k + (j - k) = j by omega])
    · have hj3 : j < k ∨ k + sp.frs.length ≤ j := by omega
      obtain ⟨⟨c', hc'⟩, hjn⟩ := hold j c hj hj3
      rw [A.z j hj3] at hxj
      rcases A.fresh (i - k) x (by omega) (by rwa [show k + (i - k) = i by omega]) with h | ⟨q, hq, hqx⟩
      · have := (S.holds j c' hc').1.lt hxj; omega
      · obtain ⟨cq, hcq⟩ := hs.up q _ hq
        exact S.dist q j cq c' (hs.rd q cq hcq) hc' (fun e => hjn (e ▸ hq)) x hqx hxj
    · have hi3 : i < k ∨ k + sp.frs.length ≤ i := by omega
      obtain ⟨⟨c', hc'⟩, hin⟩ := hold i b hi hi3
      rw [A.z i hi3] at hxi
      rcases A.fresh (j - k) x (by omega) (by rwa [show k + (j - k) = j by omega]) with h | ⟨q, hq, hqx⟩
      · have := (S.holds i c' hc').1.lt hxi; omega
      · obtain ⟨cq, hcq⟩ := hs.up q _ hq
        exact S.dist q i cq c' (hs.rd q cq hcq) hc' (fun e => hin (e ▸ hq)) x hqx hxi
    · have hi3 : i < k ∨ k + sp.frs.length ≤ i := by omega
      have hj3 : j < k ∨ k + sp.frs.length ≤ j := by omega
      obtain ⟨⟨b', hb'⟩, _⟩ := hold i b hi hi3
      obtain ⟨⟨c', hc'⟩, _⟩ := hold j c hj hj3
      rw [A.z i hi3] at hxi
      rw [A.z j hj3] at hxj
      exact S.dist i j b' c' hb' hc' hij x hxi hxj
  · intro i b x hi hx
    by_cases hi2 : k ≤ i ∧ i < k + sp.frs.length
    · rcases A.fresh (i - k) x (by omega) (by rwa [show k + (i - k) = i by omega]) with h | ⟨q, hq, hqx⟩
      · exact .inr (.inl (Nat.le_trans S.frame.size h))
      · obtain ⟨cq, hcq⟩ := hs.up q _ hq
        rcases hs.loc q hq with h | h
        · exact .inr (.inr ⟨q, h, by rw [← (S.zl q (Nat.lt_of_lt_of_le h S.lm)).1]; exact hqx⟩)
        · rcases S.fresh q cq x (hs.rd q cq hcq) hqx with h' | h'
          · unfold Cx.nl at h'; omega
          · exact .inr h'
    · have hi3 : i < k ∨ k + sp.frs.length ≤ i := by omega
      obtain ⟨⟨b', hb'⟩, _⟩ := hold i b hi hi3
      rw [A.z i hi3] at hx
      exact S.fresh i b' x hb' hx
end
end Go.Ab
