/- The second layer: what is known of a run, and what one operation does to it. No conditions. -/
import Derived.Test.YtabgmodllifgjaaAb1
namespace Go.Ab
open Go.RowKit
set_option linter.unusedVariables false

/-- How many of the caller's blocks are lent; the first m of them are handed over. -/
structure Ln where
  n : Nat
  m : Nat
/-- Where a call began: the program, the world, the caller's own blocks, those of them that were lent, the number of slots. -/
structure Cx where
  P : Program
  w0 : World
  M0 : Nat → Prop
  Z0 : Nat → Value
  ln : Ln
  N : Nat
def Cx.nl (C : Cx) : Nat := C.ln.n
def Cx.lent (C : Cx) (x : Nat) : Prop := ∃ i, i < C.nl ∧ blk (C.Z0 i) = some x

def Own (C : Cx) (H : Nat → Option Blk) (Z : Nat → Value) (x : Nat) : Prop := C.M0 x ∨ ∃ i b, H i = some b ∧ blk (Z i) = some x

structure SimF (C : Cx) (D : Nat → Prop) (env : Nat → AV) (H : Nat → Option Blk) (Z : Nat → Value) (a : Act) (w : World) : Prop where
  size : a.tmps.size = C.N
  defers : a.defers = []
  frame : Upto C.lent C.w0 w
  m0 : ∀ x, C.M0 x → x < C.w0.heap.size
  slots : ∀ t, (env t).rep Z (Own C H Z) w (a.tmps.getD t undef)
  ids : ∀ t, ∀ i ∈ (env t).ids, D i
  holds : ∀ i b, H i = some b → held Z (Own C H Z) w i b ∧ D i ∧ ∀ j ∈ b.ids, D j
  dist : ∀ i j b c, H i = some b → H j = some c → i ≠ j → ∀ x, blk (Z i) = some x → blk (Z j) ≠ some x
  fresh : ∀ i b x, H i = some b → blk (Z i) = some x → i < C.nl ∨ C.w0.heap.size ≤ x ∨ ∃ j, j < C.ln.m ∧ blk (C.Z0 j) = some x
  lm : C.ln.m ≤ C.nl
  zl : ∀ i, i < C.nl → Z i = C.Z0 i ∧ D i

/-- What is said of one operation: whether it is carried out; what it looks at; what it yields; what becomes of own blocks; the new ones. -/
structure Sp where
  run : Bool
  rd : List (Nat × Blk)
  out : AV
  up : List (Nat × Option Blk)
  frs : List Blk

def New (k : Nat) (sp : Sp) (Z' : Nat → Value) (M : Nat → Prop) (x : Nat) : Prop := M x ∨ ∃ j, j < sp.frs.length ∧ blk (Z' (k + j)) = some x

structure AfterZ (k : Nat) (sp : Sp) (Z : Nat → Value) (M : Nat → Prop) (w : World) (v : Value) (w' : World) (Z' : Nat → Value) : Prop where
  z : ∀ i, (i < k ∨ k + sp.frs.length ≤ i) → Z' i = Z i
  out : sp.out.rep Z' (New k sp Z' M) w' v
  up : ∀ i b, (i, some b) ∈ sp.up → held Z' (New k sp Z' M) w' i b
  fr : ∀ j b, sp.frs[j]? = some b → held Z' (New k sp Z' M) w' (k + j) b
  dist : ∀ j j' x, j < sp.frs.length → j' < sp.frs.length → j ≠ j' → blk (Z' (k + j)) = some x → blk (Z' (k + j')) ≠ some x
  fresh : ∀ j x, j < sp.frs.length → blk (Z' (k + j)) = some x → w.heap.size ≤ x ∨ ∃ i, (i, none) ∈ sp.up ∧ blk (Z i) = some x
  upto : Upto (fun x => ∃ i o, (i, o) ∈ sp.up ∧ blk (Z i) = some x) w w'
def After (k : Nat) (sp : Sp) (Z : Nat → Value) (M : Nat → Prop) (w : World) (v : Value) (w' : World) : Prop := ∃ Z', AfterZ k sp Z M w v w' Z'

def updE (d : Option Nat) (x : AV) (env : Nat → AV) (t : Nat) : AV := if d = some t then x else env t
def updH (k : Nat) (sp : Sp) (H : Nat → Option Blk) (i : Nat) : Option Blk :=
  if k ≤ i ∧ i < k + sp.frs.length then sp.frs[i - k]? else match sp.up.lookup i with | some o => o | none => H i

/-- What is asked of the words about one operation. -/
structure SpOk (L : Ln) (D : Nat → Prop) (H : Nat → Option Blk) (k : Nat) (sp : Sp) : Prop where
  rd : ∀ i b, (i, b) ∈ sp.rd → H i = some b
  up : ∀ i o, (i, o) ∈ sp.up → ∃ b, (i, b) ∈ sp.rd
  nd : ∀ i o, (i, o) ∈ sp.up → sp.up.lookup i = some o
  loc : ∀ i, (i, none) ∈ sp.up → i < L.m ∨ L.n ≤ i
  free : ∀ i, D i → i < k ∨ k + sp.frs.length ≤ i
  outs : ∀ i ∈ sp.out.ids, D i ∨ (k ≤ i ∧ i < k + sp.frs.length)
  frs : ∀ b ∈ sp.frs, ∀ i ∈ b.ids, D i ∨ (k ≤ i ∧ i < k + sp.frs.length)
  ups : ∀ i b, (i, some b) ∈ sp.up → ∀ i ∈ b.ids, D i ∨ (k ≤ i ∧ i < k + sp.frs.length)

theorem lookup_mem {α : Type} : ∀ {l : List (Nat × α)} {i : Nat} {o : α}, l.lookup i = some o → (i, o) ∈ l
  | [], _, _, h => by simp at h
  | (j, x) :: l, i, o, h => by
    rw [List.lookup_cons] at h
    by_cases hij : i = j
    · subst hij; simp at h; subst h; simp
    · have : (i == j) = false := by simpa using hij
      rw [this] at h
      exact List.mem_cons_of_mem _ (lookup_mem h)
theorem lookup_none {α : Type} : ∀ {l : List (Nat × α)} {i : Nat} {o : α}, l.lookup i = none → (i, o) ∉ l
  | [], _, _, _ => by simp
  | (j, x) :: l, i, o, h => by
    rw [List.lookup_cons] at h
    by_cases hij : i = j
    · subst hij; simp at h
    · have : (i == j) = false := by simpa using hij
      rw [this] at h
      intro hm
      rcases List.mem_cons.1 hm with e | e
      · injection e with e1 e2; exact hij e1
      · exact lookup_none h e

section
variable {C : Cx} {D : Nat → Prop} {env : Nat → AV} {H : Nat → Option Blk} {Z : Nat → Value} {a : Act} {w w' : World}

theorem SimF.m_lt (S : SimF C D env H Z a w) : ∀ x, Own C H Z x → x < w.heap.size := by
  rintro x (h | ⟨i, b, hi, hx⟩)
  · exact Nat.lt_of_lt_of_le (S.m0 x h) S.frame.size
  · exact (S.holds i b hi).1.lt hx

theorem put_get (a : Act) (d : Option Nat) (v : Value) (t : Nat) (h : ∀ x, d = some x → x < a.tmps.size) : (a.put d v).tmps.getD t undef = if d = some t then v else a.tmps.getD t undef := by
  cases d with
  | none => simp [Act.put]
  | some e =>
    have he := h e rfl
    by_cases het : e = t
    · subst het; simp [Act.put, he]
    · simp [Act.put, Array.getElem?_setIfInBounds_ne het, het]
theorem put_size (a : Act) (d : Option Nat) (v : Value) : (a.put d v).tmps.size = a.tmps.size := by cases d <;> simp [Act.put]
theorem put_defers (a : Act) (d : Option Nat) (v : Value) : (a.put d v).defers = a.defers := by cases d <;> rfl

theorem SimF.step {k : Nat} {sp : Sp} {d : Option Nat} {v : Value} (S : SimF C D env H Z a w) (hs : SpOk C.ln D H k sp) (hd : ∀ x, d = some x → x < C.N) (hA : After k sp Z (Own C H Z) w v w') :
    ∃ Z', SimF C (fun i => D i ∨ (k ≤ i ∧ i < k + sp.frs.length)) (updE d sp.out env) (updH k sp H) Z' (a.put d v) w' := by
  obtain ⟨Z', A⟩ := hA
  have hz : ∀ i, D i → Z' i = Z i := fun i hi => A.z i (hs.free i hi)
  -- a number that lives on, unchanged or with other cells, is no new one
  have hcase : ∀ i b, updH k sp H i = some b → (k ≤ i ∧ i < k + sp.frs.length ∧ sp.frs[i - k]? = some b) ∨ ((i < k ∨ k + sp.frs.length ≤ i) ∧ (i, some b) ∈ sp.up) ∨ ((i < k ∨ k + sp.frs.length ≤ i) ∧ H i = some b ∧ ∀ o, (i, o) ∉ sp.up) := by
    intro i b h
    unfold updH at h
    split at h
    · rename_i hi; exact .inl ⟨hi.1, hi.2, h⟩
    · rename_i hi
      have hi' : i < k ∨ k + sp.frs.length ≤ i := by omega
      split at h
      · rename_i o ho
        subst h
        exact .inr (.inl ⟨hi', lookup_mem ho⟩)
      · rename_i ho
        exact .inr (.inr ⟨hi', h, fun o => lookup_none ho⟩)
  -- .. it was there before
  have hold : ∀ i b, updH k sp H i = some b → (i < k ∨ k + sp.frs.length ≤ i) → (∃ c, H i = some c) ∧ (i, none) ∉ sp.up := by
    intro i b h hi
    rcases hcase i b h with h1 | h1 | h1
    · omega
    · obtain ⟨c, hc⟩ := hs.up i _ h1.2
      refine ⟨⟨c, hs.rd i c hc⟩, fun hn => ?_⟩
      have e1 := hs.nd i _ h1.2
      have e2 := hs.nd i _ hn
      rw [e1] at e2; cases e2
    · exact ⟨⟨b, h1.2.1⟩, h1.2.2 _⟩
  have hM : ∀ x, x < w.heap.size → Own C (updH k sp H) Z' x → Own C H Z x := by
    rintro x hx (h | ⟨i, b, hi, hb⟩)
    · exact .inl h
    · rcases Nat.lt_or_ge i k with hk | hk
      · obtain ⟨⟨c, hc⟩, _⟩ := hold i b hi (.inl hk)
        rw [A.z i (.inl hk)] at hb
        exact .inr ⟨i, c, hc, hb⟩
      · rcases Nat.lt_or_ge i (k + sp.frs.length) with hk2 | hk2
        · rcases A.fresh (i - k) x (by omega) (by rwa [show k + (i - k) = i by omega]) with h | ⟨j, hj, hjx⟩
          · omega
          · obtain ⟨c, hc⟩ := hs.up j _ hj
            exact .inr ⟨j, c, hs.rd j c hc, hjx⟩
        · obtain ⟨⟨c, hc⟩, _⟩ := hold i b hi (.inr hk2)
          rw [A.z i (.inr hk2)] at hb
          exact .inr ⟨i, c, hc, hb⟩
  have hU : Upto (Own C H Z) w w' := A.upto.mono (by
    rintro x _ ⟨i, o, hi, hx⟩
    obtain ⟨c, hc⟩ := hs.up i o hi
    exact .inr ⟨i, c, hs.rd i c hc, hx⟩)
  -- the new own blocks are among New
  have hN : ∀ x, x < w'.heap.size → Own C (updH k sp H) Z' x → New k sp Z' (Own C H Z) x := by
    rintro x hx (h | ⟨i, b, hi, hb⟩)
    · exact .inl (.inl h)
    · rcases Nat.lt_or_ge i k with hk | hk
      · obtain ⟨⟨c, hc⟩, _⟩ := hold i b hi (.inl hk)
        rw [A.z i (.inl hk)] at hb
        exact .inl (.inr ⟨i, c, hc, hb⟩)
      · rcases Nat.lt_or_ge i (k + sp.frs.length) with hk2 | hk2
        · exact .inr ⟨i - k, by omega, by rwa [show k + (i - k) = i by omega]⟩
        · obtain ⟨⟨c, hc⟩, _⟩ := hold i b hi (.inr hk2)
          rw [A.z i (.inr hk2)] at hb
          exact .inl (.inr ⟨i, c, hc, hb⟩)
  refine ⟨Z', ?_, ?_, ?_, S.m0, ?_, ?_, ?_, ?_, ?_, S.lm, fun i hi => ⟨(hz i (S.zl i hi).2).trans (S.zl i hi).1, .inl (S.zl i hi).2⟩⟩
  · rw [put_size]; exact S.size
  · rw [put_defers]; exact S.defers
  · refine ⟨A.upto.os.trans S.frame.os, A.upto.tape.trans S.frame.tape, A.upto.output.trans S.frame.output, Nat.le_trans S.frame.size A.upto.size, fun x hx hl => ?_⟩
    refine (A.upto.block x (Nat.lt_of_lt_of_le hx S.frame.size) ?_).trans (S.frame.block x hx hl)
    rintro ⟨i, o, hi, hix⟩
    obtain ⟨c, hc⟩ := hs.up i o hi
    rcases S.fresh i c x (hs.rd i c hc) hix with h | h | ⟨j, h, hj⟩
    · exact hl ⟨i, h, by rw [← (S.zl i h).1]; exact hix⟩
    · omega
    · exact hl ⟨j, Nat.lt_of_lt_of_le h S.lm, hj⟩
  · intro t
    rw [put_get a d v t (fun x hx => by rw [S.size]; exact hd x hx)]
    unfold updE
    split
    · exact AV.rep_mono (Upto.refl _) hN _ (fun _ _ => rfl) _ A.out
    · exact AV.rep_mono hU hM _ (fun i hi => hz i (S.ids t i hi)) _ (S.slots t)
  · intro t i hi
    unfold updE at hi
    split at hi
    · exact hs.outs i hi
    · exact .inl (S.ids t i hi)
  · intro i b h
    rcases hcase i b h with ⟨h1, h2, h3⟩ | ⟨h1, h2⟩ | ⟨h1, h2, h3⟩
    · have := A.fr (i - k) b h3
      rw [show k + (i - k) = i by omega] at this
      exact ⟨this.anti hN, .inr ⟨h1, h2⟩, hs.frs b (List.mem_of_getElem? h3)⟩
    · refine ⟨(A.up i b h2).anti hN, ?_, hs.ups i b h2⟩
      obtain ⟨c, hc⟩ := hs.up i _ h2
      exact .inl (S.holds i c (hs.rd i c hc)).2.1
    · obtain ⟨g1, g2, g3⟩ := S.holds i b h2
      refine ⟨g1.keep hU hM (hz i g2) (fun j hj => hz j (g3 j hj)) (fun x hx => A.upto.block x (g1.lt hx) ?_), .inl g2, fun j hj => .inl (g3 j hj)⟩
      rintro ⟨j, o, hj, hjx⟩
      obtain ⟨c, hc⟩ := hs.up j o hj
      exact S.dist i j b c h2 (hs.rd j c hc) (fun e => h3 o (e ▸ hj)) x hx hjx
  · intro i j b c hi hj hij x hxi hxj
    by_cases hi2 : k ≤ i ∧ i < k + sp.frs.length <;> by_cases hj2 : k ≤ j ∧ j < k + sp.frs.length
    · exact A.dist (i - k) (j - k) x (by omega) (by omega) (by omega) (by rwa [show k + (i - k) = i by omega]) (by rwa [show k + (j - k) = j by omega])
    · have hj3 : j < k ∨ k + sp.frs.length ≤ j := by omega
      obtain ⟨⟨c', hc'⟩, hjn⟩ := hold j c hj hj3
      rw [A.z j hj3] at hxj
      rcases A.fresh (i - k) x (by omega) (by rwa [show k + (i - k) = i by omega]) with h | ⟨q, hq, hqx⟩
      · have := (S.holds j c' hc').1.lt hxj; omega
      · obtain ⟨cq, hcq⟩ := hs.up q _ hq
        exact S.dist q j cq c' (hs.rd q cq hcq) hc' (fun e => hjn (e ▸ hq)) x hqx hxj
    · have hi3 : i < k ∨ k + sp.frs.length ≤ i := by omega
      obtain ⟨⟨c', hc'⟩, hin⟩ := hold i b hi hi3
      rw [A.z i hi3] at hxi
      rcases A.fresh (j - k) x (by omega) (by rwa [show k + (j - k) = j by omega]) with h | ⟨q, hq, hqx⟩
      · have := (S.holds i c' hc').1.lt hxi; omega
      · obtain ⟨cq, hcq⟩ := hs.up q _ hq
        exact S.dist q i cq c' (hs.rd q cq hcq) hc' (fun e => hin (e ▸ hq)) x hqx hxi
    · have hi3 : i < k ∨ k + sp.frs.length ≤ i := by omega
      have hj3 : j < k ∨ k + sp.frs.length ≤ j := by omega
      obtain ⟨⟨b', hb'⟩, _⟩ := hold i b hi hi3
      obtain ⟨⟨c', hc'⟩, _⟩ := hold j c hj hj3
      rw [A.z i hi3] at hxi
      rw [A.z j hj3] at hxj
      exact S.dist i j b' c' hb' hc' hij x hxi hxj
  · intro i b x hi hx
    by_cases hi2 : k ≤ i ∧ i < k + sp.frs.length
    · rcases A.fresh (i - k) x (by omega) (by rwa [show k + (i - k) = i by omega]) with h | ⟨q, hq, hqx⟩
      · exact .inr (.inl (Nat.le_trans S.frame.size h))
      · obtain ⟨cq, hcq⟩ := hs.up q _ hq
        rcases hs.loc q hq with h | h
        · exact .inr (.inr ⟨q, h, by rw [← (S.zl q (Nat.lt_of_lt_of_le h S.lm)).1]; exact hqx⟩)
        · rcases S.fresh q cq x (hs.rd q cq hcq) hqx with h' | h'
          · unfold Cx.nl at h'; omega
          · exact .inr h'
    · have hi3 : i < k ∨ k + sp.frs.length ≤ i := by omega
      obtain ⟨⟨b', hb'⟩, _⟩ := hold i b hi hi3
      rw [A.z i hi3] at hx
      exact S.fresh i b' x hb' hx
end
end Go.Ab
