/- Texts of the second layer in one: Ab31 Ab32 Ab33 Tx0 Ab34 Ai1 Ai2 Ai3 Ai4 Ai6 Dt1 Ab36. -/
import Derived.Test.YtpnbgalbdohfgaaGreatDoorG5
import Derived.RangeFuncRecord
import Derived.Test.YtpnbgalbdohfgaaGreatDoorG3
import Derived.Test.YtpnbgalbdohfgaaGreatDoorG4
import Derived.Laws.Concat
import Derived.OwnWalkIn
import Derived.TacticsIn
import Derived.RangeFuncIn
import Derived.RangeFuncCalls
import Derived.RangeFuncLeaves
import Derived.RangeFuncFrom
import Derived.RangeFuncNested
import Derived.RangeFuncBound
import Derived.Lib.ItoaNum
import Derived.KernelRfl
set_option maxRecDepth 100000
set_option linter.unusedVariables false
set_option linter.unusedSimpArgs false
namespace Go.Ab
open Go.RowKit
/-! ## A slice of the family gets a number, and the other way round -/
mutual
def AV.lit (q : Nat) (v : Value) : AV → AV
 | .ow i => bif Nat.beq i q then .r (.v v) else .ow i
 | .ag cs => .ag (AV.lits q v cs)
 | .tu cs => .tu (AV.lits q v cs)
 | .cl f cs => .cl f (AV.lits q v cs)
 | .r c => .r c
 | .rp cs => .rp cs
 | .pt i o => .pt i o
 | .pe i sz k f => .pe i sz k f
 | .ol i n => .ol i n
 | .sv i n => .sv i n
 | .so i o n c => .so i o n c
 | .fr T sz es => .fr T sz es
 | .na => .na
def AV.lits (q : Nat) (v : Value) : List AV → List AV
 | [] => []
 | c :: cs => AV.lit q v c :: AV.lits q v cs
end
section
variable {Z : Nat → Value} {B : Nat → Prop} {w : World} {q : Nat} {v : Value}
mutual
theorem zhY (hz : Z q = v) : ∀ (c : AV) (u : Value), AV.rep Z B w (c.lit q v) u ↔ AV.rep Z B w c u
 | .ow i, u => by
  rw [AV.lit]
  cases h : Nat.beq i q with
  | true => have := Nat.eq_of_beq_eq_true h; subst this; rw [cond_true, AV.rep, RV.rep, AV.rep, hz]
  | false => rw [cond_false]
 | .ag cs, u => by rw [AV.lit, AV.rep, AV.rep]; simp only [zcK hz cs]
 | .tu cs, u => by rw [AV.lit, AV.rep, AV.rep]; simp only [zcK hz cs]
 | .cl f cs, u => by rw [AV.lit, AV.rep, AV.rep]; simp only [zcK hz cs]
 | .r c, u => Iff.rfl
 | .rp cs, u => Iff.rfl
 | .pt i o, u => Iff.rfl
 | .pe i sz k f, u => Iff.rfl
 | .ol i n, u => Iff.rfl
 | .sv i n, u => Iff.rfl
 | .so i o n c, u => Iff.rfl
 | .fr T sz es, u => Iff.rfl
 | .na, u => Iff.rfl
theorem zcK (hz : Z q = v) : ∀ (cs : List AV) (us : List Value), AV.reps Z B w (AV.lits q v cs) us ↔ AV.reps Z B w cs us
 | [], us => Iff.rfl
 | c :: cs, us => by rw [AV.lits, AV.reps, AV.reps]; simp only [zhY hz c, zcK hz cs]
end
mutual
theorem lit_ids : ∀ (c : AV) (i : Nat), i ∈ c.ids → i = q ∨ i ∈ (c.lit q v).ids
 | .ow j, i, h => by
  have hi : i = j := by simpa [AV.ids] using h
  subst hi
  rw [AV.lit]
  cases h : Nat.beq i q with
  | true => exact .inl (Nat.eq_of_beq_eq_true h)
  | false => exact .inr (by simp [AV.ids])
 | .ag cs, i, h => by rw [AV.lit, AV.ids]; exact zdB cs i (by simpa [AV.ids] using h)
 | .tu cs, i, h => by rw [AV.lit, AV.ids]; exact zdB cs i (by simpa [AV.ids] using h)
 | .cl f cs, i, h => by rw [AV.lit, AV.ids]; exact zdB cs i (by simpa [AV.ids] using h)
 | .r c, i, h => .inr h
 | .rp cs, i, h => .inr h
 | .pt _ _, i, h => .inr h
 | .pe _ _ _ _, i, h => .inr h
 | .ol _ _, i, h => .inr h
 | .sv _ _, i, h => .inr h
 | .so _ _ _ _, i, h => .inr h
 | .fr T sz es, i, h => .inr h
 | .na, i, h => .inr h
theorem zdB : ∀ (cs : List AV) (i : Nat), i ∈ AV.idss cs → i = q ∨ i ∈ AV.idss (AV.lits q v cs)
 | [], i, h => .inr h
 | c :: cs, i, h => by
  rw [AV.idss, List.mem_append] at h
  rw [AV.lits, AV.idss, List.mem_append]
  rcases h with h | h
  ·exact (lit_ids c i h).imp id .inl
  ·exact (zdB cs i h).imp id .inr
end
mutual
theorem lit_sub : ∀ (c : AV) (i : Nat), i ∈ (c.lit q v).ids → i ∈ c.ids
 | .ow j, i, h => by
  rw [AV.lit] at h
  cases hb : Nat.beq j q with
  | true => rw [hb, cond_true] at h; simp [AV.ids] at h
  | false => rw [hb, cond_false] at h; exact h
 | .ag cs, i, h => by rw [AV.lit, AV.ids] at h; rw [AV.ids]; exact zdC cs i h
 | .tu cs, i, h => by rw [AV.lit, AV.ids] at h; rw [AV.ids]; exact zdC cs i h
 | .cl f cs, i, h => by rw [AV.lit, AV.ids] at h; rw [AV.ids]; exact zdC cs i h
 | .r c, i, h => h
 | .rp cs, i, h => h
 | .pt _ _, i, h => h
 | .pe _ _ _ _, i, h => h
 | .ol _ _, i, h => h
 | .sv _ _, i, h => h
 | .so _ _ _ _, i, h => h
 | .fr T sz es, i, h => h
 | .na, i, h => h
theorem zdC : ∀ (cs : List AV) (i : Nat), i ∈ AV.idss (AV.lits q v cs) → i ∈ AV.idss cs
 | [], i, h => h
 | c :: cs, i, h => by
  rw [AV.lits, AV.idss, List.mem_append] at h
  rw [AV.idss, List.mem_append]
  exact h.imp (lit_sub c i) (zdC cs i)
end
theorem ziG : ∀ cs : List AV, (AV.lits q v cs).length = cs.length
 | [] => rfl
 | c :: cs => by rw [AV.lits, List.length_cons, List.length_cons, ziG cs]
end
def Blk.lit (q : Nat) (v : Value) : Blk → Blk
 | .var T cs => .var T (AV.lits q v cs)
 | .rowo T sz es cs => .rowo T sz es (AV.lits q v cs)
 | .row T sz es => .row T sz es
 | .full T sz es => .full T sz es
 | .rowk T sz es n c => .rowk T sz es n c
 | .mp l => .mp l
 | .obj o => .obj o
 | .gl g o => .gl g o
theorem ziF {Z : Nat → Value} {B : Nat → Prop} {w : World} {q : Nat} {v : Value} (hz : Z q = v) (i : Nat) (b : Blk) : held Z B w i (b.lit q v) ↔ held Z B w i b := by
 cases b with
 | var T cs => show (∃ b us, _ ∧ _ ∧ AV.reps Z B w (AV.lits q v cs) _ ∧ _) ↔ (∃ b us, _ ∧ _ ∧ AV.reps Z B w cs _ ∧ _); simp only [zcK hz cs]
 | rowo T sz es cs => show (∃ us vs, _ ∧ _ ∧ AV.reps Z B w (AV.lits q v cs) _ ∧ _ ∧ (AV.lits q v cs).length = _ ∧ _) ↔ (∃ us vs, _ ∧ _ ∧ AV.reps Z B w cs _ ∧ _ ∧ cs.length = _ ∧ _); simp only [zcK hz cs, ziG]
 | _ => exact Iff.rfl
theorem Blk.lit_ids {q : Nat} {v : Value} (b : Blk) (i : Nat) (h : i ∈ b.ids) : i = q ∨ i ∈ (b.lit q v).ids := by
 cases b with
 | var T cs => exact zdB cs i h
 | rowo T sz es cs => exact zdB cs i h
 | _ => exact .inr h
theorem Blk.lit_sub {q : Nat} {v : Value} (b : Blk) (i : Nat) (h : i ∈ (b.lit q v).ids) : i ∈ b.ids := by
 cases b with
 | var T cs => exact zdC cs i h
 | rowo T sz es cs => exact zdC cs i h
 | _ => exact h
def envL (q : Nat) (v : Value) (E : List (Nat × AV)) : List (Nat × AV) := E.map fun p => (p.1, p.2.lit q v)
def blkL (q : Nat) (v : Value) (H : List (Nat × Option Blk)) : List (Nat × Option Blk) := H.map fun p => (p.1, p.2.map (Blk.lit q v))
theorem zdw (q : Nat) (v : Value) : ∀ (E : List (Nat × AV)) (t : Nat), get (envL q v E) t = (get E t).lit q v
 | [], t => rfl
 | (k, x) :: E, t => by
  show get ((k, x.lit q v) :: envL q v E) t = _
  rw [get, get]
  cases Nat.beq k t with
  | true => rfl
  | false => exact zdw q v E t
theorem zcm (q : Nat) (v : Value) : ∀ (H : List (Nat × Option Blk)) (i : Nat), getH (blkL q v H) i = (getH H i).map (Blk.lit q v)
 | [], i => rfl
 | (k, x) :: H, i => by
  show getH ((k, x.map (Blk.lit q v)) :: blkL q v H) i = _
  rw [getH, getH]
  cases Nat.beq k i with
  | true => rfl
  | false => exact zcm q v H i
theorem SimF.same {C : Cx} {D D' : Nat → Prop} {env env' : Nat → AV} {H H' : Nat → Option Blk} {Z : Nat → Value} {a : Act} {w : World} (h : SimF C D env H Z a w)
  (he : ∀ t u B, AV.rep Z B w (env t) u → AV.rep Z B w (env' t) u) (hid : ∀ t, ∀ i ∈ (env' t).ids, D' i) (hh : ∀ i b', H' i = some b' → ∃ b, H i = some b ∧ (∀ B, held Z B w i b → held Z B w i b') ∧ D' i ∧ ∀ j ∈ b'.ids, D' j) (hD : C.nl = 0) : SimF C D' env' H' Z a w := by
 have hB : ∀ k, k < w.heap.size → Own C H' Z k → Own C H Z k := by
  rintro k _ (h0 | ⟨i, b', hi, hx⟩)
  ·exact .inl h0
  ·obtain ⟨b, h1, _⟩ := hh i b' hi
   exact .inr ⟨i, b, h1, hx⟩
 refine ⟨h.size, h.defers, h.frame, h.m0, fun t => AV.rep_mono (Upto.refl _) hB _ (fun _ _ => rfl) _ (he t _ _ (h.slots t)), hid, fun i b' hi => ?_, fun i j b c hi hj hij => ?_, fun i b x hi hx => ?_, h.lm, fun i hi => by omega⟩
 ·obtain ⟨b, h1, h2, h3, h4⟩ := hh i b' hi
  exact ⟨(h2 _ (h.holds i b h1).1).anti hB, h3, h4⟩
 ·obtain ⟨b', h1, _⟩ := hh i b hi
  obtain ⟨c', h2, _⟩ := hh j c hj
  exact h.dist i j b' c' h1 h2 hij
 ·obtain ⟨b', h1, _⟩ := hh i b hi
  exact h.fresh i b' x h1 hx
section
variable {C : Cx} {F F1 F2 : Fam} {a : Act} {w : World} {E : List (Nat × AV)} {H : List (Nat × Option Blk)} {n : Nat} {v : Value} {b : Blk}
theorem SimF.ren {D D' : Nat → Prop} {env env' : Nat → AV} {G G' : Nat → Option Blk} {Z Z' : Nat → Value} (h : SimF C D env G Z a w) (hnl : C.nl = 0) (π : Nat → Nat)
  (hz : ∀ i b, G' i = some b → Z' i = Z (π i)) (hinj : ∀ i j b c, G' i = some b → G' j = some c → i ≠ j → π i ≠ π j)
  (he : ∀ t u B B', (∀ k, k < w.heap.size → B' k → B k) → AV.rep Z B w (env t) u → AV.rep Z' B' w (env' t) u) (hid : ∀ t, ∀ i ∈ (env' t).ids, D' i)
  (hh : ∀ i b', G' i = some b' → ∃ b, G (π i) = some b ∧ (∀ B B', (∀ k, k < w.heap.size → B' k → B k) → held Z B w (π i) b → held Z' B' w i b') ∧ D' i ∧ ∀ j ∈ b'.ids, D' j) : SimF C D' env' G' Z' a w := by
 have hB : ∀ k, k < w.heap.size → Own C G' Z' k → Own C G Z k := by
  rintro k _ (h0 | ⟨i, b', hi, hx⟩)
  ·exact .inl h0
  ·obtain ⟨b, h1, _⟩ := hh i b' hi
   exact .inr ⟨π i, b, h1, by rw [← hz i b' hi]; exact hx⟩
 refine ⟨h.size, h.defers, h.frame, h.m0, fun t => he t _ _ _ hB (h.slots t), hid, fun i b' hi => ?_, fun i j b c hi hj hij x hx hx2 => ?_, fun i b x hi hx => ?_, h.lm, fun i hi => by omega⟩
 ·obtain ⟨b, h1, h2, h3, h4⟩ := hh i b' hi
  exact ⟨h2 _ _ hB (h.holds _ b h1).1, h3, h4⟩
 ·obtain ⟨b', h1, _⟩ := hh i b hi
  obtain ⟨c', h2, _⟩ := hh j c hj
  rw [hz i b hi] at hx
  rw [hz j c hj] at hx2
  exact h.dist (π i) (π j) b' c' h1 h2 (hinj i j b c hi hj hij) x hx hx2
 ·obtain ⟨b', h1, _⟩ := hh i b hi
  rw [hz i b hi] at hx
  rcases h.fresh (π i) b' x h1 hx with h2 | h2 | ⟨j, h2, h3⟩
  ·omega
  ·exact .inr (.inl h2)
  ·have := h.lm; omega
theorem SimX.take (hl : C.ln = ⟨0, 0⟩) (h : SimX C ⟨envL n v E, blkL n v H, n⟩ (F1 ++ (v, b) :: F2) a w) : SimX C ⟨E, (n, some b) :: H, n + 1⟩ (F1 ++ F2) a w := by
 obtain ⟨Z, K, h⟩ := h
 have hs := h.sim
 have hnl : C.nl = 0 := by unfold Cx.nl; rw [hl]
 have hle : n ≤ K := h.le
 have hmid : (F1 ++ (v, b) :: F2)[F1.length]? = some (v, b) := by rw [List.getElem?_append_right (Nat.le_refl _), Nat.sub_self]; rfl
 obtain ⟨f1, f2⟩ := h.fam _ _ hmid
 simp only at f1 f2
 -- the numbers behind: n is the slice's, n + 1 .. the others'
 let up : Nat → Nat := fun j => if j < F1.length then j else j + 1
 have hup : ∀ j, (F1 ++ F2)[j]? = (F1 ++ (v, b) :: F2)[up j]? := by
  intro j
  show _ = (F1 ++ (v, b) :: F2)[if j < F1.length then j else j + 1]?
  split
  ·rename_i hj; rw [List.getElem?_append_left hj, List.getElem?_append_left hj]
  ·rename_i hj
   rw [List.getElem?_append_right (by omega), List.getElem?_append_right (by omega), show j + 1 - F1.length = (j - F1.length) + 1 by omega, List.getElem?_cons_succ]
 have upn : ∀ j, up j ≠ F1.length := fun j => by show (if j < F1.length then j else j + 1) ≠ _; split <;> omega
 have upi : ∀ i j, i ≠ j → up i ≠ up j := fun i j hij => by show (if i < F1.length then i else i + 1) ≠ (if j < F1.length then j else j + 1); split <;> split <;> omega
 let π : Nat → Nat := fun i => if i < n then i else if i = n then K + F1.length else K + up (i - (n + 1))
 let Z' : Nat → Value := fun i => Z (π i)
 have p1 : ∀ i, i < n → π i = i := fun i hi => if_pos hi
 have p2 : π n = K + F1.length := by show (if n < n then n else if n = n then _ else _) = _; rw [if_neg (by omega), if_pos rfl]
 have p3 : ∀ j, π (n + 1 + j) = K + up j := fun j => by show (if n + 1 + j < n then _ else if n + 1 + j = n then _ else _) = _; rw [if_neg (by omega), if_neg (by omega), Nat.add_sub_cancel_left]
 have hzn : Z' n = v := by show Z (π n) = v; rw [p2]; exact f1
 have hHn : ∀ i, n ≤ i → getH H i = none := fun i hi => by
  have := h.top i hi
  rw [show St.HF ⟨envL n v E, blkL n v H, n⟩ i = getH (blkL n v H) i from rfl, zcm, Option.map_eq_none_iff] at this
  exact this
 have hg : ∀ i, St.HF ⟨E, (n, some b) :: H, n + 1⟩ i = if i = n then some b else getH H i := fun i => by
  show getH ((n, some b) :: H) i = _
  rw [getH]
  by_cases hi : i = n
  ·subst hi; simp
  ·have : Nat.beq n i = false := by cases hb : Nat.beq n i with
    | false => rfl
    | true => exact absurd (Nat.eq_of_beq_eq_true hb).symm hi
   rw [this, if_neg hi]; rfl
 have hold : ∀ i c, getH H i = some c → i < n ∧ famH K (getH (blkL n v H)) (F1 ++ (v, b) :: F2) i = some (c.lit n v) := fun i c hc => by
  have h1 : i < n := by
   rcases Nat.lt_or_ge i n with h' | h'
   ·exact h'
   ·rw [hHn i h'] at hc; cases hc
  exact ⟨h1, by rw [zeD (by omega), zcm, hc]; rfl⟩
 have eid : ∀ t, ∀ i ∈ (get E t).ids, i < n + 1 := fun t i hi => by
  rcases lit_ids (q := n) (v := v) _ i hi with e | e
  ·omega
  ·have := h.eid t i (by show i ∈ (get (envL n v E) t).ids; rw [zdw]; exact e)
   simp only at this; omega
 have hsplit : ∀ i c, famH (n + 1) (St.HF ⟨E, (n, some b) :: H, n + 1⟩) (F1 ++ F2) i = some c → (i < n ∧ getH H i = some c) ∨ (i = n ∧ c = b) ∨ ∃ j p, i = n + 1 + j ∧ (F1 ++ (v, b) :: F2)[up j]? = some p ∧ p.2 = c := by
  intro i c hi
  rcases zaT hi with ⟨h1, h2⟩ | ⟨j, p, rfl, h2, h3⟩
  ·rw [hg] at h2
   split at h2
   ·rename_i e; injection h2 with h2; exact .inr (.inl ⟨e, h2.symm⟩)
   ·exact .inl ⟨(hold i c h2).1, h2⟩
  ·exact .inr (.inr ⟨j, p, rfl, by rw [← hup]; exact h2, h3⟩)
 refine ⟨Z', n + 1, Nat.le_refl _, fun i hi => ?_, eid, fun i c hc j hj => ?_, fun j p hj => ?_, ?_⟩
 ·have hi : n + 1 ≤ i := hi
  rw [hg, if_neg (by omega)]; exact hHn i (by omega)
 ·rw [hg] at hc
  split at hc
  ·injection hc with hc; subst hc; rw [f2] at hj; cases hj
  ·rcases Blk.lit_ids (q := n) (v := v) c j hj with e | e
   ·show j < n + 1; omega
   ·have := h.bid i (c.lit n v) (by show getH (blkL n v H) i = _; rw [zcm, hc]; rfl) j e
    simp only at this; show j < n + 1; omega
 ·rw [hup] at hj
  obtain ⟨g1, g2⟩ := h.fam _ _ hj
  exact ⟨by show Z (π (n + 1 + j)) = _; rw [p3]; exact g1, g2⟩
 ·refine hs.ren hnl π (fun _ _ _ => rfl) (fun i j c d hi hj hij => ?_) (fun t u B B' hB hr => ?_) (fun t i hi => .inl (eid t i hi)) (fun i c hi => ?_)
  ·rcases hsplit i c hi with ⟨h1, _⟩ | ⟨h1, _⟩ | ⟨p, _, h1, _⟩ <;> rcases hsplit j d hj with ⟨h2, _⟩ | ⟨h2, _⟩ | ⟨q, _, h2, _⟩
   ·rw [p1 i h1, p1 j h2]; exact hij
   ·subst h2; rw [p1 i h1, p2]; omega
   ·subst h2; rw [p1 i h1, p3]; omega
   ·subst h1; rw [p1 j h2, p2]; omega
   ·omega
   ·subst h1 h2; rw [p2, p3]; have := upn q; omega
   ·subst h1; rw [p1 j h2, p3]; omega
   ·subst h1 h2; rw [p2, p3]; have := upn p; omega
   ·subst h1 h2; rw [p3, p3]; have := upi p q (by omega); omega
  ·have hr : AV.rep Z B w (get (envL n v E) t) u := hr
   rw [zdw] at hr
   have h2 : AV.rep Z' B' w ((get E t).lit n v) u := AV.rep_mono (Upto.refl _) hB _ (fun i hi => by
    have := h.eid t i (by show i ∈ (get (envL n v E) t).ids; rw [zdw]; exact hi)
    show Z (π i) = Z i
    rw [p1 i this]) _ hr
   exact (zhY hzn _ u).1 h2
  ·rcases hsplit i c hi with ⟨h1, h2⟩ | ⟨h1, h2⟩ | ⟨j, p, h1, h2, h3⟩
   ·obtain ⟨_, g1⟩ := hold i c h2
    refine ⟨c.lit n v, by rw [p1 i h1]; exact g1, fun B B' hB hh => ?_, .inl (show i < n + 1 by omega), fun j hj => .inl ?_⟩
    ·rw [p1 i h1] at hh
     refine (ziF hzn i c).1 (hh.keep (Upto.refl _) hB (by show Z (π i) = Z i; rw [p1 i h1]) (fun j hj => ?_) (fun _ _ => rfl))
     have := h.bid i (c.lit n v) (by show getH (blkL n v H) i = _; rw [zcm, h2]; rfl) j hj
     show Z (π j) = Z j
     rw [p1 j this]
    ·rcases Blk.lit_ids (q := n) (v := v) c j hj with e | e
     ·show j < n + 1; omega
     ·have := h.bid i (c.lit n v) (by show getH (blkL n v H) i = _; rw [zcm, h2]; rfl) j e
      simp only at this; show j < n + 1; omega
   ·subst h1 h2
    refine ⟨c, by rw [p2]; exact h.fm hmid, fun B B' hB hh => zaE hh rfl f2 hB, .inl (show i < i + 1 by omega), fun j hj => by rw [f2] at hj; cases hj⟩
   ·subst h1 h3
    obtain ⟨g1, g2⟩ := h.fam _ _ h2
    refine ⟨p.2, by rw [p3]; exact h.fm h2, fun B B' hB hh => zaE hh rfl g2 hB, .inr ⟨by omega, ?_⟩, fun j hj => by rw [g2] at hj; cases hj⟩
    rw [← hup] at h2
    have := zbA h2; omega
theorem SimX.put (hl : C.ln = ⟨0, 0⟩) {q : Nat} (hq : getH H q = some b) (hb : b.ids = []) (h : SimX C ⟨E, H, n⟩ (F1 ++ F2) a w) : ∃ v, SimX C ⟨envL q v E, (q, none) :: blkL q v H, n⟩ (F1 ++ (v, b) :: F2) a w := by
 obtain ⟨Z, K, h⟩ := h
 have hs := h.sim
 have hnl : C.nl = 0 := by unfold Cx.nl; rw [hl]
 have hle : n ≤ K := h.le
 have hqn : q < n := (h.hf (i := q) (b := b) hq).1
 refine ⟨Z q, ?_⟩
 generalize hv : Z q = v
 have hmid : (F1 ++ (v, b) :: F2)[F1.length]? = some (v, b) := by rw [List.getElem?_append_right (Nat.le_refl _), Nat.sub_self]; rfl
 let dn : Nat → Nat := fun j => if j < F1.length then j else j - 1
 have hdn : ∀ j, j ≠ F1.length → (F1 ++ (v, b) :: F2)[j]? = (F1 ++ F2)[dn j]? := by
  intro j hj
  show _ = (F1 ++ F2)[if j < F1.length then j else j - 1]?
  split
  ·rename_i hj; rw [List.getElem?_append_left hj, List.getElem?_append_left hj]
  ·rename_i hj'
   rw [List.getElem?_append_right (by omega), List.getElem?_append_right (by omega), show j - F1.length = (j - 1 - F1.length) + 1 by omega, List.getElem?_cons_succ]
 have dni : ∀ i j, i ≠ j → i ≠ F1.length → j ≠ F1.length → dn i ≠ dn j := fun i j hij hi hj => by show (if i < F1.length then i else i - 1) ≠ (if j < F1.length then j else j - 1); split <;> split <;> omega
 let π : Nat → Nat := fun i => if i < n then i else if i = n + F1.length then q else K + dn (i - n)
 let Z' : Nat → Value := fun i => Z (π i)
 have p1 : ∀ i, i < n → π i = i := fun i hi => if_pos hi
 have p2 : π (n + F1.length) = q := by show (if n + F1.length < n then _ else if n + F1.length = n + F1.length then _ else _) = _; rw [if_neg (by omega), if_pos rfl]
 have p3 : ∀ j, j ≠ F1.length → π (n + j) = K + dn j := fun j hj => by show (if n + j < n then _ else if n + j = n + F1.length then _ else _) = _; rw [if_neg (by omega), if_neg (by omega), Nat.add_sub_cancel_left]
 have hzq : Z' q = v := by show Z (π q) = v; rw [p1 q hqn]; exact hv
 have hg : ∀ i, St.HF ⟨envL q v E, (q, none) :: blkL q v H, n⟩ i = if i = q then none else (getH H i).map (Blk.lit q v) := fun i => by
  show getH ((q, none) :: blkL q v H) i = _
  rw [getH]
  by_cases hi : i = q
  ·subst hi; simp
  ·have : Nat.beq q i = false := by cases hb : Nat.beq q i with
    | false => rfl
    | true => exact absurd (Nat.eq_of_beq_eq_true hb).symm hi
   rw [this, if_neg hi, cond_false, zcm]
 have hlo : ∀ i c, getH H i = some c → i < n := fun i c hc => (h.hf (i := i) (b := c) hc).1
 have eid : ∀ t, ∀ i ∈ (get (envL q v E) t).ids, i < n := fun t i hi => by
  rw [zdw] at hi
  exact h.eid t i (lit_sub _ i hi)
 have hsplit : ∀ i c, famH n (St.HF ⟨envL q v E, (q, none) :: blkL q v H, n⟩) (F1 ++ (v, b) :: F2) i = some c → (i < n ∧ i ≠ q ∧ ∃ c', getH H i = some c' ∧ c = c'.lit q v) ∨ (i = n + F1.length ∧ c = b) ∨ ∃ j p, i = n + j ∧ j ≠ F1.length ∧ (F1 ++ F2)[dn j]? = some p ∧ p.2 = c := by
  intro i c hi
  rcases zaT hi with ⟨h1, h2⟩ | ⟨j, p, rfl, h2, h3⟩
  ·rw [hg] at h2
   split at h2
   ·cases h2
   ·rename_i e
    rw [Option.map_eq_some_iff] at h2
    obtain ⟨c', h2, h3⟩ := h2
    exact .inl ⟨h1, e, c', h2, h3.symm⟩
  ·by_cases hj : j = F1.length
   ·subst hj
    rw [hmid] at h2
    injection h2 with h2
    subst h2
    exact .inr (.inl ⟨rfl, h3.symm⟩)
   ·rw [hdn j hj] at h2
    exact .inr (.inr ⟨j, p, rfl, hj, h2, h3⟩)
 have bid : ∀ i c, getH H i = some c → ∀ j ∈ (c.lit q v).ids, j < n := fun i c hc j hj => h.bid i c hc j (Blk.lit_sub c j hj)
 refine ⟨Z', n, Nat.le_refl _, fun i hi => ?_, eid, fun i c hc j hj => ?_, fun j p hj => ?_, ?_⟩
 ·have hi : n ≤ i := hi
  rw [hg]
  split
  ·rfl
  ·rw [show getH H i = none from h.top i hi]; rfl
 ·rw [hg] at hc
  split at hc
  ·cases hc
  ·rw [Option.map_eq_some_iff] at hc
   obtain ⟨c', h2, rfl⟩ := hc
   exact bid i c' h2 j hj
 ·by_cases hjl : j = F1.length
  ·subst hjl
   rw [hmid] at hj
   injection hj with hj
   subst hj
   exact ⟨by show Z (π (n + F1.length)) = v; rw [p2]; exact hv, hb⟩
  ·rw [hdn j hjl] at hj
   obtain ⟨g1, g2⟩ := h.fam _ _ hj
   exact ⟨by show Z (π (n + j)) = _; rw [p3 j hjl]; exact g1, g2⟩
 ·refine hs.ren hnl π (fun _ _ _ => rfl) (fun i j c d hi hj hij => ?_) (fun t u B B' hB hr => ?_) (fun t i hi => .inl (eid t i hi)) (fun i c hi => ?_)
  ·rcases hsplit i c hi with ⟨h1, hiq, _⟩ | ⟨h1, _⟩ | ⟨p, _, h1, hp, _⟩ <;> rcases hsplit j d hj with ⟨h2, hjq, _⟩ | ⟨h2, _⟩ | ⟨r, _, h2, hr, _⟩
   ·rw [p1 i h1, p1 j h2]; exact hij
   ·subst h2; rw [p1 i h1, p2]; exact hiq
   ·subst h2; rw [p1 i h1, p3 r hr]; omega
   ·subst h1; rw [p1 j h2, p2]; exact fun e => hjq e.symm
   ·omega
   ·subst h1 h2; rw [p2, p3 r hr]; omega
   ·subst h1; rw [p1 j h2, p3 p hp]; omega
   ·subst h1 h2; rw [p2, p3 p hp]; omega
   ·subst h1 h2; rw [p3 p hp, p3 r hr]; have := dni p r (by omega) hp hr; omega
  ·have hr : AV.rep Z B w (get E t) u := hr
   show AV.rep Z' B' w (get (envL q v E) t) u
   rw [zdw]
   refine (zhY hzq _ u).2 (AV.rep_mono (Upto.refl _) hB _ (fun i hi => ?_) _ hr)
   show Z (π i) = Z i
   rw [p1 i (h.eid t i hi)]
  ·rcases hsplit i c hi with ⟨h1, hiq, c', h2, rfl⟩ | ⟨h1, h2⟩ | ⟨j, p, h1, hjl, h2, h3⟩
   ·refine ⟨c', by rw [p1 i h1, zeD (by omega)]; exact h2, fun B B' hB hh => ?_, .inl h1, fun j hj => .inl (bid i c' h2 j hj)⟩
    rw [p1 i h1] at hh
    refine (ziF hzq i c').2 (hh.keep (Upto.refl _) hB (by show Z (π i) = Z i; rw [p1 i h1]) (fun j hj => ?_) (fun _ _ => rfl))
    show Z (π j) = Z j
    rw [p1 j (h.bid i c' h2 j hj)]
   ·subst h1 h2
    refine ⟨c, by rw [p2]; exact (h.hf (i := q) (b := c) hq).2, fun B B' hB hh => zaE hh rfl hb hB, .inr ⟨by omega, by simp⟩, fun j hj => by rw [hb] at hj; cases hj⟩
   ·subst h1 h3
    obtain ⟨g1, g2⟩ := h.fam _ _ h2
    refine ⟨p.2, by rw [p3 j hjl]; exact h.fm h2, fun B B' hB hh => zaE hh rfl g2 hB, .inr ⟨by omega, ?_⟩, fun j hj => by rw [g2] at hj; cases hj⟩
    rw [← hdn j hjl] at h2
    have := zbA h2; omega
end
/-! ## The last element by itself -/
theorem zhu {Z : Nat → Value} {B : Nat → Prop} {w : World} {i T sz : Nat} {es : List (List RV)} {e : List RV} (h : held Z B w i (.row T sz (es ++ [e]))) : held Z B w i (.rowo T sz es (e.map AV.r)) := by
 obtain ⟨us, h1, h2, h3⟩ := h
 have hes : ∀ x ∈ es, x.length = sz := fun x hx => h3 x (List.mem_append_left _ hx)
 have he : e.length = sz := h3 e (by simp)
 rw [List.flatten_append, show [e].flatten = e by simp] at h2
 have g1 := h2.take es.flatten.length
 have g2 := h2.drop es.flatten.length
 rw [List.take_left] at g1
 rw [List.drop_left] at g2
 refine ⟨us.take es.flatten.length, us.drop es.flatten.length, by rw [List.take_append_drop]; simpa using h1, g1, ziR g2, hes, by rw [List.length_map]; exact he, List.all_eq_true.2 fun u hu => h2.one u (List.mem_of_mem_drop hu)⟩
theorem zjg (e : List RV) : AV.idss (e.map AV.r) = [] := by
 induction e with
 | nil => rfl
 | cons c e ih => rw [List.map_cons, AV.idss, ih]; rfl
theorem SimX.rowo {C : Cx} {S : St} {F : Fam} {a : Act} {w : World} (hl : C.ln = ⟨0, 0⟩) (h : SimX C S F a w) {i T sz : Nat} {es : List (List RV)} {e : List RV} (hi : S.HF i = some (.row T sz (es ++ [e]))) : SimX C ⟨S.env, (i, some (.rowo T sz es (e.map AV.r))) :: S.H, S.nx⟩ F a w := by
 obtain ⟨Z, K, h⟩ := h
 have hnl : C.nl = 0 := by unfold Cx.nl; rw [hl]
 have hin := (h.hf hi).1
 have hle : S.nx ≤ K := h.le
 have hg : ∀ j, St.HF ⟨S.env, (i, some (.rowo T sz es (e.map AV.r))) :: S.H, S.nx⟩ j = if j = i then some (.rowo T sz es (e.map AV.r)) else S.HF j := fun j => by
  show getH ((i, some (.rowo T sz es (e.map AV.r))) :: S.H) j = _
  rw [getH]
  by_cases hij : j = i
  ·subst hij; simp
  ·have : Nat.beq i j = false := by cases hb : Nat.beq i j with
    | false => rfl
    | true => exact absurd (Nat.eq_of_beq_eq_true hb).symm hij
   rw [this, if_neg hij]; rfl
 have bid : ∀ j b, St.HF ⟨S.env, (i, some (.rowo T sz es (e.map AV.r))) :: S.H, S.nx⟩ j = some b → ∀ q ∈ b.ids, q < S.nx := fun j b hb q hq => by
  rw [hg] at hb
  split at hb
  ·injection hb with hb; subst hb
   rw [Blk.ids, zjg] at hq; cases hq
  ·exact h.bid j b hb q hq
 refine ⟨Z, K, h.le, fun j hj => ?_, h.eid, bid, h.fam, h.sim.same (fun t u B hr => hr) (fun t q hq => .inl (h.eid t q hq)) (fun j b hb => ?_) hnl⟩
 ·have hj : S.nx ≤ j := hj
  rw [hg, if_neg (by omega)]; exact h.top j hj
 ·rcases zaT hb with ⟨h1, h2⟩ | ⟨q, p, rfl, h2, rfl⟩
  ·have hb' := bid j b h2
   rw [hg] at h2
   split at h2
   ·rename_i e1
    injection h2 with h2
    subst e1 h2
    exact ⟨_, by rw [zeD h1]; exact hi, fun B hh => zhu hh, .inl hin, fun q hq => .inl (hb' q hq)⟩
   ·exact ⟨b, by rw [zeD h1]; exact h2, fun B hh => hh, .inl (h.hf h2).1, fun q hq => .inl (hb' q hq)⟩
  ·exact ⟨p.2, h.fm h2, fun B hh => hh, .inr ⟨by omega, by have := zbA h2; omega⟩, fun x hx => by rw [(h.fam q p h2).2] at hx; cases hx⟩
/-! ## The family is handed over to what is only read -/
inductive FzL (F : Fam) : List RV → List RV → Prop
 | nil : FzL F [] []
 | same (c cs ds) : FzL F cs ds → FzL F (c :: cs) (c :: ds)
 | sl (v T sz es cs ds) : (v, Blk.row T sz es) ∈ F → FzL F cs ds → FzL F (.v v :: cs) (.sl sz es :: ds)
theorem FzL.refl (F : Fam) : ∀ cs : List RV, FzL F cs cs
 | [] => .nil
 | c :: cs => .same _ _ _ (FzL.refl F cs)
theorem FzL.append {F : Fam} {as bs cs ds : List RV} (h : FzL F as bs) (k : FzL F cs ds) : FzL F (as ++ cs) (bs ++ ds) := by
 induction h with
 | nil => exact k
 | same c _ _ _ ih => exact .same _ _ _ ih
 | sl v T sz es _ _ hm _ ih => exact .sl _ _ _ _ _ _ hm ih
theorem FzL.mono {F F' : Fam} (hF : ∀ p ∈ F, p ∈ F') {as bs : List RV} (h : FzL F as bs) : FzL F' as bs := by
 induction h with
 | nil => exact .nil
 | same c _ _ _ ih => exact .same _ _ _ ih
 | sl v T sz es _ _ hm _ ih => exact .sl _ _ _ _ _ _ (hF _ hm) ih
/-! ## Walks -/
section
variable {P : Program} {N : Nat} {Q : Exit → St → Fam → Prop} {S : St} {F : Fam}
end
section
variable {P : Program} {ty : TypeId} {pos : String} {af : Array Edge} {g : Option (Nat × Bool)} {t : TypeId} {x y : Operand}
end
section
variable {P : Program} {L : Ln} {N : Nat} {ops : Array Oper} {chk : List (Nat × Sp) → Bool} {Q : St → Prop} {l : List Oper} {E : List (Nat × AV)} {H : List (Nat × Option Blk)} {n : Nat} {tr : List (Nat × Sp)}
variable {ty : TypeId} {pos : String} {af : Array Edge} {g : Option (Nat × Bool)} {t : TypeId} {x y z : Operand}
end
section
variable {P : Program} {L : Ln} {N : Nat} {ops : Array Oper} {chk : List (Nat × Sp) → Bool} {Q : St → Prop} {l : List Oper} {S : St} {tr : List (Nat × Sp)} {d : Option Tmp} {ty : TypeId} {pos : String} {af : Array Edge} {g : Option (Nat × Bool)}
end
section
variable {S : St} {ρ : Nat → Nat} {G : List Nat} {lh : List (Nat × Option Blk)} {i T sz : Nat} {es es' : List (List RV)} {cs cs' : List AV} {e : List RV}
theorem zn8 {q : Nat} {o : Obj} (h : hLe S ρ G lh) (hx : getH S.H (ρ i) = some (.gl q o)) : hLe S ρ G ((i, some (.gl q o)) :: lh) := ⟨⟨_, hx, .gl _ _⟩, h⟩
end
section
variable {H : Nat → Option Blk} {ρ : Nat → Nat} {as ds : List Blk} {T sz : Nat} {es es' : List (List RV)} {cs cs' : List AV}
end
/-! ## Calls whose result bears no new slice -/
mutual
def AV.plainB : AV → Bool
 | .r _ => true
 | .rp _ => true
 | .ag cs => AV.plainsB cs
 | .tu cs => AV.plainsB cs
 | .na => true
 | _ => false
def AV.plainsB : List AV → Bool
 | [] => true
 | c :: cs => AV.plainB c && AV.plainsB cs
end
mutual
theorem zgo : ∀ (a : AV) (k : Nat), a.plainB = true → a.unfr k = (a, []) ∧ a.ids = []
 | .r _, k, _ => ⟨rfl, rfl⟩
 | .rp _, k, _ => ⟨rfl, rfl⟩
 | .na, k, _ => ⟨rfl, rfl⟩
 | .ag cs, k, h => by
  obtain ⟨h1, h2⟩ := zdZ cs k (by simpa only [AV.plainB] using h)
  exact ⟨by rw [AV.unfr, h1], h2⟩
 | .tu cs, k, h => by
  obtain ⟨h1, h2⟩ := zdZ cs k (by simpa only [AV.plainB] using h)
  exact ⟨by rw [AV.unfr, h1], h2⟩
 | .ow _, k, h => by cases h
 | .pt _ _, k, h => by cases h
 | .pe _ _ _ _, k, h => by cases h
 | .fr _ _ _, k, h => by cases h
 | .ol _ _, k, h => by cases h
 | .sv _ _, k, h => by cases h
 | .so _ _ _ _, k, h => by cases h
 | .cl _ _, k, h => by cases h
theorem zdZ : ∀ (as : List AV) (k : Nat), AV.plainsB as = true → AV.unfrs as k = (as, []) ∧ AV.idss as = []
 | [], k, _ => ⟨rfl, rfl⟩
 | a :: as, k, h => by
  rw [AV.plainsB, Bool.and_eq_true] at h
  obtain ⟨h1, h2⟩ := zgo a k h.1
  obtain ⟨h3, h4⟩ := zdZ as (k + 0) h.2
  exact ⟨by rw [AV.unfrs, h1]; simp only [List.length_nil, h3, List.append_nil], by rw [AV.idss, h2, h4]; rfl⟩
end
section
variable {P : Program} {L : Ln} {N : Nat} {ops : Array Oper} {chk : List (Nat × Sp) → Bool} {Q : St → Prop} {l : List Oper} {E : List (Nat × AV)} {H : List (Nat × Option Blk)} {n : Nat} {tr : List (Nat × Sp)}
variable {d : Nat} {ty : TypeId} {pos : String} {af : Array Edge} {g : Option (Nat × Bool)}
theorem znh {f : FuncId} {xs : Array Operand} {ats : Array TypeId} {ds : List AV} {r : AV} (G : List Nat) (rd : List (Nat × Blk)) (hm : zaq P f ds [] r []) (hpl : r.plainB = true) (hargs : CfL (getH H) (fun i => i) G (xs.toList.map (evA (get E))) ds) (hf : zfg P f = true)
  (hrd : ∀ g ∈ G, ∃ b, (g, b) ∈ rd ∧ getH H g = some b) (hrd2 : ∀ i b, (i, b) ∈ rd → getH H i = some b) (hv : G = [] ∨ r.vals) (hds : AV.idss ds = [])
  (hd : Nat.blt d N = true) (hg : zbw ops (get E) ⟨some d, .call { callee := .value (.func f), args := xs, argTypes := ats }, ty, pos, af, g⟩ true)
  (h : wpA P L N ops chk Q l ⟨(d, r) :: E, H, n⟩ ((n, ⟨true, rd, r, [], []⟩) :: tr)) :
  wpA P L N ops chk Q (⟨some d, .call { callee := .value (.func f), args := xs, argTypes := ats }, ty, pos, af, g⟩ :: l) ⟨E, H, n⟩ tr := by
 obtain ⟨h1, h2⟩ := zgo r n hpl
 refine zeW G rd hm hargs hf hrd hrd2 hv hds ?_ hd hg ?_
 ·rw [h1]; unfold rngB; rw [h2]; rfl
 ·rw [h1]; exact h
end
def sb (l : List UInt8) : ByteArray := ⟨l.toArray⟩
theorem zeL (l : List UInt8) : (sb l).size = l.length := by simp [sb, ByteArray.size]
theorem znR (a b : List UInt8) : sb a ++ sb b = sb (a ++ b) := ByteArray.mk_append_mk a b
section
variable {P : Program} {env : Nat → AV} {H : Nat → Option Blk} {d : Option Tmp} {ty : TypeId} {pos : String} {af : Array Edge} {g : Option (Nat × Bool)} {t u : TypeId} {x y : Operand}
theorem znM {a b : ByteArray} (h : a.size + b.size ≤ 9223372036854775807) (hx : evA env x = .r (.v (.string a))) (hy : evA env y = .r (.v (.string b))) : zas P ⟨d, .binOp .add t x y u, ty, pos, af, g⟩ env H [] (.r (.v (.string (a ++ b)))) :=
 zaX rfl hx hy fun ρ w h1 h2 => by
  simp only [execOp, h1, h2]
  have := run_string_add_sum (P := P) (w := w) a b h
  simp [go_sem, h]
theorem zcs {a b c : List UInt8} (hc : a ++ b = c) (h : c.length ≤ 9223372036854775807) (hx : evA env x = .r (.v (.string (sb a)))) (hy : evA env y = .r (.v (.string (sb b)))) : zas P ⟨d, .binOp .add t x y u, ty, pos, af, g⟩ env H [] (.r (.v (.string (sb c)))) := by
 subst hc
 rw [← znR]
 exact znM (by rw [zeL, zeL, ← List.length_append]; exact h) hx hy
end
section
variable {post : List (Option Blk)} {P : Program} {L : Ln} {fn : Func} {S : St} {r s x y : AV} {t u : Nat} {F F' F'' : List Nat}
end
section
variable {H : Nat → Option Blk} {L : Nat} {G : List Nat} {cs ds : List AV} {F F' : List Nat} {i T sz : Nat} {es es' : List (List RV)} {l : List (Option Blk)}
end
structure FOk (P : Program) (F : Fence) (n : Nat) : Prop where
 fn : ∀ f, F.fn f
 calls : ∀ f args w R, Calls P f args w R → CallsIn F (n - 1) P f args w R
 depth : F.depth.isSome = true → 1 ≤ n
section
variable {F : Fence} {n : Nat} {P : Program}
section
variable {L : Ln} {N : Nat} {Q : Exit → St → Prop} {S : St}
end
end
structure Kp (B B' : Nat → Prop) (W W' : World) : Prop where
 up : Upto B W W'
 old : ∀ k, k < W.heap.size → B' k → B k
theorem Kp.refl (B : Nat → Prop) (W : World) : Kp B B W W := ⟨Upto.refl _, fun _ _ h => h⟩
theorem Kp.trans {B B1 B2 : Nat → Prop} {U V W : World} (h : Kp B B1 U V) (k : Kp B1 B2 V W) : Kp B B2 U W :=
 ⟨⟨k.up.os.trans h.up.os, k.up.tape.trans h.up.tape, k.up.output.trans h.up.output, Nat.le_trans h.up.size k.up.size, fun x hx hn => (k.up.block x (Nat.lt_of_lt_of_le hx h.up.size) fun hb => hn (h.old x hx hb)).trans (h.up.block x hx hn)⟩, fun x hx hd => h.old x hx (k.old x (Nat.lt_of_lt_of_le hx h.up.size) hd)⟩
theorem Kp.below {B : Nat → Prop} {W W' : World} (hb : Below W.heap.size W W') : Kp B B W W' := ⟨Upto.of_below hb, fun _ _ h => h⟩
theorem Kp.rep {B B' : Nat → Prop} {W W' : World} {Z Z' : Nat → Value} (h : Kp B B' W W') {c : AV} {u : Value} (hz : ∀ i ∈ c.ids, Z' i = Z i) (hr : AV.rep Z B W c u) : AV.rep Z' B' W' c u := AV.rep_mono h.up h.old c hz u hr
section
variable {C : Cx} {S : St} {F F1 F2 : Fam} {a : Act} {w : World} {Z : Nat → Value} {K : Nat}
theorem SimK.world (h : SimK C S F a w Z K) {w' : World} (hb : Below w.heap.size w w') : SimK C S F a w' Z K := ⟨h.le, h.top, h.eid, h.bid, h.fam, h.sim.world hb⟩
theorem SimX.world (h : SimX C S F a w) {w' : World} (hb : Below w.heap.size w w') : SimX C S F a w' := by
 obtain ⟨Z, K, h⟩ := h
 exact ⟨Z, K, h.world hb⟩
end
theorem SimK.drop {C : Cx} {S : St} {F G : Fam} {a : Act} {w : World} {Z : Nat → Value} {K : Nat} (hl : C.ln = ⟨0, 0⟩) (h : SimK C S (F ++ G) a w Z K) : SimK C S F a w Z K := by
 have hs := h.sim
 have hnl : C.nl = 0 := by unfold Cx.nl; rw [hl]
 have old : ∀ i c, famH K S.HF F i = some c → famH K S.HF (F ++ G) i = some c := by
  intro i c hi
  rcases zaT hi with ⟨h1, h2⟩ | ⟨j, p, rfl, h2, h3⟩
  ·rw [zeD h1]; exact h2
  ·rw [zjU, List.getElem?_append_left (zbA h2), h2, ← h3]; rfl
 have lo : ∀ i c, famH K S.HF F i = some c → i < S.nx ∨ (K ≤ i ∧ i < K + F.length) := by
  intro i c hi
  rcases zaT hi with ⟨h1, h2⟩ | ⟨j, p, rfl, h2, h3⟩
  ·exact .inl (h.hf h2).1
  ·exact .inr ⟨by omega, by have := zbA h2; omega⟩
 have hB : ∀ k, k < w.heap.size → Own C (famH K S.HF F) Z k → Own C (famH K S.HF (F ++ G)) Z k := by
  rintro k _ (hk | ⟨i, c, hi, hx⟩)
  ·exact .inl hk
  ·exact .inr ⟨i, c, old i c hi, hx⟩
 refine ⟨h.le, h.top, h.eid, h.bid, fun j p hj => h.fam j p (by rw [List.getElem?_append_left (zbA hj)]; exact hj), hs.size, hs.defers, hs.frame, hs.m0, fun t => AV.rep_mono (Upto.refl _) hB _ (fun _ _ => rfl) _ (hs.slots t), fun t i hi => .inl (h.eid t i hi), fun i c hi => ⟨((hs.holds i c (old i c hi)).1).anti hB, lo i c hi, fun q hq => ?_⟩,
  fun i j c d hi hj => hs.dist i j c d (old i c hi) (old j d hj), fun i c x hi => hs.fresh i c x (old i c hi), hs.lm, fun i hi => by omega⟩
 rcases zaT hi with ⟨h1, h2⟩ | ⟨j, p, rfl, h2, rfl⟩
 ·exact .inl (h.bid i c h2 q hq)
 ·rw [(h.fam j p (by rw [List.getElem?_append_left (zbA h2)]; exact h2)).2] at hq; cases hq
section
variable {F : Fence} {n : Nat} {P : Program}
end
section
variable {P : Program} {n : Nat} {C : Cx} {S : St} {F : Fam} {a : Act} {w : World} {Z : Nat → Value} {K : Nat}
end
end Go.Ab
namespace Go.Wd
open Go.Lib
theorem zfi {n : Nat} (h : n < 10) : decDigits n = [UInt8.ofNat (48 + n)] := decDigits_one h
theorem zga {n : Nat} (h : 10 ≤ n) : decDigits n = decDigits (n / 10) ++ [UInt8.ofNat (48 + n % 10)] := by
 rw [decDigits, dif_neg (by omega)]
def dz (n : Nat) : List UInt8 := if n = 0 then [] else decDigits n
theorem zmu {n : Nat} (h : n ≠ 0) : dz n = dz (n / 10) ++ [UInt8.ofNat (48 + n % 10)] := by
 unfold dz
 rw [if_neg h]
 rcases Nat.lt_or_ge n 10 with h1 | h1
 ·rw [zfi h1, if_pos (by omega), Nat.mod_eq_of_lt h1]; rfl
 ·rw [zga h1, if_neg (by omega)]
def pad (k n : Nat) : List UInt8 := List.replicate (k - (decDigits n).length) 48 ++ decDigits n
theorem zmq (n : Nat) : 1 ≤ (decDigits n).length := by
 rcases Nat.lt_or_ge n 10 with h | h
 ·rw [zfi h]; simp
 ·rw [zga h]; simp
theorem zhT : ∀ (k n : Nat), 1 ≤ k → n < 10 ^ k → (decDigits n).length ≤ k
 | 0, n, h, _ => by omega
 | k + 1, n, _, hn => by
  rcases Nat.lt_or_ge n 10 with h | h
  ·rw [zfi h]; simp
  ·rw [zga h, List.length_append]
   have hk : 1 ≤ k := by
    rcases Nat.eq_zero_or_pos k with h0 | h0
    ·subst h0; rw [Nat.pow_one] at hn; omega
    ·exact h0
   have := zhT k (n / 10) hk (by rw [Nat.pow_succ] at hn; omega)
   simp
   omega
theorem zlr (k n : Nat) (hk : 1 ≤ k) : pad (k + 1) n = pad k (n / 10) ++ [UInt8.ofNat (48 + n % 10)] := by
 unfold pad
 rcases Nat.lt_or_ge n 10 with h | h
 ·rw [zfi h, show n / 10 = 0 by omega, zfi (show 0 < 10 by omega), Nat.mod_eq_of_lt h]
  simp only [List.length_cons, List.length_nil]
  rw [show k + 1 - (0 + 1) = (k - 1) + 1 by omega, show k - (0 + 1) = k - 1 by omega, List.replicate_succ']
  simp
 ·rw [zga h, List.length_append]
  simp only [List.length_cons, List.length_nil]
  rw [show k + 1 - ((decDigits (n / 10)).length + (0 + 1)) = k - (decDigits (n / 10)).length by omega, List.append_assoc]
theorem zkh : ∀ (k n : Nat), 1 ≤ k → 10 ^ k ≤ n → decDigits n = decDigits (n / 10 ^ k) ++ pad k (n % 10 ^ k)
 | 0, n, h, _ => by omega
 | 1, n, _, hn => by
  rw [Nat.pow_one] at hn ⊢
  rw [zga hn]
  have h1 : n % 10 < 10 := Nat.mod_lt _ (by omega)
  unfold pad
  rw [zfi h1]
  simp
 | k + 2, n, _, hn => by
  have h10 : (10 : Nat) ^ (k + 2) = 10 ^ (k + 1) * 10 := Nat.pow_succ ..
  have hp : 0 < (10 : Nat) ^ (k + 1) := Nat.pow_pos (by omega)
  rw [h10] at hn ⊢
  rw [zga (by omega), zkh (k + 1) (n / 10) (by omega) (by omega), zlr (k + 1) _ (by omega), List.append_assoc]
  rw [Nat.div_div_eq_div_mul, Nat.mul_comm 10 (10 ^ (k + 1))]
  have e1 : n % (10 ^ (k + 1) * 10) / 10 = n / 10 % 10 ^ (k + 1) := by
   rw [Nat.mul_comm, Nat.mod_mul_right_div_self]
  have e2 : n % (10 ^ (k + 1) * 10) % 10 = n % 10 := Nat.mod_mul_left_mod _ _ _
  rw [e1, e2]
def zbt (n : Nat) : List (List UInt8) := if h : n < 1000000000000000000 then [decDigits n] else pad 18 (n % 1000000000000000000) :: zbt (n / 1000000000000000000)
termination_by n
decreasing_by omega
theorem zgs : ∀ (N n : Nat), n ≤ N → (zbt n).reverse.flatten = decDigits n
 | 0, n, h => by rw [zbt, dif_pos (by omega)]; simp
 | N + 1, n, h => by
  rw [zbt]
  split
  ·simp
  ·rename_i h1
   rw [List.reverse_cons, List.flatten_append, zgs N (n / 1000000000000000000) (by omega)]
   have := zkh 18 n (by omega) (by show 1000000000000000000 ≤ n; omega)
   rw [this, show (10 : Nat) ^ 18 = 1000000000000000000 from rfl]
   simp
end Go.Wd
namespace Go.Ab
open Go.RowKit
theorem zhh {P : Program} {L : Ln} {N : Nat} {Q : Exit → St → Prop} {S : St} {α : Type} {id : Nat} {c y : Code} (T : α → St) (I : α → Prop)
  (h1 : awp P L N (.loop c) (zf7 id (zkR (fun S => ∃ a, I a ∧ Le L S (T a)) Q)) S) (h2 : ∀ a, I a → awp P L N y Q (T a)) : awp P L N (.loop c) (zf7 id (zkR (awp P L N y Q) Q)) S := by
 refine zk4 h1 fun e S' h => ?_
 have key : (∃ a, I a ∧ Le L S' (T a)) → awp P L N y Q S' := fun ⟨a, ha, hL⟩ => zci hL (h2 a ha)
 cases e with
 | normal => exact key h
 | exit id' =>
  simp only [zf7] at h ⊢
  cases hb : Nat.beq id' id with
  | true => rw [hb] at h; exact key h
  | false => rw [hb] at h; exact h
 | _ => exact h
end Go.Ab
