/- Texts of the second layer in one: Ab31. -/
import Derived.Test.YtibedaeefnjjlaaGreatG16
/- The second layer: walks with a family of own slices beside the state. No conditions. --ext6 -/
namespace Go.Ab
open Go.RowKit
set_option linter.unusedVariables false
set_option linter.unusedSimpArgs false

/-! ## A slice of the family gets a number, and the other way round -/
mutual
def AV.lit (q : Nat) (v : Value) : AV → AV
  | .ow i => bif Nat.beq i q then .r (.v v) else .ow i
  | .ag cs => .ag (AV.lits q v cs)
  | .tu cs => .tu (AV.lits q v cs)
  | .cl f cs => .cl f (AV.lits q v cs)
  | .r c => .r c
  | .rp cs => .rp cs
  | .pt i o => .pt i o
  | .pe i sz k f => .pe i sz k f
  | .ol i n => .ol i n
  | .sv i n => .sv i n
  | .so i o n c => .so i o n c
  | .fr T sz es => .fr T sz es
  | .na => .na
def AV.lits (q : Nat) (v : Value) : List AV → List AV
  | [] => []
  | c :: cs => AV.lit q v c :: AV.lits q v cs
end
section
variable {Z : Nat → Value} {B : Nat → Prop} {w : World} {q : Nat} {v : Value}
mutual
theorem lit_rep (hz : Z q = v) : ∀ (c : AV) (u : Value), AV.rep Z B w (c.lit q v) u ↔ AV.rep Z B w c u
  | .ow i, u => by
    rw [AV.lit]
    cases h : Nat.beq i q with
    | true => have := Nat.eq_of_beq_eq_true h; subst this; rw [cond_true, AV.rep, RV.rep, AV.rep, hz]
    | false => rw [cond_false]
  | .ag cs, u => by rw [AV.lit, AV.rep, AV.rep]; simp only [lits_reps hz cs]
  | .tu cs, u => by rw [AV.lit, AV.rep, AV.rep]; simp only [lits_reps hz cs]
  | .cl f cs, u => by rw [AV.lit, AV.rep, AV.rep]; simp only [lits_reps hz cs]
  | .r c, u => Iff.rfl
  | .rp cs, u => Iff.rfl
  | .pt i o, u => Iff.rfl
  | .pe i sz k f, u => Iff.rfl
  | .ol i n, u => Iff.rfl
  | .sv i n, u => Iff.rfl
  | .so i o n c, u => Iff.rfl
  | .fr T sz es, u => Iff.rfl
  | .na, u => Iff.rfl
theorem lits_reps (hz : Z q = v) : ∀ (cs : List AV) (us : List Value), AV.reps Z B w (AV.lits q v cs) us ↔ AV.reps Z B w cs us
  | [], us => Iff.rfl
  | c :: cs, us => by rw [AV.lits, AV.reps, AV.reps]; simp only [lit_rep hz c, lits_reps hz cs]
end
mutual
theorem lit_ids : ∀ (c : AV) (i : Nat), i ∈ c.ids → i = q ∨ i ∈ (c.lit q v).ids
  | .ow j, i, h => by
    have hi : i = j := by simpa [AV.ids] using h
    subst hi
    rw [AV.lit]
    cases h : Nat.beq i q with
    | true => exact .inl (Nat.eq_of_beq_eq_true h)
    | false => exact .inr (by simp [AV.ids])
  | .ag cs, i, h => by rw [AV.lit, AV.ids]; exact lits_ids cs i (by simpa [AV.ids] using h)
  | .tu cs, i, h => by rw [AV.lit, AV.ids]; exact lits_ids cs i (by simpa [AV.ids] using h)
  | .cl f cs, i, h => by rw [AV.lit, AV.ids]; exact lits_ids cs i (by simpa [AV.ids] using h)
  | .r c, i, h => .inr h
  | .rp cs, i, h => .inr h
  | .pt _ _, i, h => .inr h
  | .pe _ _ _ _, i, h => .inr h
  | .ol _ _, i, h => .inr h
  | .sv _ _, i, h => .inr h
  | .so _ _ _ _, i, h => .inr h
  | .fr T sz es, i, h => .inr h
  | .na, i, h => .inr h
theorem lits_ids : ∀ (cs : List AV) (i : Nat), i ∈ AV.idss cs → i = q ∨ i ∈ AV.idss (AV.lits q v cs)
  | [], i, h => .inr h
  | c :: cs, i, h => by
    rw [AV.idss, List.mem_append] at h
    rw [AV.lits, AV.idss, List.mem_append]
    rcases h with h | h
    · exact (lit_ids c i h).imp id .inl
    · exact (lits_ids cs i h).imp id .inr
end
mutual
theorem lit_sub : ∀ (c : AV) (i : Nat), i ∈ (c.lit q v).ids → i ∈ c.ids
  | .ow j, i, h => by
    rw [AV.lit] at h
    cases hb : Nat.beq j q with
    | true => rw [hb, cond_true] at h; simp [AV.ids] at h
    | false => rw [hb, cond_false] at h; exact h
  | .ag cs, i, h => by rw [AV.lit, AV.ids] at h; rw [AV.ids]; exact lits_sub cs i h
  | .tu cs, i, h => by rw [AV.lit, AV.ids] at h; rw [AV.ids]; exact lits_sub cs i h
  | .cl f cs, i, h => by rw [AV.lit, AV.ids] at h; rw [AV.ids]; exact lits_sub cs i h
  | .r c, i, h => h
  | .rp cs, i, h => h
  | .pt _ _, i, h => h
  | .pe _ _ _ _, i, h => h
  | .ol _ _, i, h => h
  | .sv _ _, i, h => h
  | .so _ _ _ _, i, h => h
  | .fr T sz es, i, h => h
  | .na, i, h => h
theorem lits_sub : ∀ (cs : List AV) (i : Nat), i ∈ AV.idss (AV.lits q v cs) → i ∈ AV.idss cs
  | [], i, h => h
  | c :: cs, i, h => by
    rw [AV.lits, AV.idss, List.mem_append] at h
    rw [AV.idss, List.mem_append]
    exact h.imp (lit_sub c i) (lits_sub cs i)
end
theorem lits_len : ∀ cs : List AV, (AV.lits q v cs).length = cs.length
  | [] => rfl
  | c :: cs => by rw [AV.lits, List.length_cons, List.length_cons, lits_len cs]
end
def Blk.lit (q : Nat) (v : Value) : Blk → Blk
  | .var T cs => .var T (AV.lits q v cs)
  | .rowo T sz es cs => .rowo T sz es (AV.lits q v cs)
  | .row T sz es => .row T sz es
  | .full T sz es => .full T sz es
  | .rowk T sz es n c => .rowk T sz es n c
  | .mp l => .mp l
  | .obj o => .obj o
theorem lit_held {Z : Nat → Value} {B : Nat → Prop} {w : World} {q : Nat} {v : Value} (hz : Z q = v) (i : Nat) (b : Blk) : held Z B w i (b.lit q v) ↔ held Z B w i b := by
  cases b with
  | var T cs => show (∃ b us, _ ∧ _ ∧ AV.reps Z B w (AV.lits q v cs) _ ∧ _) ↔ (∃ b us, _ ∧ _ ∧ AV.reps Z B w cs _ ∧ _); simp only [lits_reps hz cs]
  | rowo T sz es cs => show (∃ us vs, _ ∧ _ ∧ AV.reps Z B w (AV.lits q v cs) _ ∧ _ ∧ (AV.lits q v cs).length = _ ∧ _) ↔ (∃ us vs, _ ∧ _ ∧ AV.reps Z B w cs _ ∧ _ ∧ cs.length = _ ∧ _); simp only [lits_reps hz cs, lits_len]
  | _ => exact Iff.rfl
theorem Blk.lit_ids {q : Nat} {v : Value} (b : Blk) (i : Nat) (h : i ∈ b.ids) : i = q ∨ i ∈ (b.lit q v).ids := by
  cases b with
  | var T cs => exact lits_ids cs i h
  | rowo T sz es cs => exact lits_ids cs i h
  | _ => exact .inr h
theorem Blk.lit_sub {q : Nat} {v : Value} (b : Blk) (i : Nat) (h : i ∈ (b.lit q v).ids) : i ∈ b.ids := by
  cases b with
  | var T cs => exact lits_sub cs i h
  | rowo T sz es cs => exact lits_sub cs i h
  | _ => exact h
def envL (q : Nat) (v : Value) (E : List (Nat × AV)) : List (Nat × AV) := E.map fun p => (p.1, p.2.lit q v)
def blkL (q : Nat) (v : Value) (H : List (Nat × Option Blk)) : List (Nat × Option Blk) := H.map fun p => (p.1, p.2.map (Blk.lit q v))
theorem get_envL (q : Nat) (v : Value) : ∀ (E : List (Nat × AV)) (t : Nat), get (envL q v E) t = (get E t).lit q v
  | [], t => rfl
  | (k, x) :: E, t => by
    show get ((k, x.lit q v) :: envL q v E) t = _
    rw [get, get]
    cases Nat.beq k t with
    | true => rfl
    | false => exact get_envL q v E t
theorem getH_blkL (q : Nat) (v : Value) : ∀ (H : List (Nat × Option Blk)) (i : Nat), getH (blkL q v H) i = (getH H i).map (Blk.lit q v)
  | [], i => rfl
  | (k, x) :: H, i => by
    show getH ((k, x.map (Blk.lit q v)) :: blkL q v H) i = _
    rw [getH, getH]
    cases Nat.beq k i with
    | true => rfl
    | false => exact getH_blkL q v H i

theorem SimF.same {C : Cx} {D D' : Nat → Prop} {env env' : Nat → AV} {H H' : Nat → Option Blk} {Z : Nat → Value} {a : Act} {w : World} (h : SimF C D env H Z a w)
    (he : ∀ t u B, AV.rep Z B w (env t) u → AV.rep Z B w (env' t) u) (hid : ∀ t, ∀ i ∈ (env' t).ids, D' i) (hh : ∀ i b', H' i = some b' → ∃ b, H i = some b ∧ (∀ B, held Z B w i b → held Z B w i b') ∧ D' i ∧ ∀ j ∈ b'.ids, D' j) (hD : C.nl = 0) : SimF C D' env' H' Z a w := by
  have hB : ∀ k, k < w.heap.size → Own C H' Z k → Own C H Z k := by
    rintro k _ (h0 | ⟨i, b', hi, hx⟩)
    · exact .inl h0
    · obtain ⟨b, h1, _⟩ := hh i b' hi
      exact .inr ⟨i, b, h1, hx⟩
  refine ⟨h.size, h.defers, h.frame, h.m0, fun t => AV.rep_mono (Upto.refl _) hB _ (fun _ _ => rfl) _ (he t _ _ (h.slots t)), hid, fun i b' hi => ?_, fun i j b c hi hj hij => ?_, fun i b x hi hx => ?_, h.lm, fun i hi => by omega⟩
  · obtain ⟨b, h1, h2, h3, h4⟩ := hh i b' hi
    exact ⟨(h2 _ (h.holds i b h1).1).anti hB, h3, h4⟩
  · obtain ⟨b', h1, _⟩ := hh i b hi
    obtain ⟨c', h2, _⟩ := hh j c hj
    exact h.dist i j b' c' h1 h2 hij
  · obtain ⟨b', h1, _⟩ := hh i b hi
    exact h.fresh i b' x h1 hx
section
variable {C : Cx} {F F1 F2 : Fam} {a : Act} {w : World} {E : List (Nat × AV)} {H : List (Nat × Option Blk)} {n : Nat} {v : Value} {b : Blk}
/-- The numbers of the family are turned: π tells whence. -/
theorem SimF.ren {D D' : Nat → Prop} {env env' : Nat → AV} {G G' : Nat → Option Blk} {Z Z' : Nat → Value} (h : SimF C D env G Z a w) (hnl : C.nl = 0) (π : Nat → Nat)
    (hz : ∀ i b, G' i = some b → Z' i = Z (π i)) (hinj : ∀ i j b c, G' i = some b → G' j = some c → i ≠ j → π i ≠ π j)
    (he : ∀ t u B B', (∀ k, k < w.heap.size → B' k → B k) → AV.rep Z B w (env t) u → AV.rep Z' B' w (env' t) u) (hid : ∀ t, ∀ i ∈ (env' t).ids, D' i)
    (hh : ∀ i b', G' i = some b' → ∃ b, G (π i) = some b ∧ (∀ B B', (∀ k, k < w.heap.size → B' k → B k) → held Z B w (π i) b → held Z' B' w i b') ∧ D' i ∧ ∀ j ∈ b'.ids, D' j) : SimF C D' env' G' Z' a w := by
  have hB : ∀ k, k < w.heap.size → Own C G' Z' k → Own C G Z k := by
    rintro k _ (h0 | ⟨i, b', hi, hx⟩)
    · exact .inl h0
    · obtain ⟨b, h1, _⟩ := hh i b' hi
      exact .inr ⟨π i, b, h1, by rw [← hz i b' hi]; exact hx⟩
  refine ⟨h.size, h.defers, h.frame, h.m0, fun t => he t _ _ _ hB (h.slots t), hid, fun i b' hi => ?_, fun i j b c hi hj hij x hx hx2 => ?_, fun i b x hi hx => ?_, h.lm, fun i hi => by omega⟩
  · obtain ⟨b, h1, h2, h3, h4⟩ := hh i b' hi
    exact ⟨h2 _ _ hB (h.holds _ b h1).1, h3, h4⟩
  · obtain ⟨b', h1, _⟩ := hh i b hi
    obtain ⟨c', h2, _⟩ := hh j c hj
    rw [hz i b hi] at hx
    rw [hz j c hj] at hx2
    exact h.dist (π i) (π j) b' c' h1 h2 (hinj i j b c hi hj hij) x hx hx2
  · obtain ⟨b', h1, _⟩ := hh i b hi
    rw [hz i b hi] at hx
    rcases h.fresh (π i) b' x h1 hx with h2 | h2 | ⟨j, h2, h3⟩
    · omega
    · exact .inr (.inl h2)
    · have := h.lm; omega
/-- A slice of the family gets the next number. -/
theorem SimX.take (hl : C.ln = ⟨0, 0⟩) (h : SimX C ⟨envL n v E, blkL n v H, n⟩ (F1 ++ (v, b) :: F2) a w) : SimX C ⟨E, (n, some b) :: H, n + 1⟩ (F1 ++ F2) a w := by
  obtain ⟨Z, K, h⟩ := h
  have hs := h.sim
  have hnl : C.nl = 0 := by unfold Cx.nl; rw [hl]
  have hle : n ≤ K := h.le
  have hmid : (F1 ++ (v, b) :: F2)[F1.length]? = some (v, b) := by rw [List.getElem?_append_right (Nat.le_refl _), Nat.sub_self]; rfl
  obtain ⟨f1, f2⟩ := h.fam _ _ hmid
  simp only at f1 f2
  -- the numbers behind: n is the slice's, n + 1 .. the others'
  let up : Nat → Nat := fun j => if j < F1.length then j else j + 1
  have hup : ∀ j, (F1 ++ F2)[j]? = (F1 ++ (v, b) :: F2)[up j]? := by
    intro j
    show _ = (F1 ++ (v, b) :: F2)[if j < F1.length then j else j + 1]?
    split
    · rename_i hj; rw [List.getElem?_append_left hj, List.getElem?_append_left hj]
    · rename_i hj
      rw [List.getElem?_append_right (by omega), List.getElem?_append_right (by omega), show j + 1 - F1.length = (j - F1.length) + 1 by omega, List.getElem?_cons_succ]
  have upn : ∀ j, up j ≠ F1.length := fun j => by show (if j < F1.length then j else j + 1) ≠ _; split <;> omega
  have upi : ∀ i j, i ≠ j → up i ≠ up j := fun i j hij => by show (if i < F1.length then i else i + 1) ≠ (if j < F1.length then j else j + 1); split <;> split <;> omega
  let π : Nat → Nat := fun i => if i < n then i else if i = n then K + F1.length else K + up (i - (n + 1))
  let Z' : Nat → Value := fun i => Z (π i)
  have p1 : ∀ i, i < n → π i = i := fun i hi => if_pos hi
  have p2 : π n = K + F1.length := by show (if n < n then n else if n = n then _ else _) = _; rw [if_neg (by omega), if_pos rfl]
  have p3 : ∀ j, π (n + 1 + j) = K + up j := fun j => by show (if n + 1 + j < n then _ else if n + 1 + j = n then _ else _) = _; rw [if_neg (by omega), if_neg (by omega), Nat.add_sub_cancel_left]
  have hzn : Z' n = v := by show Z (π n) = v; rw [p2]; exact f1
  have hHn : ∀ i, n ≤ i → getH H i = none := fun i hi => by
    have := h.top i hi
    rw [show St.HF ⟨envL n v E, blkL n v H, n⟩ i = getH (blkL n v H) i from rfl, getH_blkL, Option.map_eq_none_iff] at this
    exact this
  have hg : ∀ i, St.HF ⟨E, (n, some b) :: H, n + 1⟩ i = if i = n then some b else getH H i := fun i => by
    show getH ((n, some b) :: H) i = _
    rw [getH]
    by_cases hi : i = n
    · subst hi; simp
    · have : Nat.beq n i = false := by cases hb : Nat.beq n i with
        | false => rfl
        | true => exact absurd (Nat.eq_of_beq_eq_true hb).symm hi
      rw [this, if_neg hi]; rfl
  have hold : ∀ i c, getH H i = some c → i < n ∧ famH K (getH (blkL n v H)) (F1 ++ (v, b) :: F2) i = some (c.lit n v) := fun i c hc => by
    have h1 : i < n := by
      rcases Nat.lt_or_ge i n with h' | h'
      · exact h'
      · rw [hHn i h'] at hc; cases hc
    exact ⟨h1, by rw [famH_lo (by omega), getH_blkL, hc]; rfl⟩
  have eid : ∀ t, ∀ i ∈ (get E t).ids, i < n + 1 := fun t i hi => by
    rcases lit_ids (q := n) (v := v) _ i hi with e | e
    · omega
    · have := h.eid t i (by show i ∈ (get (envL n v E) t).ids; rw [get_envL]; exact e)
      simp only at this; omega
  have hsplit : ∀ i c, famH (n + 1) (St.HF ⟨E, (n, some b) :: H, n + 1⟩) (F1 ++ F2) i = some c → (i < n ∧ getH H i = some c) ∨ (i = n ∧ c = b) ∨ ∃ j p, i = n + 1 + j ∧ (F1 ++ (v, b) :: F2)[up j]? = some p ∧ p.2 = c := by
    intro i c hi
    rcases famH_some hi with ⟨h1, h2⟩ | ⟨j, p, rfl, h2, h3⟩
    · rw [hg] at h2
      split at h2
      · rename_i e; injection h2 with h2; exact .inr (.inl ⟨e, h2.symm⟩)
      · exact .inl ⟨(hold i c h2).1, h2⟩
    · exact .inr (.inr ⟨j, p, rfl, by rw [← hup]; exact h2, h3⟩)
  refine ⟨Z', n + 1, Nat.le_refl _, fun i hi => ?_, eid, fun i c hc j hj => ?_, fun j p hj => ?_, ?_⟩
  · have hi : n + 1 ≤ i := hi
    rw [hg, if_neg (by omega)]; exact hHn i (by omega)
  · rw [hg] at hc
    split at hc
    · injection hc with hc; subst hc; rw [f2] at hj; cases hj
    · rcases Blk.lit_ids (q := n) (v := v) c j hj with e | e
      · show j < n + 1; omega
      · have := h.bid i (c.lit n v) (by show getH (blkL n v H) i = _; rw [getH_blkL, hc]; rfl) j e
        simp only at this; show j < n + 1; omega
  · rw [hup] at hj
    obtain ⟨g1, g2⟩ := h.fam _ _ hj
    exact ⟨by show Z (π (n + 1 + j)) = _; rw [p3]; exact g1, g2⟩
  · refine hs.ren hnl π (fun _ _ _ => rfl) (fun i j c d hi hj hij => ?_) (fun t u B B' hB hr => ?_) (fun t i hi => .inl (eid t i hi)) (fun i c hi => ?_)
    · rcases hsplit i c hi with ⟨h1, _⟩ | ⟨h1, _⟩ | ⟨p, _, h1, _⟩ <;> rcases hsplit j d hj with ⟨h2, _⟩ | ⟨h2, _⟩ | ⟨q, _, h2, _⟩
      · rw [p1 i h1, p1 j h2]; exact hij
      · subst h2; rw [p1 i h1, p2]; omega
      · subst h2; rw [p1 i h1, p3]; omega
      · subst h1; rw [p1 j h2, p2]; omega
      · omega
      · subst h1 h2; rw [p2, p3]; have := upn q; omega
      · subst h1; rw [p1 j h2, p3]; omega
      · subst h1 h2; rw [p2, p3]; have := upn p; omega
      · subst h1 h2; rw [p3, p3]; have := upi p q (by omega); omega
    · have hr : AV.rep Z B w (get (envL n v E) t) u := hr
      rw [get_envL] at hr
      have h2 : AV.rep Z' B' w ((get E t).lit n v) u := AV.rep_mono (Upto.refl _) hB _ (fun i hi => by
        have := h.eid t i (by show i ∈ (get (envL n v E) t).ids; rw [get_envL]; exact hi)
        show Z (π i) = Z i
        rw [p1 i this]) _ hr
      exact (lit_rep hzn _ u).1 h2
    · rcases hsplit i c hi with ⟨h1, h2⟩ | ⟨h1, h2⟩ | ⟨j, p, h1, h2, h3⟩
      · obtain ⟨_, g1⟩ := hold i c h2
        refine ⟨c.lit n v, by rw [p1 i h1]; exact g1, fun B B' hB hh => ?_, .inl (show i < n + 1 by omega), fun j hj => .inl ?_⟩
        · rw [p1 i h1] at hh
          refine (lit_held hzn i c).1 (hh.keep (Upto.refl _) hB (by show Z (π i) = Z i; rw [p1 i h1]) (fun j hj => ?_) (fun _ _ => rfl))
          have := h.bid i (c.lit n v) (by show getH (blkL n v H) i = _; rw [getH_blkL, h2]; rfl) j hj
          show Z (π j) = Z j
          rw [p1 j this]
        · rcases Blk.lit_ids (q := n) (v := v) c j hj with e | e
          · show j < n + 1; omega
          · have := h.bid i (c.lit n v) (by show getH (blkL n v H) i = _; rw [getH_blkL, h2]; rfl) j e
            simp only at this; show j < n + 1; omega
      · subst h1 h2
        refine ⟨c, by rw [p2]; exact h.fm hmid, fun B B' hB hh => held_move hh rfl f2 hB, .inl (show i < i + 1 by omega), fun j hj => by rw [f2] at hj; cases hj⟩
      · subst h1 h3
        obtain ⟨g1, g2⟩ := h.fam _ _ h2
        refine ⟨p.2, by rw [p3]; exact h.fm h2, fun B B' hB hh => held_move hh rfl g2 hB, .inr ⟨by omega, ?_⟩, fun j hj => by rw [g2] at hj; cases hj⟩
        rw [← hup] at h2
        have := len_of h2; omega
/-- An own slice with a number becomes one of the family. -/
theorem SimX.put (hl : C.ln = ⟨0, 0⟩) {q : Nat} (hq : getH H q = some b) (hb : b.ids = []) (h : SimX C ⟨E, H, n⟩ (F1 ++ F2) a w) : ∃ v, SimX C ⟨envL q v E, (q, none) :: blkL q v H, n⟩ (F1 ++ (v, b) :: F2) a w := by
  obtain ⟨Z, K, h⟩ := h
  have hs := h.sim
  have hnl : C.nl = 0 := by unfold Cx.nl; rw [hl]
  have hle : n ≤ K := h.le
  have hqn : q < n := (h.hf (i := q) (b := b) hq).1
  refine ⟨Z q, ?_⟩
  generalize hv : Z q = v
  have hmid : (F1 ++ (v, b) :: F2)[F1.length]? = some (v, b) := by rw [List.getElem?_append_right (Nat.le_refl _), Nat.sub_self]; rfl
  let dn : Nat → Nat := fun j => if j < F1.length then j else j - 1
  have hdn : ∀ j, j ≠ F1.length → (F1 ++ (v, b) :: F2)[j]? = (F1 ++ F2)[dn j]? := by
    intro j hj
    show _ = (F1 ++ F2)[if j < F1.length then j else j - 1]?
    split
    · rename_i hj; rw [List.getElem?_append_left hj, List.getElem?_append_left hj]
    · rename_i hj'
      rw [List.getElem?_append_right (by omega), List.getElem?_append_right (by omega), show j - F1.length = (j - 1 - F1.length) + 1 by omega, List.getElem?_cons_succ]
  have dni : ∀ i j, i ≠ j → i ≠ F1.length → j ≠ F1.length → dn i ≠ dn j := fun i j hij hi hj => by show (if i < F1.length then i else i - 1) ≠ (if j < F1.length then j else j - 1); split <;> split <;> omega
  let π : Nat → Nat := fun i => if i < n then i else if i = n + F1.length then q else K + dn (i - n)
  let Z' : Nat → Value := fun i => Z (π i)
  have p1 : ∀ i, i < n → π i = i := fun i hi => if_pos hi
  have p2 : π (n + F1.length) = q := by show (if n + F1.length < n then _ else if n + F1.length = n + F1.length then _ else _) = _; rw [if_neg (by omega), if_pos rfl]
  have p3 : ∀ j, j ≠ F1.length → π (n + j) = K + dn j := fun j hj => by show (if n + j < n then _ else if n + j = n + F1.length then _ else _) = _; rw [if_neg (by omega), if_neg (by omega), Nat.add_sub_cancel_left]
  have hzq : Z' q = v := by show Z (π q) = v; rw [p1 q hqn]; exact hv
  have hg : ∀ i, St.HF ⟨envL q v E, (q, none) :: blkL q v H, n⟩ i = if i = q then none else (getH H i).map (Blk.lit q v) := fun i => by
    show getH ((q, none) :: blkL q v H) i = _
    rw [getH]
    by_cases hi : i = q
    · subst hi; simp
    · have : Nat.beq q i = false := by cases hb : Nat.beq q i with
        | false => rfl
        | true => exact absurd (Nat.eq_of_beq_eq_true hb).symm hi
      rw [this, if_neg hi, cond_false, getH_blkL]
  have hlo : ∀ i c, getH H i = some c → i < n := fun i c hc => (h.hf (i := i) (b := c) hc).1
  have eid : ∀ t, ∀ i ∈ (get (envL q v E) t).ids, i < n := fun t i hi => by
    rw [get_envL] at hi
    exact h.eid t i (lit_sub _ i hi)
  have hsplit : ∀ i c, famH n (St.HF ⟨envL q v E, (q, none) :: blkL q v H, n⟩) (F1 ++ (v, b) :: F2) i = some c → (i < n ∧ i ≠ q ∧ ∃ c', getH H i = some c' ∧ c = c'.lit q v) ∨ (i = n + F1.length ∧ c = b) ∨ ∃ j p, i = n + j ∧ j ≠ F1.length ∧ (F1 ++ F2)[dn j]? = some p ∧ p.2 = c := by
    intro i c hi
    rcases famH_some hi with ⟨h1, h2⟩ | ⟨j, p, rfl, h2, h3⟩
    · rw [hg] at h2
      split at h2
      · cases h2
      · rename_i e
        rw [Option.map_eq_some_iff] at h2
        obtain ⟨c', h2, h3⟩ := h2
        exact .inl ⟨h1, e, c', h2, h3.symm⟩
    · by_cases hj : j = F1.length
      · subst hj
        rw [hmid] at h2
        injection h2 with h2
        subst h2
        exact .inr (.inl ⟨rfl, h3.symm⟩)
      · rw [hdn j hj] at h2
        exact .inr (.inr ⟨j, p, rfl, hj, h2, h3⟩)
  have bid : ∀ i c, getH H i = some c → ∀ j ∈ (c.lit q v).ids, j < n := fun i c hc j hj => h.bid i c hc j (Blk.lit_sub c j hj)
  refine ⟨Z', n, Nat.le_refl _, fun i hi => ?_, eid, fun i c hc j hj => ?_, fun j p hj => ?_, ?_⟩
  · have hi : n ≤ i := hi
    rw [hg]
    split
    · rfl
    · rw [show getH H i = none from h.top i hi]; rfl
  · rw [hg] at hc
    split at hc
    · cases hc
    · rw [Option.map_eq_some_iff] at hc
      obtain ⟨c', h2, rfl⟩ := hc
      exact bid i c' h2 j hj
  · by_cases hjl : j = F1.length
    · subst hjl
      rw [hmid] at hj
      injection hj with hj
      subst hj
      exact ⟨by show Z (π (n + F1.length)) = v; rw [p2]; exact hv, hb⟩
    · rw [hdn j hjl] at hj
      obtain ⟨g1, g2⟩ := h.fam _ _ hj
      exact ⟨by show Z (π (n + j)) = _; rw [p3 j hjl]; exact g1, g2⟩
  · refine hs.ren hnl π (fun _ _ _ => rfl) (fun i j c d hi hj hij => ?_) (fun t u B B' hB hr => ?_) (fun t i hi => .inl (eid t i hi)) (fun i c hi => ?_)
    · rcases hsplit i c hi with ⟨h1, hiq, _⟩ | ⟨h1, _⟩ | ⟨p, _, h1, hp, _⟩ <;> rcases hsplit j d hj with ⟨h2, hjq, _⟩ | ⟨h2, _⟩ | ⟨r, _, h2, hr, _⟩
      · rw [p1 i h1, p1 j h2]; exact hij
      · subst h2; rw [p1 i h1, p2]; exact hiq
      · subst h2; rw [p1 i h1, p3 r hr]; omega
      · subst h1; rw [p1 j h2, p2]; exact fun e => hjq e.symm
      · omega
      · subst h1 h2; rw [p2, p3 r hr]; omega
      · subst h1; rw [p1 j h2, p3 p hp]; omega
      · subst h1 h2; rw [p2, p3 p hp]; omega
      · subst h1 h2; rw [p3 p hp, p3 r hr]; have := dni p r (by omega) hp hr; omega
    · have hr : AV.rep Z B w (get E t) u := hr
      show AV.rep Z' B' w (get (envL q v E) t) u
      rw [get_envL]
      refine (lit_rep hzq _ u).2 (AV.rep_mono (Upto.refl _) hB _ (fun i hi => ?_) _ hr)
      show Z (π i) = Z i
      rw [p1 i (h.eid t i hi)]
    · rcases hsplit i c hi with ⟨h1, hiq, c', h2, rfl⟩ | ⟨h1, h2⟩ | ⟨j, p, h1, hjl, h2, h3⟩
      · refine ⟨c', by rw [p1 i h1, famH_lo (by omega)]; exact h2, fun B B' hB hh => ?_, .inl h1, fun j hj => .inl (bid i c' h2 j hj)⟩
        rw [p1 i h1] at hh
        refine (lit_held hzq i c').2 (hh.keep (Upto.refl _) hB (by show Z (π i) = Z i; rw [p1 i h1]) (fun j hj => ?_) (fun _ _ => rfl))
        show Z (π j) = Z j
        rw [p1 j (h.bid i c' h2 j hj)]
      · subst h1 h2
        refine ⟨c, by rw [p2]; exact (h.hf (i := q) (b := c) hq).2, fun B B' hB hh => held_move hh rfl hb hB, .inr ⟨by omega, by simp⟩, fun j hj => by rw [hb] at hj; cases hj⟩
      · subst h1 h3
        obtain ⟨g1, g2⟩ := h.fam _ _ h2
        refine ⟨p.2, by rw [p3 j hjl]; exact h.fm h2, fun B B' hB hh => held_move hh rfl g2 hB, .inr ⟨by omega, ?_⟩, fun j hj => by rw [g2] at hj; cases hj⟩
        rw [← hdn j hjl] at h2
        have := len_of h2; omega
end

/-! ## The last element by itself -/
theorem held_rowo_of {Z : Nat → Value} {B : Nat → Prop} {w : World} {i T sz : Nat} {es : List (List RV)} {e : List RV} (h : held Z B w i (.row T sz (es ++ [e]))) : held Z B w i (.rowo T sz es (e.map AV.r)) := by
  obtain ⟨us, h1, h2, h3⟩ := h
  have hes : ∀ x ∈ es, x.length = sz := fun x hx => h3 x (List.mem_append_left _ hx)
  have he : e.length = sz := h3 e (by simp)
  rw [List.flatten_append, show [e].flatten = e by simp] at h2
  have g1 := h2.take es.flatten.length
  have g2 := h2.drop es.flatten.length
  rw [List.take_left] at g1
  rw [List.drop_left] at g2
  refine ⟨us.take es.flatten.length, us.drop es.flatten.length, by rw [List.take_append_drop]; simpa using h1, g1, rvs_reps g2, hes, by rw [List.length_map]; exact he, List.all_eq_true.2 fun u hu => h2.one u (List.mem_of_mem_drop hu)⟩
theorem idss_map_r (e : List RV) : AV.idss (e.map AV.r) = [] := by
  induction e with
  | nil => rfl
  | cons c e ih => rw [List.map_cons, AV.idss, ih]; rfl
theorem SimX.rowo {C : Cx} {S : St} {F : Fam} {a : Act} {w : World} (hl : C.ln = ⟨0, 0⟩) (h : SimX C S F a w) {i T sz : Nat} {es : List (List RV)} {e : List RV} (hi : S.HF i = some (.row T sz (es ++ [e]))) : SimX C ⟨S.env, (i, some (.rowo T sz es (e.map AV.r))) :: S.H, S.nx⟩ F a w := by
  obtain ⟨Z, K, h⟩ := h
  have hnl : C.nl = 0 := by unfold Cx.nl; rw [hl]
  have hin := (h.hf hi).1
  have hle : S.nx ≤ K := h.le
  have hg : ∀ j, St.HF ⟨S.env, (i, some (.rowo T sz es (e.map AV.r))) :: S.H, S.nx⟩ j = if j = i then some (.rowo T sz es (e.map AV.r)) else S.HF j := fun j => by
    show getH ((i, some (.rowo T sz es (e.map AV.r))) :: S.H) j = _
    rw [getH]
    by_cases hij : j = i
    · subst hij; simp
    · have : Nat.beq i j = false := by cases hb : Nat.beq i j with
        | false => rfl
        | true => exact absurd (Nat.eq_of_beq_eq_true hb).symm hij
      rw [this, if_neg hij]; rfl
  have bid : ∀ j b, St.HF ⟨S.env, (i, some (.rowo T sz es (e.map AV.r))) :: S.H, S.nx⟩ j = some b → ∀ q ∈ b.ids, q < S.nx := fun j b hb q hq => by
    rw [hg] at hb
    split at hb
    · injection hb with hb; subst hb
      rw [Blk.ids, idss_map_r] at hq; cases hq
    · exact h.bid j b hb q hq
  refine ⟨Z, K, h.le, fun j hj => ?_, h.eid, bid, h.fam, h.sim.same (fun t u B hr => hr) (fun t q hq => .inl (h.eid t q hq)) (fun j b hb => ?_) hnl⟩
  · have hj : S.nx ≤ j := hj
    rw [hg, if_neg (by omega)]; exact h.top j hj
  · rcases famH_some hb with ⟨h1, h2⟩ | ⟨q, p, rfl, h2, rfl⟩
    · have hb' := bid j b h2
      rw [hg] at h2
      split at h2
      · rename_i e1
        injection h2 with h2
        subst e1 h2
        exact ⟨_, by rw [famH_lo h1]; exact hi, fun B hh => held_rowo_of hh, .inl hin, fun q hq => .inl (hb' q hq)⟩
      · exact ⟨b, by rw [famH_lo h1]; exact h2, fun B hh => hh, .inl (h.hf h2).1, fun q hq => .inl (hb' q hq)⟩
    · exact ⟨p.2, h.fm h2, fun B hh => hh, .inr ⟨by omega, by have := len_of h2; omega⟩, fun x hx => by rw [(h.fam q p h2).2] at hx; cases hx⟩

/-! ## The family is handed over to what is only read -/
inductive FzL (F : Fam) : List RV → List RV → Prop
  | nil : FzL F [] []
  | same (c cs ds) : FzL F cs ds → FzL F (c :: cs) (c :: ds)
  | sl (v T sz es cs ds) : (v, Blk.row T sz es) ∈ F → FzL F cs ds → FzL F (.v v :: cs) (.sl sz es :: ds)
theorem FzL.refl (F : Fam) : ∀ cs : List RV, FzL F cs cs
  | [] => .nil
  | c :: cs => .same _ _ _ (FzL.refl F cs)
theorem FzL.append {F : Fam} {as bs cs ds : List RV} (h : FzL F as bs) (k : FzL F cs ds) : FzL F (as ++ cs) (bs ++ ds) := by
  induction h with
  | nil => exact k
  | same c _ _ _ ih => exact .same _ _ _ ih
  | sl v T sz es _ _ hm _ ih => exact .sl _ _ _ _ _ _ hm ih
theorem FzL.mono {F F' : Fam} (hF : ∀ p ∈ F, p ∈ F') {as bs : List RV} (h : FzL F as bs) : FzL F' as bs := by
  induction h with
  | nil => exact .nil
  | same c _ _ _ ih => exact .same _ _ _ ih
  | sl v T sz es _ _ hm _ ih => exact .sl _ _ _ _ _ _ (hF _ hm) ih
theorem SimX.dissolve {C : Cx} {S : St} {F : Fam} {a : Act} {w : World} (hl : C.ln = ⟨0, 0⟩) (h : SimX C S F a w) {i T sz : Nat} {es es' : List (List RV)} (hi : S.HF i = some (.row T sz es)) (hlen : es'.length = es.length) (hsz : ∀ e ∈ es', e.length = sz) (hf : FzL F es.flatten es'.flatten) :
    Sim C ⟨S.env, (i, some (.row T sz es')) :: S.H, S.nx⟩ a w := by
  obtain ⟨Z, K, h⟩ := h
  have hs := h.sim
  have hnl : C.nl = 0 := by unfold Cx.nl; rw [hl]
  have hm0 : C.ln.m = 0 := by rw [hl]
  have hg : ∀ j, St.HF ⟨S.env, (i, some (.row T sz es')) :: S.H, S.nx⟩ j = if j = i then some (.row T sz es') else S.HF j := fun j => by
    show getH ((i, some (.row T sz es')) :: S.H) j = _
    rw [getH]
    by_cases hij : j = i
    · subst hij; simp
    · have : Nat.beq i j = false := by cases hb : Nat.beq i j with
        | false => rfl
        | true => exact absurd (Nat.eq_of_beq_eq_true hb).symm hij
      rw [this, if_neg hij]; rfl
  have hdom : ∀ j b, St.HF ⟨S.env, (i, some (.row T sz es')) :: S.H, S.nx⟩ j = some b → ∃ c, S.HF j = some c := fun j b hb => by
    rw [hg] at hb
    split at hb
    · rename_i e; subst e; exact ⟨_, hi⟩
    · exact ⟨b, hb⟩
  generalize hH : St.HF ⟨S.env, (i, some (.row T sz es')) :: S.H, S.nx⟩ = H2 at *
  have hB : ∀ k, k < w.heap.size → Own C H2 Z k → Own C (famH K S.HF F) Z k := by
    rintro k _ (h0 | ⟨j, b, hj, hx⟩)
    · exact .inl h0
    · obtain ⟨c, hc⟩ := hdom j b hj
      exact .inr ⟨j, c, (h.hf hc).2, hx⟩
  have hnot : ∀ j p x, F[j]? = some p → blk (Z (K + j)) = some x → ¬ Own C H2 Z x := by
    rintro j p x hj hx (h0 | ⟨q, b, hq, hqx⟩)
    · have := hs.m0 x h0
      rcases hs.fresh _ _ x (h.fm hj) hx with h3 | h3 | ⟨q, h3, _⟩
      · omega
      · omega
      · omega
    · obtain ⟨c, hc⟩ := hdom q b hq
      exact hs.dist (K + j) q p.2 c (h.fm hj) (h.hf hc).2 (by have := h.le; have := (h.hf hc).1; omega) x hx hqx
  have hfz : ∀ (cs ds : List RV) (us : List Value), FzL F cs ds → RVs (Own C (famH K S.HF F) Z) w cs us → RVs (Own C H2 Z) w ds us := by
    intro cs ds us hf
    induction hf generalizing us with
    | nil => intro hr; cases hr; exact .nil
    | same c cs ds _ ih => intro hr; cases hr with | cons g1 g2 g3 => exact .cons g1 (RV.rep_mono (Upto.refl _) hB _ _ g2) (ih _ g3)
    | sl v T0 sz0 rows cs ds hm _ ih =>
      intro hr
      cases hr with
      | cons g1 g2 g3 =>
        refine .cons g1 ?_ (ih _ g3)
        rw [RV.rep] at g2
        subst g2
        obtain ⟨j, hj⟩ := List.mem_iff_getElem?.1 hm
        obtain ⟨f1, f2⟩ := h.fam j _ hj
        obtain ⟨us0, k1, k2, k3⟩ := (hs.holds _ _ (h.fm hj)).1
        simp only at f1
        rw [← f1]
        exact rows_of_own (n := 0) k1 k2 k3 hB (fun x hx => hnot j _ x hj hx)
  subst hH
  refine ⟨Z, hs.size, hs.defers, hs.frame, hs.m0, fun t => AV.rep_mono (Upto.refl _) hB _ (fun _ _ => rfl) _ (hs.slots t), h.eid, fun j b hj => ?_, fun p q b c hp hq hpq => ?_, fun j b x hj hx => ?_, hs.lm, fun j hj => by omega⟩
  · have hj' := hj
    rw [hg] at hj
    split at hj
    · rename_i e
      injection hj with hj
      subst e hj
      obtain ⟨us, k1, k2, k3⟩ := (hs.holds _ _ (h.hf hi).2).1
      refine ⟨⟨us, by rw [hlen]; exact k1, by exact hfz _ _ us hf k2, hsz⟩, (h.hf hi).1, fun q hq => by simp [Blk.ids] at hq⟩
    · exact ⟨by exact ((hs.holds _ _ (h.hf hj).2).1).anti hB, (h.hf hj).1, fun q hq => h.bid j b hj q hq⟩
  · obtain ⟨b', h1⟩ := hdom p b hp
    obtain ⟨c', h2⟩ := hdom q c hq
    exact hs.dist p q b' c' (h.hf h1).2 (h.hf h2).2 hpq
  · obtain ⟨b', h1⟩ := hdom j b hj
    exact hs.fresh j b' x (h.hf h1).2 hx

/-! ## Walks -/
def awpX (P : Program) (N : Nat) (c : Code) (Q : Exit → St → Fam → Prop) (S : St) (F : Fam) : Prop :=
  ∀ (C : Cx), C.P = P → C.ln = ⟨0, 0⟩ → C.N = N → ∀ a w, SimX C S F a w → c.wp P (fun e a' w' => ∃ S' F', Q e S' F' ∧ SimX C S' F' a' w') a w
def thenX (next : St → Fam → Prop) (Q : Exit → St → Fam → Prop) : Exit → St → Fam → Prop
  | .normal, S, F => next S F
  | e, S, F => Q e S F
def blockX (id : Nat) (Q : Exit → St → Fam → Prop) : Exit → St → Fam → Prop
  | .exit id', S, F => bif Nat.beq id' id then Q .normal S F else Q (.exit id') S F
  | e, S, F => Q e S F
def fullB (S : St) : Bool := (List.range S.nx).all fun i => (getH S.H i).isSome
section
variable {P : Program} {N : Nat} {Q : Exit → St → Fam → Prop} {S : St} {F : Fam}
theorem awpX_of {c : Code} (hf : fullB S = true) (h : awp P ⟨S.nx, S.nx⟩ N c (fun e S' => Q e S' F) S) : awpX P N c Q S F := by
  intro C h1 h2 h3 a w hs
  obtain ⟨C1, e1, e2, e3, g1, g2⟩ := hs.frame h2 fun i hi => by
    have := List.all_eq_true.1 hf i (List.mem_range.2 hi)
    exact Option.isSome_iff_exists.1 this
  exact Code.wp_mono (fun e a' w' ⟨S', q1, q2⟩ => ⟨S', F, q1, g2 S' a' w' q2⟩) (h C1 (e1.trans h1) e3 (e2.trans h3) a w g1)
theorem awp_ofX {c : Code} {Q : Exit → St → Prop} (h : awpX P N c (fun e S' F' => F' = [] ∧ Q e S') S []) : awp P ⟨0, 0⟩ N c Q S := by
  intro C h1 h2 h3 a w hs
  refine Code.wp_mono (fun e a' w' ⟨S', F', ⟨q0, q1⟩, q2⟩ => ?_) (h C h1 h2 h3 a w (SimK.of_sim hs))
  subst q0
  exact ⟨S', q1, q2.sim⟩
theorem awpX_step {c : Code} {α : Type} (S' : α → St) (F' : α → Fam) (hS : ∀ C a w, C.ln = ⟨0, 0⟩ → SimX C S F a w → ∃ x, SimX C (S' x) (F' x) a w) (h : ∀ x, awpX P N c Q (S' x) (F' x)) : awpX P N c Q S F := by
  intro C h1 h2 h3 a w hs
  obtain ⟨x, hx⟩ := hS C a w h2 hs
  exact h x C h1 h2 h3 a w hx
theorem awpX_le {c : Code} (S' : St) (F' : Fam) (hS : ∀ C a w, C.ln = ⟨0, 0⟩ → SimX C S F a w → SimX C S' F' a w) (h : awpX P N c Q S' F') : awpX P N c Q S F := fun C h1 h2 h3 a w hs => h C h1 h2 h3 a w (hS C a w h2 hs)
/-- The family is given up. -/
theorem awpX_end {c : Code} {S' : St} (hS : ∀ C a w, C.ln = ⟨0, 0⟩ → SimX C S F a w → Sim C S' a w) (h : awp P ⟨0, 0⟩ N c (fun e S'' => Q e S'' []) S') : awpX P N c Q S F :=
  fun C h1 h2 h3 a w hs => Code.wp_mono (fun e a' w' ⟨S'', q1, q2⟩ => ⟨S'', [], q1, SimK.of_sim q2⟩) (h C h1 h2 h3 a w (hS C a w h2 hs))
theorem awpX_mono {c : Code} {Q' : Exit → St → Fam → Prop} (h : awpX P N c Q S F) (hq : ∀ e S F, Q e S F → Q' e S F) : awpX P N c Q' S F :=
  fun C h1 h2 h3 a w hs => Code.wp_mono (fun e a' w' ⟨S', F', h4, h5⟩ => ⟨S', F', hq e S' F' h4, h5⟩) (h C h1 h2 h3 a w hs)
theorem awpX_seq {x y : Code} (h : awpX P N x (thenX (awpX P N y Q) Q) S F) : awpX P N (.seq x y) Q S F := by
  intro C h1 h2 h3 a w hs
  refine wp_seq (Code.wp_mono (fun e a' w' ⟨S', F', h4, h5⟩ => ?_) (h C h1 h2 h3 a w hs))
  cases e with
  | normal => exact h4 C h1 h2 h3 a' w' h5
  | exit id => exact ⟨S', F', h4, h5⟩
  | goto l => exact ⟨S', F', h4, h5⟩
  | ret => exact ⟨S', F', h4, h5⟩
  | panic ch => exact ⟨S', F', h4, h5⟩
  | outgrown => exact ⟨S', F', h4, h5⟩
theorem awpX_skip (h : Q .normal S F) : awpX P N .skip Q S F := fun C h1 h2 h3 a w hs => wp_skip ⟨S, F, h, hs⟩
theorem awpX_exit {id : Nat} (h : Q (.exit id) S F) : awpX P N (.exit id) Q S F := fun C h1 h2 h3 a w hs => wp_exit ⟨S, F, h, hs⟩
theorem awpX_block {id : Nat} {c : Code} (h : awpX P N c (blockX id Q) S F) : awpX P N (.block id c) Q S F := by
  intro C h1 h2 h3 a w hs
  refine wp_block (Code.wp_mono (fun e a' w' ⟨S', F', h4, h5⟩ => ?_) (h C h1 h2 h3 a w hs))
  cases e with
  | normal => exact ⟨S', F', h4, h5⟩
  | exit id' =>
    simp only [Exit.inBlock]
    simp only [blockX] at h4
    by_cases hid : id' = id
    · subst hid
      rw [if_pos rfl]
      rw [show Nat.beq id' id' = true by simp] at h4
      exact ⟨S', F', h4, h5⟩
    · rw [if_neg hid]
      have : Nat.beq id' id = false := by cases hb : Nat.beq id' id with
        | false => rfl
        | true => exact absurd (Nat.eq_of_beq_eq_true hb) hid
      rw [this] at h4
      exact ⟨S', F', h4, h5⟩
  | goto l => exact ⟨S', F', h4, h5⟩
  | ret => exact ⟨S', F', h4, h5⟩
  | panic ch => exact ⟨S', F', h4, h5⟩
  | outgrown => exact ⟨S', F', h4, h5⟩
theorem awpX_cond {c : Operand} {x y : Code} {b : Bool} (hc : evA S.envF c = .r (.v (.bool b))) (ht : b = true → awpX P N x Q S F) (hf : b = false → awpX P N y Q S F) : awpX P N (.cond c x y) Q S F := by
  intro C h1 h2 h3 a w hs
  have hs0 := hs
  obtain ⟨Z, K, hS⟩ := hs
  have he := hS.sim.ev c
  rw [hc, AV.rep, RV.rep] at he
  exact wp_cond_split he (fun h => ht h C h1 h2 h3 a w hs0) (fun h => hf h C h1 h2 h3 a w hs0)
/-- A loop. -/
theorem awpX_loop {c : Code} {α : Type} (T : α → St) (G : α → Fam) (I : α → Prop) (μ : α → Nat) (x0 : α) (h0 : I x0) (hL : ∀ C a w, C.ln = ⟨0, 0⟩ → SimX C S F a w → SimX C (T x0) (G x0) a w)
    (round : ∀ x, I x → awpX P N c (thenX (fun S' F' => ∀ C a w, C.ln = ⟨0, 0⟩ → SimX C S' F' a w → ∃ y, I y ∧ μ y < μ x ∧ SimX C (T y) (G y) a w) Q) (T x) (G x)) : awpX P N (.loop c) Q S F := by
  intro C h1 h2 h3 a w hs b k cs
  have key : ∀ n a w, (∃ x, I x ∧ SimX C (T x) (G x) a w ∧ μ x = n) → ∃ e a' w', (∃ S' F', Q e S' F' ∧ SimX C S' F' a' w') ∧ Arrives P (lone (b.at a (.code c :: .inLoop c :: k)) cs w) b k cs e a' w' := by
    intro n
    induction n using Nat.strongRecOn with
    | _ n ih =>
      rintro a w ⟨x, hI, hS, rfl⟩
      obtain ⟨e, a1, w1, ⟨S1, F1, hq, hS1⟩, harr⟩ := round x hI C h1 h2 h3 a w hS b (.inLoop c :: k) cs
      cases e with
      | normal =>
        obtain ⟨y, hIy, hlt, hSy⟩ := hq C a1 w1 h2 hS1
        obtain ⟨e2, a2, w2, hq2, harr2⟩ := ih (μ y) hlt a1 w1 ⟨y, hIy, hSy, rfl⟩
        exact ⟨e2, a2, w2, hq2, .of_steps (Steps.trans harr (.one step_inLoop)) harr2⟩
      | exit id => exact ⟨_, a1, w1, ⟨S1, F1, hq, hS1⟩, .pass (x := .inLoop c) rfl (fun _ _ => .inl (by simp)) harr⟩
      | goto l => exact ⟨_, a1, w1, ⟨S1, F1, hq, hS1⟩, .pass (x := .inLoop c) rfl (fun _ _ => .inl (by simp)) harr⟩
      | ret => exact ⟨_, a1, w1, ⟨S1, F1, hq, hS1⟩, .pass (x := .inLoop c) rfl (fun _ _ => .inl (by simp)) harr⟩
      | panic ch => exact ⟨_, a1, w1, ⟨S1, F1, hq, hS1⟩, .pass (x := .inLoop c) rfl (fun _ _ => .inl (by simp)) harr⟩
      | outgrown => exact ⟨_, a1, w1, ⟨S1, F1, hq, hS1⟩, .pass (x := .inLoop c) rfl (fun _ _ => .inl (by simp)) harr⟩
  obtain ⟨e, a', w', hq, harr⟩ := key _ a w ⟨x0, h0, hL C a w h2 hs, rfl⟩
  exact ⟨e, a', w', hq, .of_steps (.one step_loop) harr⟩
end
end Go.Ab
