/- Texts of the second layer in one: Ab27. -/
import Derived.Test.YtibedaeefnjjlaaGreatG5
set_option linter.unusedVariables false
set_option linter.unusedSimpArgs false
namespace Go.Ab
open Go.RowKit
theorem awp_olow (t : Nat) {P : Program} {L : Ln} {N : Nat} {c : Code} {Q : Exit → St → Prop} {E : List (Nat × AV)} {H : List (Nat × Option Blk)} {n i m T sz : Nat} {es : List (List RV)} (ht : get E t = .ol i m ∨ (get E t = .ow i ∧ m = es.length)) (hi : getH H i = some (.row T sz es)) (hm : m ≤ es.length) (hL : Nat.ble L.n n = true) (hloc : (Nat.blt i L.m || Nat.ble L.n i) = true)
  (h : awp P L N c Q ⟨(t, .ow n) :: E, (n, some (.row T sz (es.take m))) :: (i, none) :: H, n + 1⟩) : awp P L N c Q ⟨E, H, n⟩ := by
 intro C h1 h2 h3 a w ⟨Z, S⟩
 have hD : ∀ i, (fun i => i < (⟨E, H, n⟩ : St).nx) i → i ≠ n := fun i hi e => by subst e; exact absurd hi (Nat.lt_irrefl _)
 have hne : ∀ i b, getH H i = some b → i ≠ n := fun i b hi => hD i (S.holds i b hi).2.1
 have hin := hne i _ hi
 obtain ⟨v, hv⟩ : ∃ v, v = a.tmps.getD t undef := ⟨_, rfl⟩
 have hheld := (S.holds i _ hi).1
 -- the slot's value: its block is that of i; and it is a row
 have hval : (v = Z i ∧ m = es.length) ∨ (∃ g m' cap, Z i = .slice (some ⟨g, 0, none⟩) m' cap ∧ v = .slice (some ⟨g, 0, none⟩) m cap) := by
  have := S.slots t
  rw [← hv] at this
  rcases ht with ht | ⟨ht, hml⟩
  ·rw [show St.envF ⟨E, H, n⟩ t = get E t from rfl, ht, AV.rep] at this
   exact .inr this
  ·rw [show St.envF ⟨E, H, n⟩ t = get E t from rfl, ht, AV.rep] at this
   exact .inl ⟨this, hml⟩
 have hblk : ∀ x, blk v = some x → blk (Z i) = some x := by
  intro x hx
  rcases hval with ⟨e, _⟩ | ⟨g, m', cap, e1, e2⟩
  ·rw [← e]; exact hx
  ·rw [e1]; rw [e2] at hx; exact hx
 let Z' : Nat → Value := fun j => if j = n then v else Z j
 have hz : ∀ j, j ≠ n → Z' j = Z j := fun j hj => if_neg hj
 have hzn : Z' n = v := if_pos rfl
 have hH : ∀ j, St.HF ⟨(t, .ow n) :: E, (n, some (.row T sz (es.take m))) :: (i, none) :: H, n + 1⟩ j = if n = j then some (.row T sz (es.take m)) else if i = j then none else getH H j := fun j => by
  show getH _ j = _
  rw [getH_cons, getH_cons]
 have hB : ∀ x, x < w.heap.size → Own C (St.HF ⟨(t, .ow n) :: E, (n, some (.row T sz (es.take m))) :: (i, none) :: H, n + 1⟩) Z' x → Own C (getH H) Z x := by
  rintro x _ (h0 | ⟨j, b, hj, hb⟩)
  ·exact .inl h0
  ·rw [hH] at hj
   split at hj
   ·rename_i e; subst e; rw [hzn] at hb; exact .inr ⟨i, _, hi, hblk x hb⟩
   ·split at hj
    ·cases hj
    ·rename_i e e2; rw [hz j (fun h => e h.symm)] at hb; exact .inr ⟨j, b, hj, hb⟩
 have hnew : held Z' (Own C (St.HF ⟨(t, .ow n) :: E, (n, some (.row T sz (es.take m))) :: (i, none) :: H, n + 1⟩) Z') w n (.row T sz (es.take m)) := by
  obtain ⟨us, ⟨o1, o2⟩, k2, k3⟩ := hheld
  have hfl := flatten_drop_take sz es k3 m
  refine ⟨us.take (m * sz), ?_, ?_, fun e he => k3 e (List.mem_of_mem_take he)⟩
  ·rw [hzn, List.length_take, Nat.min_eq_left hm]
   refine ⟨by rw [List.length_take, o1]; exact Nat.min_eq_left (Nat.mul_le_mul_right _ hm), ?_⟩
   rcases hval with ⟨e, hml⟩ | ⟨g, m', cap, e1, e2⟩
   ·rcases o2 with ⟨e3, e4⟩ | ⟨g, cap, cur, e3, e4, e5, e6, e7, e8, e9⟩
    ·exact .inl ⟨e.trans e3, by omega⟩
    ·refine .inr ⟨g, cap, cur, by rw [e, e3, hml], e4, e5, by omega, e7, e8, ?_⟩
     rw [← e9, List.take_take, Nat.min_eq_left (Nat.mul_le_mul_right _ hm)]
   ·rcases o2 with ⟨e3, e4⟩ | ⟨g', cap', cur, e3, e4, e5, e6, e7, e8, e9⟩
    ·rw [e3] at e1; cases e1
    ·rw [e3] at e1
     injection e1 with e1 e1' e1''
     injection e1 with e1
     injection e1 with e1
     subst e1 e1''
     refine .inr ⟨g', cap', cur, e2, e4, e5, by omega, e7, e8, ?_⟩
     rw [← e9, List.take_take, Nat.min_eq_left (Nat.mul_le_mul_right _ hm)]
  ·rw [hfl.2]
   exact (k2.take _).mono (Upto.refl _) hB
 refine h C h1 h2 h3 a w ⟨Z', S.size, S.defers, S.frame, S.m0, fun u => ?_, fun u q hq => ?_, fun j b hj => ?_, fun j j' b c hj hj' hjj x hx => ?_, fun j b x hj hx => ?_, S.lm, fun q hq => ?_⟩
 ·show (get ((t, .ow n) :: E) u).rep _ _ _ _
  by_cases hu : t = u
  ·subst hu
   have e : get ((t, AV.ow n) :: E) t = .ow n := by simp [get]
   rw [e, AV.rep, hzn, hv]
  ·have e : get ((t, AV.ow n) :: E) u = get E u := by
    have : Nat.beq t u = false := by cases hb : Nat.beq t u with
     | false => rfl
     | true => exact absurd (Nat.eq_of_beq_eq_true hb) hu
    simp [get, this]
   rw [e]
   exact AV.rep_mono (Upto.refl _) hB _ (fun i hi => hz i (hD i (S.ids u i hi))) _ (S.slots u)
 ·by_cases hu : t = u
  ·subst hu
   have e : St.envF ⟨(t, AV.ow n) :: E, (n, some (.row T sz (es.take m))) :: (i, none) :: H, n + 1⟩ t = .ow n := by simp [St.envF, get]
   rw [e] at hq
   have : q = n := by simpa [AV.ids] using hq
   subst this
   exact Nat.lt_succ_self _
  ·have e : St.envF ⟨(t, AV.ow n) :: E, (n, some (.row T sz (es.take m))) :: (i, none) :: H, n + 1⟩ u = get E u := by
    have : Nat.beq t u = false := by cases hb : Nat.beq t u with
     | false => rfl
     | true => exact absurd (Nat.eq_of_beq_eq_true hb) hu
    simp [St.envF, get, this]
   rw [e] at hq
   exact Nat.lt_succ_of_lt (S.ids u q hq)
 ·rw [hH] at hj
  split at hj
  ·rename_i e
   subst e
   injection hj with hj
   subst hj
   exact ⟨hnew, Nat.lt_succ_self _, fun q hq => by simp [Blk.ids] at hq⟩
  ·split at hj
   ·cases hj
   ·obtain ⟨g1, g2, g3⟩ := S.holds j b hj
    exact ⟨g1.keep (Upto.refl _) hB (hz j (hne j b hj)) (fun q hq => hz q (hD q (g3 q hq))) (fun _ _ => rfl), Nat.lt_succ_of_lt g2, fun q hq => Nat.lt_succ_of_lt (g3 q hq)⟩
 ·rw [hH] at hj hj'
  split at hj
  ·rename_i e
   subst e
   rw [hzn] at hx
   split at hj'
   ·rename_i e; exact absurd e hjj
   ·split at hj'
    ·cases hj'
    ·rename_i e e2
     rw [hz j' (hne j' c hj')]
     exact S.dist i j' _ c hi hj' e2 x (hblk x hx)
  ·split at hj
   ·cases hj
   ·rename_i e0 e2
    rw [hz j (hne j b hj)] at hx
    split at hj'
    ·rename_i e
     subst e
     rw [hzn]
     intro hx'
     exact S.dist j i b _ hj hi (fun h => e2 h.symm) x hx (hblk x hx')
    ·split at hj'
     ·cases hj'
     ·rw [hz j' (hne j' c hj')]
      exact S.dist j j' b c hj hj' hjj x hx
 ·rw [hH] at hj
  split at hj
  ·rename_i e
   subst e
   rw [hzn] at hx
   have hx' := hblk x hx
   rw [Bool.or_eq_true, blt_t, ble_t] at hloc
   rcases hloc with hl | hl
   ·have hl' : i < C.ln.m := by rw [h2]; exact hl
    have := (S.zl i (Nat.lt_of_lt_of_le hl' S.lm)).1
    exact .inr (.inr ⟨i, hl', by rw [← this]; exact hx'⟩)
   ·rcases S.fresh i _ x hi hx' with hf | hf
    ·exfalso
     have hl' : C.nl ≤ i := by show C.ln.n ≤ i; rw [h2]; exact hl
     omega
    ·exact .inr hf
  ·split at hj
   ·cases hj
   ·rw [hz j (hne j b hj)] at hx
    exact S.fresh j b x hj hx
 ·obtain ⟨g1, g2⟩ := S.zl q hq
  exact ⟨(hz q (hD q g2)).trans g1, Nat.lt_succ_of_lt g2⟩
section
variable {P : Program} {L : Ln} {N : Nat} {ops : Array Oper} {chk : List (Nat × Sp) → Bool} {Q : St → Prop} {S : St} {tr : List (Nat × Sp)} {l : List Oper} {d : Option Tmp} {ty : TypeId} {pos : String} {af : Array Edge} {g : Option (Nat × Bool)} {t t2 : TypeId} {x y : Operand}
theorem run_append_alike {t t2 : TypeId} (h1 : P.underlying t = some (.slice (P.elem t))) (h2 : P.underlying t2 = some (.slice (P.elem t2))) (u v : Value) (w : World) : (Builtin.append_ #[t, t2] ty #[u, v]).run P w = (Builtin.append_ #[t, t] ty #[u, v]).run P w := by
 cases u <;> simp [Builtin.append_, run_underlying h1, run_underlying h2]
theorem w_alike (h1 : P.underlying t = some (.slice (P.elem t))) (h2 : P.underlying t2 = some (.slice (P.elem t2)))
  (h : wpA P L N ops chk Q (⟨d, .call { callee := .builtin .append, args := #[x, y], argTypes := #[t, t] }, ty, pos, af, g⟩ :: l) S tr) :
  wpA P L N ops chk Q (⟨d, .call { callee := .builtin .append, args := #[x, y], argTypes := #[t, t2] }, ty, pos, af, g⟩ :: l) S tr := by
 obtain ⟨sp, hs, hr⟩ := h
 refine ⟨sp, ⟨hs.dst, hs.want, fun hrun a w Z M hM ho hh hd => ?_, hs.skip, hs.sp⟩, hr⟩
 have := hs.ok hrun a w Z M hM ho hh hd
 unfold Exec at this ⊢
 have e : (execOp a.eval ⟨d, .call { callee := .builtin .append, args := #[x, y], argTypes := #[t, t2] }, ty, pos, af, g⟩).run P w = (execOp a.eval ⟨d, .call { callee := .builtin .append, args := #[x, y], argTypes := #[t, t] }, ty, pos, af, g⟩).run P w := by
  simp only [execOp, resolve, invoke, builtin, Sem.run_bind, Sem.run_pure, Result.andThen_ok, List.map_toArray, List.map_cons, List.map_nil, run_append_alike h1 h2]
 rw [e]
 exact this
end
theorem fill_congr (f g : Nat → Option (Nat × Nat)) : ∀ (vs : List (Nat × Value)) (us : Array Value), (∀ p ∈ vs, f p.1 = g p.1) → Instr.fill f us vs = Instr.fill g us vs
 | [], us, _ => rfl
 | (i, v) :: vs, us, h => by
  have h0 := h (i, v) (by simp)
  simp only at h0
  rw [Instr.fill, Instr.fill, h0]
  cases g i with
  | none => rfl
  | some q =>
   obtain ⟨off, size⟩ := q
   simp only
   split
   ·rfl
   ·exact fill_congr f g vs _ (fun p hp => h p (by simp [hp]))
theorem p_buildarr {P : Program} {E : List (Nat × AV)} {H : Nat → Option Blk} {d : Option Tmp} {ty : TypeId} {pos : String} {af : Array Edge} {g : Option (Nat × Bool)} {t : TypeId} {n e sz : Nat} {zs : List Value} [hT : ArT P t n e sz] [hz : ZrT P t zs]
  {parts : Array (Nat × Operand)} {cs : List AV} (hf : fillA ((List.range n).map fun i => (i * sz, sz)) (zs.map fun u => .r (.v u)) (parts.toList.map fun p => (p.1, evA (get E) p.2)) = some cs) (ho : (parts.toList.all fun p => okPart [] (evA (get E) p.2)) = true) (hlt : (parts.toList.all fun p => Nat.blt p.1 n) = true) :
  ReadOk P ⟨d, .build t parts, ty, pos, af, g⟩ (get E) H [] (.ag cs) := by
 refine ⟨fun i b h => by simp at h, fun i hi => .inl ?_, fun a w Z M hr hh => ?_⟩
 ·rw [AV.ids] at hi
  refine fillA_ids _ (fun i => ∃ t, i ∈ (get E t).ids) _ _ _ (fun i hi => by rw [idss_exact] at hi; cases hi) (fun p hp i hi => ?_) hf i hi
  obtain ⟨q, hq, rfl⟩ := List.mem_map.1 hp
  rcases ids_ev rfl i hi with h | ⟨_, _, h, _⟩
  ·exact h
  ·cases h
 ·have h1 := hz.ok
  obtain ⟨tu, ts⟩ := ArT.und (P := P) (t := t) (n := n) (e := e) (sz := sz)
  cases hi : P.info? t with
  | none => rw [hi] at h1; cases h1
  | some it =>
   rw [hi] at h1
   simp only [Option.map_some, Option.some.injEq] at h1
   cases hzz : it.zero with
   | none => rw [hzz] at h1; cases h1
   | some z =>
    rw [hzz] at h1
    simp only [Option.map_some, Option.some.injEq] at h1
    obtain ⟨us', h3, h4⟩ := fill_rep (Z := Z) (B := M) (w := w) ((List.range n).map fun i => (i * sz, sz)) _ (parts.toList.map fun p => (p.1, a.eval p.2)) _ cs z.cells (by simp) (fun k p v hk hv => by
     rw [List.getElem?_map] at hk hv
     cases hq : parts.toList[k]? with
     | none => rw [hq] at hk; cases hk
     | some q =>
      rw [hq] at hk hv
      simp only [Option.map_some, Option.some.injEq] at hk hv
      subst hk hv
      have hmem := List.mem_of_getElem? hq
      refine ⟨rfl, part_rep (List.all_eq_true.1 ho q hmem) hh (hr q.2 ?_)⟩
      show q.2 ∈ ((parts.toList.map (·.2)).toArray).toList
      simp only [List.toList_toArray]
      exact List.mem_map.2 ⟨q, hmem, rfl⟩) (by rw [h1]; exact reps_exact zs) hf
    have hcg : Instr.fill (fun i => some (i * sz, sz)) z.cells (parts.toList.map fun p => (p.1, a.eval p.2)) = some us' := by
     rw [← h3]
     refine fill_congr _ _ _ _ fun p hp => ?_
     obtain ⟨q, hq, rfl⟩ := List.mem_map.1 hp
     have := blt_t.1 (List.all_eq_true.1 hlt q hq)
     simp [this]
    have hsz := run_sizeOf (P := P) ts w
    have hzv : (zeroValue t).run P w = .ok z w := by simp [zeroValue, typeInfo, hi, hzz]
    have he : (parts.map fun (i, x) => (i, a.eval x)) = parts.map fun p => (p.1, a.eval p.2) := rfl
    have hb : (Instr.build t (parts.map fun p => (p.1, a.eval p.2))).run P w = .ok (.agg us') w := by
     simp only [Instr.build, Sem.run_bind, hzv, Result.andThen_ok, run_underlying tu, hsz, Array.toList_map, hcg, Sem.run_pure]
    refine ⟨.agg us', ?_, by rw [AV.rep]; exact ⟨us', rfl, h4⟩⟩
    simp only [execOp, he, Sem.run_bind, hb, Result.andThen_ok, Sem.run_pure]
end Go.Ab
