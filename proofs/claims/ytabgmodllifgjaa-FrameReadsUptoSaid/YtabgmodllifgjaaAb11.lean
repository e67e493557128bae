/- The second layer: stores, slice literals, appends, cuts. No conditions. -/
import Derived.Test.YtabgmodllifgjaaAb10
namespace Go.Ab
open Go.RowKit
set_option linter.unusedVariables false
set_option linter.unusedSimpArgs false

/-- The cells from o on are others. -/
def setA {α : Type} (cs : List α) (o : Nat) (ds : List α) : List α := cs.take o ++ ds ++ cs.drop (o + ds.length)
theorem setA_len {α : Type} (cs : List α) (o : Nat) (ds : List α) (h : o + ds.length ≤ cs.length) : (setA cs o ds).length = cs.length := by simp [setA]; omega
theorem setA_nil {α : Type} (cs : List α) (o : Nat) : setA cs o [] = cs := by simp [setA]
theorem setA_cons {α : Type} (cs : List α) (o : Nat) (d : α) (ds : List α) (h : o < cs.length) : setA (cs.set o d) (o + 1) ds = setA cs o (d :: ds) := by
  unfold setA
  rw [List.take_set, List.drop_set, if_pos (by omega)]
  have e1 : (cs.take (o + 1)).set o d = cs.take o ++ [d] := by
    apply List.ext_getElem?
    intro k
    rw [List.getElem?_set]
    by_cases hk : o = k
    · subst hk
      rw [if_pos rfl, List.length_take, if_pos (by omega), List.getElem?_append_right (by rw [List.length_take]; omega), List.length_take, show o - min o cs.length = 0 by omega]
      rfl
    · rw [if_neg hk]
      rcases Nat.lt_or_ge k o with h1 | h1
      · rw [List.getElem?_append_left (by simp; omega), List.getElem?_take, List.getElem?_take, if_pos (by omega), if_pos h1]
      · rw [List.getElem?_append_right (by simp; omega), List.getElem?_take, if_neg (by omega)]
        simp
        omega
  rw [e1]
  simp [Nat.add_assoc, Nat.add_comm 1]

theorem run_stores {P : Program} {b o T : Nat} : ∀ (vs : List Value) (i : Nat) (us : Array Value) (w : World), w.heap[b]? = some (.cells us T (0, 0)) → o + i + vs.length ≤ us.size → vs.all (·.oneCell') = true →
    ∃ w' us', (storeCells ⟨b, o, none⟩ vs i).run P w = .ok () w' ∧ w'.heap[b]? = some (.cells us' T (0, 0)) ∧ us'.toList = setA us.toList (o + i) vs ∧ Upto (fun q => q = b) w w'
  | [], i, us, w, hg, hl, h1 => ⟨w, us, rfl, hg, (setA_nil _ _).symm, Upto.refl _⟩
  | v :: vs, i, us, w, hg, hl, h1 => by
    rw [List.all_cons, Bool.and_eq_true] at h1
    simp only [List.length_cons] at hl
    have hc : w.cell? ⟨b, o + i, none⟩ = some us[o + i] := by rw [cell_of_row w b (o + i) us T (0, 0) hg]; simp
    have hf : w.frozen? ⟨b, o + i, none⟩ = false := frozen_of_row w b (o + i) us T hg
    have hst : (store (⟨b, o + i, none⟩ : Addr) v).run P w = .ok () (w.setCell ⟨b, o + i, none⟩ v) := by
      rw [run_store P w _ v .plain h1.1]
      simp [stored, hc, hf]
    have hg2 := heap_setCell_same w b (o + i) us T v hg
    obtain ⟨w', us', h2, h3, h4, h5⟩ := run_stores (P := P) (b := b) (o := o) (T := T) vs (i + 1) (us.setIfInBounds (o + i) v) _ hg2 (by simp; omega) h1.2
    refine ⟨w', us', ?_, h3, ?_, ?_⟩
    · rw [storeCells]
      simp only [add_mid, Sem.run_bind, hst, Result.andThen_ok]
      exact h2
    · rw [h4, Array.toList_setIfInBounds, show o + (i + 1) = o + i + 1 by omega]
      exact setA_cons _ _ _ _ (by simp; omega)
    · refine Upto.trans (w := w.setCell ⟨b, o + i, none⟩ v) ⟨rfl, rfl, rfl, by simp [World.setCell], fun k hk hne => ?_⟩ h5
      exact Below.heap_setCell w ⟨b, o + i, none⟩ v k hne

theorem reps_append {Z : Nat → Value} {B : Nat → Prop} {w : World} : ∀ {cs ds : List AV} {us vs : List Value}, AV.reps Z B w cs us → AV.reps Z B w ds vs → AV.reps Z B w (cs ++ ds) (us ++ vs)
  | [], ds, us, vs, h, k => by rw [AV.reps] at h; subst h; simpa using k
  | c :: cs, ds, us, vs, h, k => by
    rw [AV.reps] at h
    obtain ⟨u, us', rfl, h1, h2⟩ := h
    rw [List.cons_append, AV.reps]
    exact ⟨u, us' ++ vs, rfl, h1, reps_append h2 k⟩
theorem idss_mem_iff {cs : List AV} {i : Nat} : i ∈ AV.idss cs ↔ ∃ c ∈ cs, i ∈ c.ids := by
  induction cs with
  | nil => simp [AV.idss]
  | cons c cs ih => simp [AV.idss, ih]
theorem ones_all {Z : Nat → Value} {B : Nat → Prop} {w : World} {a : AV} {v : Value} (h1 : onesB (cellsA a) = true) (hv : a.rep Z B w v) : v.cells.toList.all (·.oneCell') = true := ones_rep h1 (cells_rep hv (cellsA_one h1)).1

section
variable {P : Program} {L : Ln} {N : Nat} {ops : Array Oper} {chk : List (Nat × Sp) → Bool} {Q : St → Prop} {l : List Oper} {E : List (Nat × AV)} {H : List (Nat × Option Blk)} {n : Nat} {tr : List (Nat × Sp)}
variable {d : Nat} {ty : TypeId} {pos : String} {af : Array Edge} {g : Option (Nat × Bool)} {t : TypeId} {x y : Operand}

/-- A store into a variable. -/
theorem w_store {j o T m : Nat} {cs : List AV} {a : AV} (hx : evA (get E) x = .pt j o) (hy : evA (get E) y = a) (hH : getH H j = some (.var T cs)) (h1 : onesB (cellsA a) = true) (hs : (P.info? t).map (·.size) = some m) (hm : (cellsA a).length = m) (hn : Nat.ble (o + m) cs.length = true)
    (hg : Wanted ops (get E) ⟨none, .store t x y, ty, pos, af, g⟩ true)
    (h : wpA P L N ops chk Q l ⟨E, (j, some (.var T (setA cs o (cellsA a)))) :: H, n⟩ ((n, ⟨true, [(j, .var T cs)], .r (.v undef), [(j, some (.var T (setA cs o (cellsA a))))], []⟩) :: tr)) :
    wpA P L N ops chk Q (⟨none, .store t x y, ty, pos, af, g⟩ :: l) ⟨E, H, n⟩ tr := by
  have hn := ble_t.1 hn
  refine ⟨⟨true, [(j, .var T cs)], .r (.v undef), [(j, some (.var T (setA cs o (cellsA a))))], []⟩, ⟨(fun x hx => by cases hx), hg, fun _ ac w Z M hM hr hh hdist => ?_, (fun h => by cases h), fun D hD hDH hf => ?_⟩, h⟩
  · have hxr : (evA (get E) x).rep Z M w (ac.eval x) := hr x (by simp [Op.operands])
    have hyr : (evA (get E) y).rep Z M w (ac.eval y) := hr y (by simp [Op.operands])
    rw [hx, AV.rep] at hxr
    rw [hy] at hyr
    obtain ⟨hheld, hMj⟩ := hh j (.var T cs) (by simp)
    obtain ⟨b, us, h2, h3, h4, h5, h6⟩ := held_var hheld hxr
    have hcr := (cells_rep hyr (cellsA_one h1)).1
    have hlen := AV.reps_len h5
    have hlen2 := AV.reps_len hcr
    simp only [Array.length_toList] at hlen hlen2
    have hall := ones_all h1 hyr
    obtain ⟨w', us', h7, h8, h9, h10⟩ := run_stores (P := P) (b := b) (o := o) (T := T) (ac.eval y).cells.toList 0 us w h4 (by simp; omega) hall
    have hsz : (sizeOf t).run P w = .ok (ac.eval y).cells.size w := by rw [run_sizeOf hs]; congr 1; omega
    have hex : (execOp ac.eval ⟨none, .store t x y, ty, pos, af, g⟩).run P w = .ok .skip w' := by
      have : (storeVar t ⟨b, o, none⟩ (ac.eval y)).run P w = .ok () w' := by
        simp only [storeVar, Sem.run_bind, hsz, Result.andThen_ok]
        simp [h7]
      simp only [execOp, h3, Instr.storeAt, Instr.sureAddr, Sem.run_bind, Sem.run_pure, Result.andThen_ok, this]
    have hU : Upto M w w' := h10.mono fun q _ hq => by subst hq; exact hMj _ (by rw [h2]; rfl)
    have hNew : ∀ q, New n ⟨true, [(j, .var T cs)], .r (.v undef), [(j, some (.var T (setA cs o (cellsA a))))], []⟩ Z M q → M q := fun q hq => new_nil rfl hq
    refine exec_skip hex ⟨Z, fun _ _ => rfl, by rw [AV.rep, RV.rep], fun i c hi => ?_, fun j b h => by simp at h, fun j j' x h => by simp at h, fun j x h => by simp at h, ?_⟩
    · simp only [List.mem_cons, List.not_mem_nil, or_false, Prod.mk.injEq, Option.some.injEq] at hi
      obtain ⟨rfl, rfl⟩ := hi
      refine ⟨b, us', h2, h8, ?_, ?_⟩
      · rw [h9, Nat.add_zero]
        have m1 := AV.reps_mono hU (fun q _ hq => hNew q hq) cs (fun _ _ => rfl) _ h5
        have m2 := AV.reps_mono hU (fun q _ hq => hNew q hq) (cellsA a) (fun _ _ => rfl) _ hcr
        unfold setA
        rw [show (ac.eval y).cells.toList.length = (cellsA a).length by simp; omega]
        exact reps_append (reps_append (reps_take o m1) m2) (reps_drop _ m1)
      · rw [all_arr, h9]
        unfold setA
        rw [all_arr] at h6
        rw [List.all_append, List.all_append, hall]
        simp only [List.all_eq_true] at h6 ⊢
        simp only [Bool.and_true, Bool.and_eq_true, List.all_eq_true]
        exact ⟨fun u hu => h6 u (List.mem_of_mem_take hu), fun u hu => h6 u (List.mem_of_mem_drop hu)⟩
    · refine h10.mono fun q _ hq => ?_
      subst hq
      exact ⟨j, some (.var T (setA cs o (cellsA a))), by simp, by rw [h2]; rfl⟩
  · refine ⟨fun i b hb => ?_, fun i o' ho => ?_, fun i o' ho => ?_, fun i ho => ?_, hf, fun i hi => by simp [AV.ids] at hi, fun b h => by simp at h, fun i b hb i' hi' => .inl ?_⟩
    · simp only [List.mem_cons, List.not_mem_nil, or_false, Prod.mk.injEq] at hb
      obtain ⟨rfl, rfl⟩ := hb
      exact hH
    · simp only [List.mem_cons, List.not_mem_nil, or_false, Prod.mk.injEq] at ho
      obtain ⟨rfl, rfl⟩ := ho
      exact ⟨.var T cs, by simp⟩
    · simp only [List.mem_cons, List.not_mem_nil, or_false, Prod.mk.injEq] at ho
      obtain ⟨rfl, rfl⟩ := ho
      exact by simp [List.lookup_cons]
    · simp at ho
    · simp only [List.mem_cons, List.not_mem_nil, or_false, Prod.mk.injEq, Option.some.injEq] at hb
      obtain ⟨rfl, rfl⟩ := hb
      rw [Blk.ids, setA, idss_mem_iff] at hi'
      obtain ⟨c, hc, hci⟩ := hi'
      rw [List.mem_append, List.mem_append] at hc
      rcases hc with (hc | hc) | hc
      · exact (hDH _ _ hH).2 i' (idss_mem (List.mem_of_mem_take hc) hci)
      · have := idss_cells i' (idss_mem hc hci)
        rcases ids_ev hy i' this with ⟨t', ht'⟩ | ⟨_, _, hq, _⟩
        · exact hD t' i' ht'
        · exact mem_nil hq
      · exact (hDH _ _ hH).2 i' (idss_mem (List.mem_of_mem_drop hc) hci)
end
end Go.Ab
