/- Texts of the second layer in one: Ab26 Ab27. -/
import Derived.Test.YtibedaeefnjjlaaGreatG10
import Derived.ChangeKeysEq
import Derived.Laws.CopyRow
import Derived.Laws.Slices
/- The second layer: slices of arrays that are variables; an element of an array; arrays of numbers compared; copies between variables. No conditions. -/
namespace Go.Ab
open Go.RowKit
set_option linter.unusedVariables false
set_option linter.unusedSimpArgs false
section
variable {P : Program} {env : Nat → AV} {H : Nat → Option Blk} {d : Option Tmp} {ty : TypeId} {pos : String} {af : Array Edge} {g : Option (Nat × Bool)} {t : TypeId} {x y : Operand}
theorem arr_facts {n e sz : Nat} [hT : ArT P t n e sz] : P.underlying t = some (.array (P.arrayLen t) (P.elem t)) ∧ P.arrayLen t = n ∧ P.elem t = e ∧ ∀ w, (sizeOf (P.elem t)).run P w = .ok sz w := by
  obtain ⟨tu, ts⟩ := ArT.und (P := P) (t := t) (n := n) (e := e) (sz := sz)
  have te : P.elem t = e := by simp [Program.elem, tu]
  have tl : P.arrayLen t = n := by simp [Program.arrayLen, tu]
  refine ⟨by rw [te, tl]; exact tu, tl, te, fun w => ?_⟩
  rw [te]
  exact run_sizeOf ts w
/-- x[:] of an array. -/
theorem p_arr_all {n e sz j o : Nat} [hT : ArT P t n e sz] (hx : evA env x = .pt j o) : ReadOk P ⟨d, .slice t x none none none, ty, pos, af, g⟩ env H [] (.so j o n n) := by
  refine ⟨fun i b h => by simp at h, fun i hi => ids_ev hx i (by simpa [AV.ids] using hi), fun ac w Z M hr _ => ?_⟩
  have h1 := hr x (by simp [Op.operands])
  rw [hx, AV.rep] at h1
  obtain ⟨b, e1, e2⟩ := h1
  obtain ⟨a1, a2, a3, a4⟩ := arr_facts (P := P) (t := t) (n := n) (e := e) (sz := sz)
  have := run_sliceAt_array_all (P := P) w t ⟨b, o, none⟩ a1
  rw [a4] at this
  refine ⟨.slice (some ⟨b, o, none⟩) n n, ?_, by rw [AV.rep]; exact ⟨b, e1, rfl⟩⟩
  simp only [execOp, e2, Option.map_none, Sem.run_bind, this, Result.andThen_ok]
  simp [slicedAt, a2]
  intro _; simp [add_mid]
/-- x[:h] of an array. -/
theorem p_arr_h {n e sz j o h : Nat} [hT : ArT P t n e sz] {k : IntKind} {a : Int} (hx : evA env x = .pt j o) (hy : evA env y = .r (.v (.int k a))) (ha : a = (h : Int)) (hh : h ≤ n) : ReadOk P ⟨d, .slice t x none (some y) none, ty, pos, af, g⟩ env H [] (.so j o h n) := by
  subst ha
  refine ⟨fun i b h => by simp at h, fun i hi => ids_ev hx i (by simpa [AV.ids] using hi), fun ac w Z M hr _ => ?_⟩
  have h1 := hr x (by simp [Op.operands])
  have h2 := ev_v hy (hr y (by simp [Op.operands]))
  rw [hx, AV.rep] at h1
  obtain ⟨b, e1, e2⟩ := h1
  obtain ⟨a1, a2, a3, a4⟩ := arr_facts (P := P) (t := t) (n := n) (e := e) (sz := sz)
  have := run_sliceAt_array_h (P := P) w t ⟨b, o, none⟩ a1 k (h : Int) (by omega) (by omega)
  rw [a4] at this
  refine ⟨.slice (some ⟨b, o, none⟩) h n, ?_, by rw [AV.rep]; exact ⟨b, e1, rfl⟩⟩
  simp only [execOp, e2, h2, Option.map_none, Option.map_some, Sem.run_bind, this, Result.andThen_ok]
  simp [slicedAt, a2]
  intro _; simp [add_mid]
/-- x[l:] of an array. -/
theorem p_arr_l {n e sz j o l : Nat} [hT : ArT P t n e sz] {k : IntKind} {a : Int} (hx : evA env x = .pt j o) (hy : evA env y = .r (.v (.int k a))) (ha : a = (l : Int)) (hl : l < n) : ReadOk P ⟨d, .slice t x (some y) none none, ty, pos, af, g⟩ env H [] (.so j (o + l * sz) (n - l) (n - l)) := by
  subst ha
  refine ⟨fun i b h => by simp at h, fun i hi => ids_ev hx i (by simpa [AV.ids] using hi), fun ac w Z M hr _ => ?_⟩
  have h1 := hr x (by simp [Op.operands])
  have h2 := ev_v hy (hr y (by simp [Op.operands]))
  rw [hx, AV.rep] at h1
  obtain ⟨b, e1, e2⟩ := h1
  obtain ⟨a1, a2, a3, a4⟩ := arr_facts (P := P) (t := t) (n := n) (e := e) (sz := sz)
  have := run_sliceAt_array_l (P := P) w t ⟨b, o, none⟩ a1 k (l : Int) (by omega) (by omega)
  rw [a4] at this
  refine ⟨.slice (some ⟨b, o + l * sz, none⟩) (n - l) (n - l), ?_, by rw [AV.rep]; exact ⟨b, e1, rfl⟩⟩
  simp only [execOp, e2, h2, Option.map_none, Option.map_some, Sem.run_bind, this, Result.andThen_ok]
  have : ¬ n = l := by omega
  simp [slicedAt, a2, this, add_mid]
/-- A slice of an array as a pointer to an array. -/
theorem p_arr_ptr {n e sz j o m c : Nat} [hT : ArT P t n e sz] (hx : evA env x = .so j o m c) (hm : n ≤ m) : ReadOk P ⟨d, .sliceToArrayPointer t x, ty, pos, af, g⟩ env H [] (.pt j o) := by
  refine ⟨fun i b h => by simp at h, fun i hi => ids_ev hx i (by simpa [AV.ids] using hi), fun ac w Z M hr _ => ?_⟩
  have h1 := hr x (by simp [Op.operands])
  rw [hx, AV.rep] at h1
  obtain ⟨b, e1, e2⟩ := h1
  obtain ⟨a1, a2, a3, a4⟩ := arr_facts (P := P) (t := t) (n := n) (e := e) (sz := sz)
  refine ⟨.pointer (some ⟨b, o, none⟩), ?_, by rw [AV.rep]; exact ⟨b, e1, rfl⟩⟩
  have : ¬ m < n := by omega
  simp [execOp, e2, Instr.arrayAt, run_underlying a1, a2, this]
/-- An element of an array that is a value. -/
theorem p_index_ag {n e j : Nat} [hT : ArT P t n e 1] [hO : OnT P e] {cs : List AV} {out : AV} {k : IntKind} {a : Int} (hx : evA env x = .ag cs) (hy : evA env y = .r (.v (.int k a))) (ha : a = (j : Int)) (hj : j < n) (hc : cs[j]? = some out) : ReadOk P ⟨d, .index t x y, ty, pos, af, g⟩ env H [] out := by
  subst ha
  refine ⟨fun i b h => by simp at h, fun i hi => ids_ev hx i (by rw [AV.ids]; exact idss_mem (List.mem_of_getElem? hc) hi), fun ac w Z M hr _ => ?_⟩
  have h1 := hr x (by simp [Op.operands])
  have h2 := ev_v hy (hr y (by simp [Op.operands]))
  rw [hx, AV.rep] at h1
  obtain ⟨us, e1, e2⟩ := h1
  obtain ⟨a1, a2, a3, a4⟩ := arr_facts (P := P) (t := t) (n := n) (e := e) (sz := 1)
  obtain ⟨u, h7, h8⟩ := AV.reps_get e2 hc
  refine ⟨u, ?_, h8⟩
  obtain ⟨D, hu, hD⟩ := OnT.und (P := P) (t := e)
  have h7' : us[j]? = some u := by simpa using h7
  have hag : (isAgg e).run P w = .ok false w := by
    simp only [isAgg, Sem.run_bind, run_underlying hu, Result.andThen_ok, Sem.run_pure]
    cases D <;> first | rfl | (cases hD)
  rw [a3] at a1 a4
  have hp : (part e us j).run P w = .ok u w := by
    simp only [part, Sem.run_bind, hag, Result.andThen_ok, Bool.false_eq_true, if_false, h7', Sem.run_pure]
  have hi : (Instr.index t (.agg us) (.int k (j : Int))).run P w = .ok u w := by
    have hjn : (0 : Int) ≤ (j : Int) ∧ (j : Int) < (P.arrayLen t : Nat) := by rw [a2]; omega
    simp only [Instr.index, asIntOf, Sem.run_bind, Sem.run_pure, run_underlying a1, Result.andThen_ok]
    rw [if_pos hjn]
    simp only [Sem.run_bind, a4, Result.andThen_ok, Int.toNat_natCast, Nat.mul_one, hp]
  simp only [execOp, e1, h2, Sem.run_bind, hi, Result.andThen_ok, Sem.run_pure]
end
class EqAr (P : Program) (t : Nat) : Prop where ok : P.eqGuardType P.depth t = false
theorem run_eqItems_nums {P : Program} {Z : Nat → Value} {B : Nat → Prop} {w : World} (d : Nat) {e : TypeId} {k : IntKind} (he : P.underlying e = some (.int k)) (xs ys : Array Value) : ∀ (as bs : List AV) (j : Nat), okA as bs = true → AV.reps Z B w as (xs.toList.drop j) → AV.reps Z B w bs (ys.toList.drop j) →
    (Op.eqItems (d + 1) e 1 xs ys (List.range' j as.length)).run P w = .ok (eqA as bs) w
  | [], bs, j, ho, _, _ => by
    cases bs with
    | nil => rfl
    | cons b bs => simp [okA] at ho
  | a :: as, bs, j, ho, hx, hy => by
    cases bs with
    | nil => unfold okA at ho; split at ho <;> simp_all
    | cons b bs =>
      unfold okA at ho
      split at ho
      · simp_all
      · rename_i k1 m as' k2 m' bs' e1 e2
        injection e1 with e1 e1'
        injection e2 with e2 e2'
        subst e1 e2 e1' e2'
        rw [AV.reps] at hx hy
        obtain ⟨u, us, g1, g2, g3⟩ := hx
        obtain ⟨v, vs, g4, g5, g6⟩ := hy
        rw [AV.rep, RV.rep] at g2 g5
        subst g2 g5
        have hd : ∀ (l : List Value) (x : Value) (xs : List Value), l.drop j = x :: xs → l[j]? = some x ∧ l.drop (j + 1) = xs := by
          intro l x xs h
          refine ⟨?_, ?_⟩
          · have := congrArg (fun l => l[0]?) h
            simpa using this
          · rw [← List.drop_drop, h]; rfl
        obtain ⟨hx1, hx2⟩ := hd _ _ _ g1
        obtain ⟨hy1, hy2⟩ := hd _ _ _ g4
        rw [Bool.and_eq_true, decide_eq_true_eq] at ho
        obtain ⟨hk, ho⟩ := ho
        subst hk
        have ih := run_eqItems_nums d he xs ys as bs (j + 1) ho (by rw [hx2]; exact g3) (by rw [hy2]; exact g6)
        have p1 : (part e xs (j * 1)).run P w = .ok (.int k1 m) w := run_part_int he (by rw [Nat.mul_one, ← Array.getElem?_toList]; exact hx1) w
        have p2 : (part e ys (j * 1)).run P w = .ok (.int k1 m') w := run_part_int he (by rw [Nat.mul_one, ← Array.getElem?_toList]; exact hy1) w
        have p3 := run_equalIn_int w d e k1 k m m' he
        rw [List.length_cons, List.range'_succ]
        simp only [Op.eqItems, Sem.run_bind, p1, p2, p3, Result.andThen_ok, eqA]
        by_cases hmm : m = m'
        · subst hmm; simp [ih]
        · simp [hmm]
      · simp_all
section
variable {P : Program} {env : Nat → AV} {H : Nat → Option Blk} {d : Option Tmp} {ty : TypeId} {pos : String} {af : Array Edge} {g : Option (Nat × Bool)}
variable {t u : TypeId} {x y : Operand}
theorem p_eqarr {n e : Nat} {k : IntKind} [hT : ArT P t n e 1] [hI : ItT P e k] [hE : EqAr P t] {as bs : List AV} (hx : evA env x = .ag as) (hy : evA env y = .ag bs) (ho : okA as bs = true) (hl : as.length = n) : ReadOk P ⟨d, .binOp .eql t x y u, ty, pos, af, g⟩ env H [] (.r (.v (.bool (decide (eqA as bs = true))))) := by
  refine ⟨fun i b h => mem_nil h, fun i hi => by simp [AV.ids] at hi, fun a w Z M hr _ => ?_⟩
  have h1 := hr x (by simp [Op.operands])
  have h2 := hr y (by simp [Op.operands])
  rw [hx, AV.rep] at h1
  rw [hy, AV.rep] at h2
  obtain ⟨us, e1, h3⟩ := h1
  obtain ⟨vs, e2, h4⟩ := h2
  obtain ⟨tu, ts⟩ := ArT.und (P := P) (t := t) (n := n) (e := e) (sz := 1)
  refine ⟨.bool (eqA as bs), ?_, by rw [AV.rep, RV.rep]; simp⟩
  have k1 : (eqGuard .eql t x y (.agg us) (.agg vs)).run P w = .ok () w := run_eqGuard_agg w .eql t x y us vs hE.ok
  obtain ⟨i, hi, hi1⟩ : ∃ i, P.info? e = some i ∧ i.size = 1 := by
    cases hq : P.info? e with
    | none => rw [hq] at ts; cases ts
    | some i => rw [hq] at ts; exact ⟨i, rfl, by simpa using ts⟩
  have hc : P.cellsOf e = 1 := by simp [Program.cellsOf, hi, hi1]
  have k2 := run_eqItems_nums (P := P) (w := w) 9998 hI.ok us vs as bs 0 ho h3 h4
  have k3 := run_equalIn_array (P := P) (w := w) 9999 us vs tu hi
  rw [hc, ← hl, List.range_eq_range', k2] at k3
  simp only [execOp, e1, e2, Sem.run_bind, k1, Result.andThen_ok, run_eql_struct, k3, Sem.run_pure]
theorem p_neqarr {n e : Nat} {k : IntKind} [hT : ArT P t n e 1] [hI : ItT P e k] [hE : EqAr P t] {as bs : List AV} (hx : evA env x = .ag as) (hy : evA env y = .ag bs) (ho : okA as bs = true) (hl : as.length = n) : ReadOk P ⟨d, .binOp .neq t x y u, ty, pos, af, g⟩ env H [] (.r (.v (.bool (decide (¬ eqA as bs = true))))) := by
  refine ⟨fun i b h => mem_nil h, fun i hi => by simp [AV.ids] at hi, fun a w Z M hr _ => ?_⟩
  have h1 := hr x (by simp [Op.operands])
  have h2 := hr y (by simp [Op.operands])
  rw [hx, AV.rep] at h1
  rw [hy, AV.rep] at h2
  obtain ⟨us, e1, h3⟩ := h1
  obtain ⟨vs, e2, h4⟩ := h2
  obtain ⟨tu, ts⟩ := ArT.und (P := P) (t := t) (n := n) (e := e) (sz := 1)
  refine ⟨.bool (!eqA as bs), ?_, by rw [AV.rep, RV.rep]; simp⟩
  have k1 : (eqGuard .neq t x y (.agg us) (.agg vs)).run P w = .ok () w := run_eqGuard_agg w .neq t x y us vs hE.ok
  obtain ⟨i, hi, hi1⟩ : ∃ i, P.info? e = some i ∧ i.size = 1 := by
    cases hq : P.info? e with
    | none => rw [hq] at ts; cases ts
    | some i => rw [hq] at ts; exact ⟨i, rfl, by simpa using ts⟩
  have hc : P.cellsOf e = 1 := by simp [Program.cellsOf, hi, hi1]
  have k2 := run_eqItems_nums (P := P) (w := w) 9998 hI.ok us vs as bs 0 ho h3 h4
  have k3 := run_equalIn_array (P := P) (w := w) 9999 us vs tu hi
  rw [hc, ← hl, List.range_eq_range', k2] at k3
  simp only [execOp, e1, e2, Sem.run_bind, k1, Result.andThen_ok, run_neq_struct, k3, Sem.run_pure]
end
section
variable {P : Program} {L : Ln} {N : Nat} {ops : Array Oper} {chk : List (Nat × Sp) → Bool} {Q : St → Prop} {E : List (Nat × AV)} {H : List (Nat × Option Blk)} {n : Nat} {tr : List (Nat × Sp)} {l : List Oper}
variable {ty : TypeId} {pos : String} {af : Array Edge} {g : Option (Nat × Bool)} {t t' : TypeId} {x y : Operand} {d : Nat}
/-- copy of words from one variable into another. -/
theorem w_copy {i j o m c o2 m2 c2 T T2 e b q : Nat} {cs ds vs : List AV} [hT : SlT P t e 1 b] (hx : evA (get E) x = .so i o m c) (hy : evA (get E) y = .so j o2 m2 c2) (hH : getH H i = some (.var T cs)) (hJ : getH H j = some (.var T2 ds)) (hij : Nat.beq i j = false)
    (hq : Nat.min m2 m = q) (hvs : (ds.drop o2).take q = vs) (hvl : vs.length = q) (h1 : onesB vs = true) (hn : Nat.ble (o + q) cs.length = true)
    (hd : Nat.blt d N = true) (hg : Wanted ops (get E) ⟨some d, .call { callee := .builtin .copy, args := #[x, y], argTypes := #[t, t'] }, ty, pos, af, g⟩ true)
    (h : wpA P L N ops chk Q l ⟨(d, .r (.v (.int .i64 q))) :: E, (i, some (.var T (setA cs o vs))) :: H, n⟩ ((n, ⟨true, [(i, .var T cs), (j, .var T2 ds)], .r (.v (.int .i64 q)), [(i, some (.var T (setA cs o vs)))], []⟩) :: tr)) :
    wpA P L N ops chk Q (⟨some d, .call { callee := .builtin .copy, args := #[x, y], argTypes := #[t, t'] }, ty, pos, af, g⟩ :: l) ⟨E, H, n⟩ tr := by
  have hn := ble_t.1 hn
  have hij : i ≠ j := fun e => by subst e; simp at hij
  refine ⟨⟨true, [(i, .var T cs), (j, .var T2 ds)], .r (.v (.int .i64 q)), [(i, some (.var T (setA cs o vs)))], []⟩, ⟨(fun x hx => by injection hx with hx; subst hx; exact blt_t.1 hd), hg, fun _ ac w Z M hM hr hh hdist => ?_, (fun h => by cases h), fun D hD hDH hf => ?_⟩, h⟩
  · have hxr : (evA (get E) x).rep Z M w (ac.eval x) := hr x (by simp [Op.operands, Call.operands])
    have hyr : (evA (get E) y).rep Z M w (ac.eval y) := hr y (by simp [Op.operands, Call.operands])
    rw [hx, AV.rep] at hxr
    rw [hy, AV.rep] at hyr
    obtain ⟨b1, hb1, ex⟩ := hxr
    obtain ⟨b2, hb2, ey⟩ := hyr
    obtain ⟨hheld, hMi⟩ := hh i (.var T cs) (by simp)
    obtain ⟨hheld2, hMj⟩ := hh j (.var T2 ds) (by simp)
    obtain ⟨b1', us, h2, h4, h5, h6⟩ := hheld
    obtain ⟨b2', us2, k2, k4, k5, k6⟩ := hheld2
    rw [h2] at hb1; simp only [blk, Option.some.injEq] at hb1; subst hb1
    rw [k2] at hb2; simp only [blk, Option.some.injEq] at hb2; subst hb2
    have hvr := reps_take' q (reps_drop' o2 k5)
    rw [hvs] at hvr
    generalize hnews : (us2.toList.drop o2).take q = news at hvr
    have hnl : news.length = q := by rw [← AV.reps_len hvr, hvl]
    have hlen := AV.reps_len h5
    simp only [Array.length_toList] at hlen
    have hall : news.all (·.oneCell') = true := by
      rw [List.all_eq_true]
      intro u hu
      rw [← hnews] at hu
      have := List.mem_of_mem_drop (List.mem_of_mem_take hu)
      rw [all_arr, List.all_eq_true] at k6
      exact k6 u this
    obtain ⟨w', us', h7, h8, h9, h10⟩ := run_stores (P := P) (b := b1') (o := o) (T := T) news 0 us w h4 (by omega) hall
    have hld := run_loadCells_list (P := P) w ⟨b2', o2, none⟩ news (fun k v hk => by
      rw [add_mid, cell_of_row w b2' _ us2 T2 (0, 0) k4]
      rw [← hnews, List.getElem?_take] at hk
      split at hk
      · rw [List.getElem?_drop] at hk; simpa using hk
      · cases hk)
    have hun := SlT.und (P := P) (t := t) (e := e) (sz := 1) (b := b)
    obtain ⟨ti, z, t1, t2, t3, t4, t5⟩ := SlT.inf (P := P) (t := t) (e := e) (sz := 1) (b := b)
    have hcp : (Builtin.copy_ #[t, t'] ty #[.slice (some ⟨b1', o, none⟩) m c, .slice (some ⟨b2', o2, none⟩) m2 c2]).run P w = .ok (goInt q) w' := by
      rw [hnl] at hld
      simp [Builtin.copy_, run_underlying hun, Builtin.lenOf, Builtin.firstCells, sizeOf, typeInfo, t1, t3, hq, hld, h7]
    have hex : (execOp ac.eval ⟨some d, .call { callee := .builtin .copy, args := #[x, y], argTypes := #[t, t'] }, ty, pos, af, g⟩).run P w = .ok (.value (goInt q)) w' := by
      simp only [execOp, resolve, invoke, builtin, Sem.run_bind, Sem.run_pure, Result.andThen_ok, List.map_toArray, List.map_cons, List.map_nil, ex, ey, hcp]
    have hU : Upto M w w' := h10.mono fun q _ hq => by subst hq; exact hMi _ (by rw [h2]; rfl)
    have hNew : ∀ p, New n ⟨true, [(i, .var T cs), (j, .var T2 ds)], .r (.v (.int .i64 q)), [(i, some (.var T (setA cs o vs)))], []⟩ Z M p → M p := fun p hp => new_nil rfl hp
    refine exec_value hex ⟨Z, fun _ _ => rfl, by rw [AV.rep, RV.rep]; rfl, fun i' c' hi => ?_, fun j' b' h => by simp at h, fun j' j'' x' h => by simp at h, fun j' x' h => by simp at h, ?_⟩
    · simp only [List.mem_cons, List.not_mem_nil, or_false, Prod.mk.injEq, Option.some.injEq] at hi
      obtain ⟨rfl, rfl⟩ := hi
      refine ⟨b1', us', h2, h8, ?_, ?_⟩
      · rw [h9, Nat.add_zero]
        have m1 := AV.reps_mono hU (fun q _ hq => hNew q hq) cs (fun _ _ => rfl) _ h5
        have m2 := AV.reps_mono hU (fun q _ hq => hNew q hq) vs (fun _ _ => rfl) _ hvr
        unfold setA
        rw [hnl, ← hvl]
        exact reps_append (reps_append (reps_take o m1) m2) (reps_drop _ m1)
      · rw [all_arr, h9]
        unfold setA
        rw [all_arr] at h6
        rw [List.all_append, List.all_append, hall]
        simp only [List.all_eq_true] at h6 ⊢
        simp only [Bool.and_true, Bool.and_eq_true, List.all_eq_true]
        exact ⟨fun u hu => h6 u (List.mem_of_mem_take hu), fun u hu => h6 u (List.mem_of_mem_drop hu)⟩
    · refine h10.mono fun p _ hp => ?_
      subst hp
      exact ⟨i, some (.var T (setA cs o vs)), by simp, by rw [h2]; rfl⟩
  · refine ⟨fun i' b' hb => ?_, fun i' o' ho => ?_, fun i' o' ho => ?_, fun i' ho => ?_, hf, fun i' hi => by simp [AV.ids] at hi, fun b h => by simp at h, fun i' b' hb i'' hi' => .inl ?_⟩
    · simp only [List.mem_cons, List.not_mem_nil, or_false, Prod.mk.injEq] at hb
      rcases hb with ⟨rfl, rfl⟩ | ⟨rfl, rfl⟩
      · exact hH
      · exact hJ
    · simp only [List.mem_cons, List.not_mem_nil, or_false, Prod.mk.injEq] at ho
      obtain ⟨rfl, rfl⟩ := ho
      exact ⟨.var T cs, by simp⟩
    · simp only [List.mem_cons, List.not_mem_nil, or_false, Prod.mk.injEq] at ho
      obtain ⟨rfl, rfl⟩ := ho
      exact by simp [List.lookup_cons]
    · simp at ho
    · simp only [List.mem_cons, List.not_mem_nil, or_false, Prod.mk.injEq, Option.some.injEq] at hb
      obtain ⟨rfl, rfl⟩ := hb
      rw [Blk.ids, setA, idss_mem_iff] at hi'
      obtain ⟨c', hc, hci⟩ := hi'
      rw [List.mem_append, List.mem_append] at hc
      rcases hc with (hc | hc) | hc
      · exact (hDH _ _ hH).2 i'' (idss_mem (List.mem_of_mem_take hc) hci)
      · refine (hDH _ _ hJ).2 i'' (idss_mem ?_ hci)
        rw [← hvs] at hc
        exact List.mem_of_mem_drop (List.mem_of_mem_take hc)
      · exact (hDH _ _ hH).2 i'' (idss_mem (List.mem_of_mem_drop hc) hci)
end
/-- Words as cells. -/
def wv (l : List Nat) : List AV := l.map fun (a : Nat) => .r (.v (.int .u64 (a : Int)))
theorem wv_get {l : List Nat} {i : Nat} (h : i < l.length) : (wv l)[i]? = some (.r (.v (.int .u64 (l.getD i 0 : Nat)))) := by
  unfold wv; simp [h]
theorem wv_len (l : List Nat) : (wv l).length = l.length := by unfold wv; simp
theorem wv_set (l : List Nat) (i v : Nat) (h : i < l.length) : setA (wv l) i [.r (.v (.int .u64 (v : Int)))] = wv (l.set i v) := by
  unfold setA wv
  apply List.ext_getElem?
  intro k
  rcases Nat.lt_trichotomy k i with hk | hk | hk
  · have hkl : k < l.length := by omega
    simp [List.getElem?_append, List.getElem?_take, List.getElem?_set, hk, Nat.min_eq_left (Nat.le_of_lt h), show ¬ i = k by omega, hkl]
  · subst hk
    simp [List.getElem?_append, List.getElem?_take, List.getElem?_set, h, Nat.min_eq_left (Nat.le_of_lt h)]
  · obtain ⟨q, rfl⟩ : ∃ q, k = i + 1 + q := ⟨k - (i + 1), by omega⟩
    have : i ≠ i + 1 + q := by omega
    have e : i + 1 + q - i = q + 1 := by omega
    simp [List.getElem?_append, List.getElem?_take, List.getElem?_set, h, Nat.min_eq_left (Nat.le_of_lt h), this, show ¬ i + 1 + q < i by omega, e]
theorem idss_wv : ∀ (l : List Nat), AV.idss (wv l) = []
  | [] => by rw [wv, List.map_nil, AV.idss]
  | a :: l => by
    have ih := idss_wv l
    unfold wv at ih ⊢
    rw [List.map_cons, AV.idss, ih]; simp [AV.ids]
theorem cfl_wv {H : Nat → Option Blk} {ρ : Nat → Nat} {G : List Nat} : ∀ (l : List Nat), CfL H ρ G (wv l) (wv l)
  | [] => .nil
  | a :: l => .cons _ _ _ _ (.r _) (cfl_wv l)
theorem cfl_wve {H : Nat → Option Blk} {ρ : Nat → Nat} {G : List Nat} {cs : List AV} {l : List Nat} (h : cs = wv l) : CfL H ρ G cs (wv l) := by rw [h]; exact cfl_wv l
theorem le_ag {S : St} {ρ : Nat → Nat} {G : List Nat} {l : List (Nat × AV)} {t : Nat} {cs ds : List AV} (h : eLe S ρ G l) (hc : CfL S.HF ρ G cs ds) (hx : get S.env t = .ag cs) : eLe S ρ G ((t, .ag ds) :: l) := by
  refine ⟨?_, h⟩
  rw [show S.envF t = .ag cs from hx]
  exact .ag _ _ hc
section
variable {P : Program} {L : Ln} {N : Nat} {ops : Array Oper} {chk : List (Nat × Sp) → Bool} {Q : St → Prop} {S : St} {tr : List (Nat × Sp)} {l : List Oper} {d : Option Tmp} {ty : TypeId} {pos : String} {af : Array Edge} {g : Option (Nat × Bool)}
theorem is_s2ap {t : TypeId} {x : Operand} (h : wpA P L N ops chk Q (⟨d, .sliceToArrayPointer t x, ty, pos, af, g⟩ :: l) S tr) : wpA P L N ops chk Q (⟨d, .sliceToArrayPointer t x, ty, pos, af, g⟩ :: l) S tr := h
end
end Go.Ab

/- The second layer: an own slice at another length becomes an own slice of a new number. No conditions. --ext3 -/
namespace Go.Ab
open Go.RowKit
set_option linter.unusedVariables false
set_option linter.unusedSimpArgs false

theorem awp_olow (t : Nat) {P : Program} {L : Ln} {N : Nat} {c : Code} {Q : Exit → St → Prop} {E : List (Nat × AV)} {H : List (Nat × Option Blk)} {n i m T sz : Nat} {es : List (List RV)} (ht : get E t = .ol i m ∨ (get E t = .ow i ∧ m = es.length)) (hi : getH H i = some (.row T sz es)) (hm : m ≤ es.length) (hL : Nat.ble L.n n = true) (hloc : (Nat.blt i L.m || Nat.ble L.n i) = true)
    (h : awp P L N c Q ⟨(t, .ow n) :: E, (n, some (.row T sz (es.take m))) :: (i, none) :: H, n + 1⟩) : awp P L N c Q ⟨E, H, n⟩ := by
  intro C h1 h2 h3 a w ⟨Z, S⟩
  have hD : ∀ i, (fun i => i < (⟨E, H, n⟩ : St).nx) i → i ≠ n := fun i hi e => by subst e; exact absurd hi (Nat.lt_irrefl _)
  have hne : ∀ i b, getH H i = some b → i ≠ n := fun i b hi => hD i (S.holds i b hi).2.1
  have hin := hne i _ hi
  obtain ⟨v, hv⟩ : ∃ v, v = a.tmps.getD t undef := ⟨_, rfl⟩
  have hheld := (S.holds i _ hi).1
  -- the slot's value: its block is that of i; and it is a row
  have hval : (v = Z i ∧ m = es.length) ∨ (∃ g m' cap, Z i = .slice (some ⟨g, 0, none⟩) m' cap ∧ v = .slice (some ⟨g, 0, none⟩) m cap) := by
    have := S.slots t
    rw [← hv] at this
    rcases ht with ht | ⟨ht, hml⟩
    · rw [show St.envF ⟨E, H, n⟩ t = get E t from rfl, ht, AV.rep] at this
      exact .inr this
    · rw [show St.envF ⟨E, H, n⟩ t = get E t from rfl, ht, AV.rep] at this
      exact .inl ⟨this, hml⟩
  have hblk : ∀ x, blk v = some x → blk (Z i) = some x := by
    intro x hx
    rcases hval with ⟨e, _⟩ | ⟨g, m', cap, e1, e2⟩
    · rw [← e]; exact hx
    · rw [e1]; rw [e2] at hx; exact hx
  let Z' : Nat → Value := fun j => if j = n then v else Z j
  have hz : ∀ j, j ≠ n → Z' j = Z j := fun j hj => if_neg hj
  have hzn : Z' n = v := if_pos rfl
  have hH : ∀ j, St.HF ⟨(t, .ow n) :: E, (n, some (.row T sz (es.take m))) :: (i, none) :: H, n + 1⟩ j = if n = j then some (.row T sz (es.take m)) else if i = j then none else getH H j := fun j => by
    show getH _ j = _
    rw [getH_cons, getH_cons]
  have hB : ∀ x, x < w.heap.size → Own C (St.HF ⟨(t, .ow n) :: E, (n, some (.row T sz (es.take m))) :: (i, none) :: H, n + 1⟩) Z' x → Own C (getH H) Z x := by
    rintro x _ (h0 | ⟨j, b, hj, hb⟩)
    · exact .inl h0
    · rw [hH] at hj
      split at hj
      · rename_i e; subst e; rw [hzn] at hb; exact .inr ⟨i, _, hi, hblk x hb⟩
      · split at hj
        · cases hj
        · rename_i e e2; rw [hz j (fun h => e h.symm)] at hb; exact .inr ⟨j, b, hj, hb⟩
  have hnew : held Z' (Own C (St.HF ⟨(t, .ow n) :: E, (n, some (.row T sz (es.take m))) :: (i, none) :: H, n + 1⟩) Z') w n (.row T sz (es.take m)) := by
    obtain ⟨us, ⟨o1, o2⟩, k2, k3⟩ := hheld
    have hfl := flatten_drop_take sz es k3 m
    refine ⟨us.take (m * sz), ?_, ?_, fun e he => k3 e (List.mem_of_mem_take he)⟩
    · rw [hzn, List.length_take, Nat.min_eq_left hm]
      refine ⟨by rw [List.length_take, o1]; exact Nat.min_eq_left (Nat.mul_le_mul_right _ hm), ?_⟩
      rcases hval with ⟨e, hml⟩ | ⟨g, m', cap, e1, e2⟩
      · rcases o2 with ⟨e3, e4⟩ | ⟨g, cap, cur, e3, e4, e5, e6, e7, e8, e9⟩
        · exact .inl ⟨e.trans e3, by omega⟩
        · refine .inr ⟨g, cap, cur, by rw [e, e3, hml], e4, e5, by omega, e7, e8, ?_⟩
          rw [← e9, List.take_take, Nat.min_eq_left (Nat.mul_le_mul_right _ hm)]
      · rcases o2 with ⟨e3, e4⟩ | ⟨g', cap', cur, e3, e4, e5, e6, e7, e8, e9⟩
        · rw [e3] at e1; cases e1
        · rw [e3] at e1
          injection e1 with e1 e1' e1''
          injection e1 with e1
          injection e1 with e1
          subst e1 e1''
          refine .inr ⟨g', cap', cur, e2, e4, e5, by omega, e7, e8, ?_⟩
          rw [← e9, List.take_take, Nat.min_eq_left (Nat.mul_le_mul_right _ hm)]
    · rw [hfl.2]
      exact (k2.take _).mono (Upto.refl _) hB
  refine h C h1 h2 h3 a w ⟨Z', S.size, S.defers, S.frame, S.m0, fun u => ?_, fun u q hq => ?_, fun j b hj => ?_, fun j j' b c hj hj' hjj x hx => ?_, fun j b x hj hx => ?_, S.lm, fun q hq => ?_⟩
  · show (get ((t, .ow n) :: E) u).rep _ _ _ _
    by_cases hu : t = u
    · subst hu
      have e : get ((t, AV.ow n) :: E) t = .ow n := by simp [get]
      rw [e, AV.rep, hzn, hv]
    · have e : get ((t, AV.ow n) :: E) u = get E u := by
        have : Nat.beq t u = false := by cases hb : Nat.beq t u with
          | false => rfl
          | true => exact absurd (Nat.eq_of_beq_eq_true hb) hu
        simp [get, this]
      rw [e]
      exact AV.rep_mono (Upto.refl _) hB _ (fun i hi => hz i (hD i (S.ids u i hi))) _ (S.slots u)
  · by_cases hu : t = u
    · subst hu
      have e : St.envF ⟨(t, AV.ow n) :: E, (n, some (.row T sz (es.take m))) :: (i, none) :: H, n + 1⟩ t = .ow n := by simp [St.envF, get]
      rw [e] at hq
      have : q = n := by simpa [AV.ids] using hq
      subst this
      exact Nat.lt_succ_self _
    · have e : St.envF ⟨(t, AV.ow n) :: E, (n, some (.row T sz (es.take m))) :: (i, none) :: H, n + 1⟩ u = get E u := by
        have : Nat.beq t u = false := by cases hb : Nat.beq t u with
          | false => rfl
          | true => exact absurd (Nat.eq_of_beq_eq_true hb) hu
        simp [St.envF, get, this]
      rw [e] at hq
      exact Nat.lt_succ_of_lt (S.ids u q hq)
  · rw [hH] at hj
    split at hj
    · rename_i e
      subst e
      injection hj with hj
      subst hj
      exact ⟨hnew, Nat.lt_succ_self _, fun q hq => by simp [Blk.ids] at hq⟩
    · split at hj
      · cases hj
      · obtain ⟨g1, g2, g3⟩ := S.holds j b hj
        exact ⟨g1.keep (Upto.refl _) hB (hz j (hne j b hj)) (fun q hq => hz q (hD q (g3 q hq))) (fun _ _ => rfl), Nat.lt_succ_of_lt g2, fun q hq => Nat.lt_succ_of_lt (g3 q hq)⟩
  · rw [hH] at hj hj'
    split at hj
    · rename_i e
      subst e
      rw [hzn] at hx
      split at hj'
      · rename_i e; exact absurd e hjj
      · split at hj'
        · cases hj'
        · rename_i e e2
          rw [hz j' (hne j' c hj')]
          exact S.dist i j' _ c hi hj' e2 x (hblk x hx)
    · split at hj
      · cases hj
      · rename_i e0 e2
        rw [hz j (hne j b hj)] at hx
        split at hj'
        · rename_i e
          subst e
          rw [hzn]
          intro hx'
          exact S.dist j i b _ hj hi (fun h => e2 h.symm) x hx (hblk x hx')
        · split at hj'
          · cases hj'
          · rw [hz j' (hne j' c hj')]
            exact S.dist j j' b c hj hj' hjj x hx
  · rw [hH] at hj
    split at hj
    · rename_i e
      subst e
      rw [hzn] at hx
      have hx' := hblk x hx
      rw [Bool.or_eq_true, blt_t, ble_t] at hloc
      rcases hloc with hl | hl
      · have hl' : i < C.ln.m := by rw [h2]; exact hl
        have := (S.zl i (Nat.lt_of_lt_of_le hl' S.lm)).1
        exact .inr (.inr ⟨i, hl', by rw [← this]; exact hx'⟩)
      · rcases S.fresh i _ x hi hx' with hf | hf
        · exfalso
          have hl' : C.nl ≤ i := by show C.ln.n ≤ i; rw [h2]; exact hl
          omega
        · exact .inr hf
    · split at hj
      · cases hj
      · rw [hz j (hne j b hj)] at hx
        exact S.fresh j b x hj hx
  · obtain ⟨g1, g2⟩ := S.zl q hq
    exact ⟨(hz q (hD q g2)).trans g1, Nat.lt_succ_of_lt g2⟩
section
variable {P : Program} {L : Ln} {N : Nat} {ops : Array Oper} {chk : List (Nat × Sp) → Bool} {Q : St → Prop} {S : St} {tr : List (Nat × Sp)} {l : List Oper} {d : Option Tmp} {ty : TypeId} {pos : String} {af : Array Edge} {g : Option (Nat × Bool)} {t t2 : TypeId} {x y : Operand}
theorem run_append_alike {t t2 : TypeId} (h1 : P.underlying t = some (.slice (P.elem t))) (h2 : P.underlying t2 = some (.slice (P.elem t2))) (u v : Value) (w : World) : (Builtin.append_ #[t, t2] ty #[u, v]).run P w = (Builtin.append_ #[t, t] ty #[u, v]).run P w := by
  cases u <;> simp [Builtin.append_, run_underlying h1, run_underlying h2]
/-- An append of a slice of another type with the same elements. -/
theorem w_alike (h1 : P.underlying t = some (.slice (P.elem t))) (h2 : P.underlying t2 = some (.slice (P.elem t2)))
    (h : wpA P L N ops chk Q (⟨d, .call { callee := .builtin .append, args := #[x, y], argTypes := #[t, t] }, ty, pos, af, g⟩ :: l) S tr) :
    wpA P L N ops chk Q (⟨d, .call { callee := .builtin .append, args := #[x, y], argTypes := #[t, t2] }, ty, pos, af, g⟩ :: l) S tr := by
  obtain ⟨sp, hs, hr⟩ := h
  refine ⟨sp, ⟨hs.dst, hs.want, fun hrun a w Z M hM ho hh hd => ?_, hs.skip, hs.sp⟩, hr⟩
  have := hs.ok hrun a w Z M hM ho hh hd
  unfold Exec at this ⊢
  have e : (execOp a.eval ⟨d, .call { callee := .builtin .append, args := #[x, y], argTypes := #[t, t2] }, ty, pos, af, g⟩).run P w = (execOp a.eval ⟨d, .call { callee := .builtin .append, args := #[x, y], argTypes := #[t, t] }, ty, pos, af, g⟩).run P w := by
    simp only [execOp, resolve, invoke, builtin, Sem.run_bind, Sem.run_pure, Result.andThen_ok, List.map_toArray, List.map_cons, List.map_nil, run_append_alike h1 h2]
  rw [e]
  exact this
end
theorem fill_congr (f g : Nat → Option (Nat × Nat)) : ∀ (vs : List (Nat × Value)) (us : Array Value), (∀ p ∈ vs, f p.1 = g p.1) → Instr.fill f us vs = Instr.fill g us vs
  | [], us, _ => rfl
  | (i, v) :: vs, us, h => by
    have h0 := h (i, v) (by simp)
    simp only at h0
    rw [Instr.fill, Instr.fill, h0]
    cases g i with
    | none => rfl
    | some q =>
      obtain ⟨off, size⟩ := q
      simp only
      split
      · rfl
      · exact fill_congr f g vs _ (fun p hp => h p (by simp [hp]))
/-- An array literal. -/
theorem p_buildarr {P : Program} {E : List (Nat × AV)} {H : Nat → Option Blk} {d : Option Tmp} {ty : TypeId} {pos : String} {af : Array Edge} {g : Option (Nat × Bool)} {t : TypeId} {n e sz : Nat} {zs : List Value} [hT : ArT P t n e sz] [hz : ZrT P t zs]
    {parts : Array (Nat × Operand)} {cs : List AV} (hf : fillA ((List.range n).map fun i => (i * sz, sz)) (zs.map fun u => .r (.v u)) (parts.toList.map fun p => (p.1, evA (get E) p.2)) = some cs) (ho : (parts.toList.all fun p => okPart [] (evA (get E) p.2)) = true) (hlt : (parts.toList.all fun p => Nat.blt p.1 n) = true) :
    ReadOk P ⟨d, .build t parts, ty, pos, af, g⟩ (get E) H [] (.ag cs) := by
  refine ⟨fun i b h => by simp at h, fun i hi => .inl ?_, fun a w Z M hr hh => ?_⟩
  · rw [AV.ids] at hi
    refine fillA_ids _ (fun i => ∃ t, i ∈ (get E t).ids) _ _ _ (fun i hi => by rw [idss_exact] at hi; cases hi) (fun p hp i hi => ?_) hf i hi
    obtain ⟨q, hq, rfl⟩ := List.mem_map.1 hp
    rcases ids_ev rfl i hi with h | ⟨_, _, h, _⟩
    · exact h
    · cases h
  · have h1 := hz.ok
    obtain ⟨tu, ts⟩ := ArT.und (P := P) (t := t) (n := n) (e := e) (sz := sz)
    cases hi : P.info? t with
    | none => rw [hi] at h1; cases h1
    | some it =>
      rw [hi] at h1
      simp only [Option.map_some, Option.some.injEq] at h1
      cases hzz : it.zero with
      | none => rw [hzz] at h1; cases h1
      | some z =>
        rw [hzz] at h1
        simp only [Option.map_some, Option.some.injEq] at h1
        obtain ⟨us', h3, h4⟩ := fill_rep (Z := Z) (B := M) (w := w) ((List.range n).map fun i => (i * sz, sz)) _ (parts.toList.map fun p => (p.1, a.eval p.2)) _ cs z.cells (by simp) (fun k p v hk hv => by
          rw [List.getElem?_map] at hk hv
          cases hq : parts.toList[k]? with
          | none => rw [hq] at hk; cases hk
          | some q =>
            rw [hq] at hk hv
            simp only [Option.map_some, Option.some.injEq] at hk hv
            subst hk hv
            have hmem := List.mem_of_getElem? hq
            refine ⟨rfl, part_rep (List.all_eq_true.1 ho q hmem) hh (hr q.2 ?_)⟩
            show q.2 ∈ ((parts.toList.map (·.2)).toArray).toList
            simp only [List.toList_toArray]
            exact List.mem_map.2 ⟨q, hmem, rfl⟩) (by rw [h1]; exact reps_exact zs) hf
        have hcg : Instr.fill (fun i => some (i * sz, sz)) z.cells (parts.toList.map fun p => (p.1, a.eval p.2)) = some us' := by
          rw [← h3]
          refine fill_congr _ _ _ _ fun p hp => ?_
          obtain ⟨q, hq, rfl⟩ := List.mem_map.1 hp
          have := blt_t.1 (List.all_eq_true.1 hlt q hq)
          simp [this]
        have hsz := run_sizeOf (P := P) ts w
        have hzv : (zeroValue t).run P w = .ok z w := by simp [zeroValue, typeInfo, hi, hzz]
        have he : (parts.map fun (i, x) => (i, a.eval x)) = parts.map fun p => (p.1, a.eval p.2) := rfl
        have hb : (Instr.build t (parts.map fun p => (p.1, a.eval p.2))).run P w = .ok (.agg us') w := by
          simp only [Instr.build, Sem.run_bind, hzv, Result.andThen_ok, run_underlying tu, hsz, Array.toList_map, hcg, Sem.run_pure]
        refine ⟨.agg us', ?_, by rw [AV.rep]; exact ⟨us', rfl, h4⟩⟩
        simp only [execOp, he, Sem.run_bind, hb, Result.andThen_ok, Sem.run_pure]
end Go.Ab
