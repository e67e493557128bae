/- Texts of the second layer in one: Ab9 Ab10 Ab11 Ab12. -/
import Derived.Test.YtibedaeefnjjlaaGreatG5
import Derived.Maps.AppendAt
import Derived.Great.BuildSlice
/- The second layer: variables, structs, slices that are made, calls. No conditions. -/
namespace Go.Ab
open Go.RowKit
set_option linter.unusedVariables false
set_option linter.unusedSimpArgs false

/-! ## What is to be known of types -/
def slTB (P : Program) (t e sz b : Nat) : Bool :=
  (match P.underlying t with | some (.slice e') => Nat.beq e' e | _ => false) && (match P.info? e with | some i => Nat.beq i.size sz && Nat.beq i.bytes b && (match i.zero with | some z => Nat.beq z.cells.size sz | none => false) | none => false) && Nat.blt 0 sz && Nat.ble b 4096
class SlT (P : Program) (t : Nat) (e sz b : outParam Nat) : Prop where ok : slTB P t e sz b = true
def agTB (P : Program) (t n : Nat) : Bool := (match P.underlying t with | some d => isAggD d | none => false) && (match P.info? t with | some i => Nat.beq i.size n | none => false)
class AgT (P : Program) (t : Nat) (n : outParam Nat) : Prop where ok : agTB P t n = true
def onTB (P : Program) (t : Nat) : Bool := (match P.underlying t with | some d => !isAggD d | none => false) && (match P.info? t with | some i => Nat.beq i.size 1 | none => false)
class OnT (P : Program) (t : Nat) : Prop where ok : onTB P t = true
def fdTB (P : Program) (t i o : Nat) : Bool := match P.underlying t with | some (.struct fs) => (match fs[i]? with | some f => Nat.beq f.offset o && (match P.info? f.type with | some j => Nat.blt 0 j.size | none => false) | none => false) | _ => false
def fdTyB (P : Program) (t i ft : Nat) : Bool := match P.underlying t with | some (.struct fs) => (match fs[i]? with | some f => Nat.beq f.type ft | none => false) | _ => false
class FdT (P : Program) (t i : Nat) (o ft : outParam Nat) : Prop where
  ok : fdTB P t i o = true
  ty : fdTyB P t i ft = true
def arTB (P : Program) (t n e sz : Nat) : Bool := (match P.underlying t with | some (.array n' e') => Nat.beq n' n && Nat.beq e' e | _ => false) && (match P.info? e with | some i => Nat.beq i.size sz | none => false)
class ArT (P : Program) (t : Nat) (n e sz : outParam Nat) : Prop where ok : arTB P t n e sz = true
class ZrT (P : Program) (t : Nat) (cs : outParam (List Value)) : Prop where
  ok : (P.info? t).map (fun i => i.zero.map (·.cells)) = some (some cs.toArray)
  one : cs.all (·.oneCell') = true

theorem SlT.und {P : Program} {t e sz b : Nat} [h : SlT P t e sz b] : P.underlying t = some (.slice e) := by
  have := h.ok
  unfold slTB at this
  simp only [Bool.and_eq_true] at this
  have h1 := this.1.1.1
  split at h1
  · rename_i e' he; rw [he, Nat.eq_of_beq_eq_true h1]
  · cases h1
theorem SlT.pos {P : Program} {t e sz b : Nat} [h : SlT P t e sz b] : 0 < sz := by
  have := h.ok
  unfold slTB at this
  simp only [Bool.and_eq_true] at this
  exact blt_t.1 this.1.2
theorem SlT.inf {P : Program} {t e sz b : Nat} [h : SlT P t e sz b] : ∃ i z, P.info? e = some i ∧ i.zero = some z ∧ i.size = sz ∧ i.bytes = b ∧ z.cells.size = sz := by
  have := h.ok
  unfold slTB at this
  simp only [Bool.and_eq_true] at this
  have h1 := this.1.1.2
  split at h1
  · rename_i i hi
    simp only [Bool.and_eq_true] at h1
    have h2 := h1.2
    split at h2
    · rename_i z hz
      exact ⟨i, z, hi, hz, Nat.eq_of_beq_eq_true h1.1.1, Nat.eq_of_beq_eq_true h1.1.2, Nat.eq_of_beq_eq_true h2⟩
    · cases h2
  · cases h1
theorem SlT.small {P : Program} {t e sz b : Nat} [h : SlT P t e sz b] : b ≤ 4096 := by
  have := h.ok
  unfold slTB at this
  simp only [Bool.and_eq_true] at this
  exact Nat.le_of_ble_eq_true this.2
theorem AgT.und {P : Program} {t n : Nat} [h : AgT P t n] : ∃ d, P.underlying t = some d ∧ isAggD d = true := by
  have := h.ok
  unfold agTB at this
  rw [Bool.and_eq_true] at this
  have h1 := this.1
  split at h1
  · rename_i d hd; exact ⟨d, hd, h1⟩
  · cases h1
theorem AgT.size {P : Program} {t n : Nat} [h : AgT P t n] : (P.info? t).map (·.size) = some n := by
  have := h.ok
  unfold agTB at this
  rw [Bool.and_eq_true] at this
  have h1 := this.2
  split at h1
  · rename_i i hi; rw [hi]; exact congrArg some (Nat.eq_of_beq_eq_true h1)
  · cases h1
theorem OnT.und {P : Program} {t : Nat} [h : OnT P t] : ∃ d, P.underlying t = some d ∧ isAggD d = false := by
  have := h.ok
  unfold onTB at this
  rw [Bool.and_eq_true] at this
  have h1 := this.1
  split at h1
  · rename_i d hd; exact ⟨d, hd, by simpa using h1⟩
  · cases h1
theorem OnT.size {P : Program} {t : Nat} [h : OnT P t] : (P.info? t).map (·.size) = some 1 := by
  have := h.ok
  unfold onTB at this
  rw [Bool.and_eq_true] at this
  have h1 := this.2
  split at h1
  · rename_i i hi; rw [hi]; exact congrArg some (Nat.eq_of_beq_eq_true h1)
  · cases h1
theorem FdT.fld {P : Program} {t i o ft : Nat} [h : FdT P t i o ft] : ∃ fs f, P.underlying t = some (.struct fs) ∧ fs[i]? = some f ∧ f.offset = o ∧ f.type = ft ∧ ∃ j, P.info? f.type = some j ∧ j.size ≠ 0 := by
  have h1 := h.ok
  have h2 := h.ty
  unfold fdTB at h1
  unfold fdTyB at h2
  split at h1
  · rename_i fs hfs
    rw [hfs] at h2
    simp only at h2
    split at h1
    · rename_i f hf
      rw [hf] at h2
      simp only at h2
      rw [Bool.and_eq_true] at h1
      have h3 := h1.2
      split at h3
      · rename_i j hj
        exact ⟨fs, f, hfs, hf, Nat.eq_of_beq_eq_true h1.1, Nat.eq_of_beq_eq_true h2, j, hj, by have := blt_t.1 h3; omega⟩
      · cases h3
    · cases h1
  · cases h1
theorem ArT.und {P : Program} {t n e sz : Nat} [h : ArT P t n e sz] : P.underlying t = some (.array n e) ∧ (P.info? e).map (·.size) = some sz := by
  have := h.ok
  unfold arTB at this
  rw [Bool.and_eq_true] at this
  have h1 := this.1
  have h2 := this.2
  constructor
  · split at h1
    · rename_i n' e' he
      rw [Bool.and_eq_true] at h1
      rw [he, Nat.eq_of_beq_eq_true h1.1, Nat.eq_of_beq_eq_true h1.2]
    · cases h1
  · split at h2
    · rename_i i hi; rw [hi]; exact congrArg some (Nat.eq_of_beq_eq_true h2)
    · cases h2
theorem run_agg {P : Program} {t : TypeId} {d : TypeDesc} {b : Bool} (hu : P.underlying t = some d) (hd : isAggD d = b) (w : World) : (isAgg t).run P w = .ok b w := by
  simp only [isAgg, Sem.run_bind, run_underlying hu, Result.andThen_ok]
  cases d <;> simp_all [isAggD]

section
variable {P : Program} {env : Nat → AV} {H : Nat → Option Blk} {d : Option Tmp} {ty : TypeId} {pos : String} {af : Array Edge} {g : Option (Nat × Bool)}
variable {t : TypeId} {x y : Operand}

theorem p_extract {xs : List AV} {k : Nat} {out : AV} (hx : evA env x = .tu xs) (ho : xs[k]? = some out) : ReadOk P ⟨d, .extract x k, ty, pos, af, g⟩ env H [] out := by
  refine ⟨fun i b h => by simp at h, fun i hi => ids_ev hx i (by rw [AV.ids]; exact idss_mem (List.mem_of_getElem? ho) hi), fun a w Z M hr _ => ?_⟩
  have h1 := hr x (by simp [Op.operands])
  rw [hx, AV.rep] at h1
  obtain ⟨us, h2, h3⟩ := h1
  obtain ⟨u, h4, h5⟩ := AV.reps_get h3 ho
  refine ⟨u, ?_, h5⟩
  have h4' : us[k]? = some u := by simpa using h4
  simp only [execOp, h2, Instr.extract, h4', Sem.run_bind, Sem.run_pure, Result.andThen_ok]
/-- A field's address: in what is only read, in a variable, in an element of an own slice. -/
theorem run_fieldAt {P : Program} {t i o ft : Nat} [FdT P t i o ft] (ad : Addr) (w : World) : (Instr.fieldAt t (.pointer (some ad)) i).run P w = .ok (.pointer (some (ad.add o))) w := by
  obtain ⟨fs, f, h1, h2, h3, h4, j, h5, h6⟩ := FdT.fld (P := P) (t := t) (i := i) (o := o) (ft := ft)
  have hs : (sizeOf f.type).run P w = .ok j.size w := by simp [sizeOf, typeInfo, h5]
  simp only [Instr.fieldAt, Sem.run_bind, run_underlying h1, Result.andThen_ok, h2, Instr.sureAddr, Sem.run_pure, fieldPlace, hs, if_neg h6, h3]
theorem p_faddr_rp {i o ft : Nat} {cs : List RV} [FdT P t i o ft] (hx : evA env x = .rp cs) : ReadOk P ⟨d, .fieldAddr t x i, ty, pos, af, g⟩ env H [] (.rp (cs.drop o)) := by
  refine ⟨fun i b h => by simp at h, fun i hi => by simp [AV.ids] at hi, fun a w Z M hr _ => ?_⟩
  have h1 := hr x (by simp [Op.operands])
  rw [hx, AV.rep] at h1
  obtain ⟨ad, h2, h3, h4, h5⟩ := h1
  refine ⟨.pointer (some (ad.add o)), ?_, ?_⟩
  · simp only [execOp, h2, Sem.run_bind, run_fieldAt, Result.andThen_ok, Sem.run_pure]
  · rw [AV.rep]
    refine ⟨_, rfl, by rw [add_block]; exact h3, by rw [add_block]; exact h4, ?_⟩
    rw [RV.row_add, Nat.add_comm]
    exact RV.row_drop h5 o
theorem add_mid (b o k : Nat) : (⟨b, o, none⟩ : Addr).add k = ⟨b, o + k, none⟩ := by unfold Addr.add; split <;> simp_all
theorem p_faddr_pt {i o ft j q : Nat} [FdT P t i o ft] (hx : evA env x = .pt j q) : ReadOk P ⟨d, .fieldAddr t x i, ty, pos, af, g⟩ env H [] (.pt j (q + o)) := by
  refine ⟨fun i b h => by simp at h, fun i hi => ids_ev hx i (by simpa [AV.ids] using hi), fun a w Z M hr _ => ?_⟩
  have h1 := hr x (by simp [Op.operands])
  rw [hx, AV.rep] at h1
  obtain ⟨b, h2, h3⟩ := h1
  refine ⟨.pointer (some ⟨b, q + o, none⟩), ?_, ?_⟩
  · simp only [execOp, h3, Sem.run_bind, run_fieldAt, Result.andThen_ok, Sem.run_pure, add_mid]
  · rw [AV.rep]; exact ⟨b, h2, rfl⟩
theorem p_faddr_pe {i o ft j sz k q : Nat} [FdT P t i o ft] (hx : evA env x = .pe j sz k q) : ReadOk P ⟨d, .fieldAddr t x i, ty, pos, af, g⟩ env H [] (.pe j sz k (q + o)) := by
  refine ⟨fun i b h => by simp at h, fun i hi => ids_ev hx i (by simpa [AV.ids] using hi), fun a w Z M hr _ => ?_⟩
  have h1 := hr x (by simp [Op.operands])
  rw [hx, AV.rep] at h1
  obtain ⟨b, h2, h3⟩ := h1
  refine ⟨.pointer (some ⟨b, k * sz + (q + o), none⟩), ?_, ?_⟩
  · simp only [execOp, h3, Sem.run_bind, run_fieldAt, Result.andThen_ok, Sem.run_pure, add_mid, Nat.add_assoc]
  · rw [AV.rep]; exact ⟨b, h2, rfl⟩

/-! ### Loads out of variables -/
theorem held_var {Z : Nat → Value} {M : Nat → Prop} {w : World} {j o T : Nat} {cs : List AV} {v : Value} (hh : held Z M w j (.var T cs)) (hp : ∃ b, blk (Z j) = some b ∧ v = .pointer (some ⟨b, o, none⟩)) :
    ∃ b us, Z j = .pointer (some ⟨b, 0, none⟩) ∧ v = .pointer (some ⟨b, o, none⟩) ∧ w.heap[b]? = some (.cells us T (0, 0)) ∧ AV.reps Z M w cs us.toList ∧ us.all (·.oneCell') = true := by
  obtain ⟨b, us, h1, h2⟩ := hh
  obtain ⟨b', h3, h4⟩ := hp
  rw [h1] at h3
  simp only [blk, Option.some.injEq] at h3
  subst h3
  exact ⟨b, us, h1, h4, h2⟩
theorem p_load_var {j o T : Nat} {cs : List AV} {c : AV} [OnT P t] (hx : evA env x = .pt j o) (hH : H j = some (.var T cs)) (hc : cs[o]? = some c) : ReadOk P ⟨d, .load t x, ty, pos, af, g⟩ env H [(j, .var T cs)] c := by
  refine ⟨fun i b h => ?_, fun i hi => .inr ⟨j, .var T cs, by simp, .inr (idss_mem (List.mem_of_getElem? hc) hi)⟩, fun a w Z M hr hh => ?_⟩
  · simp only [List.mem_cons, List.not_mem_nil, or_false] at h
    obtain ⟨rfl, rfl⟩ := h
    exact hH
  · have h1 := hr x (by simp [Op.operands])
    rw [hx, AV.rep] at h1
    obtain ⟨b, us, h2, h3, h4, h5, h6⟩ := held_var (hh j (.var T cs) (by simp)) h1
    obtain ⟨u, h7, h8⟩ := AV.reps_get h5 hc
    obtain ⟨D, hu, hD⟩ := OnT.und (P := P) (t := t)
    refine ⟨u, ?_, h8⟩
    have hcell : w.cell? ⟨b, o, none⟩ = some u := by rw [cell_of_row w b o us T (0, 0) h4]; simpa using h7
    simp only [execOp, h3, Instr.loadAt, Instr.sureAddr, Sem.run_bind, Sem.run_pure, Result.andThen_ok, run_loadVar_one w _ t D u hu hD hcell]
theorem idss_sub : ∀ {cs : List AV} {i o n : Nat}, i ∈ AV.idss ((cs.drop o).take n) → i ∈ AV.idss cs := by
  have h1 : ∀ (cs : List AV) (i : Nat), i ∈ AV.idss cs ↔ ∃ c ∈ cs, i ∈ c.ids := by
    intro cs i
    induction cs with
    | nil => simp [AV.idss]
    | cons c cs ih => simp [AV.idss, ih]
  intro cs i o n h
  obtain ⟨c, hc, hi⟩ := (h1 _ _).1 h
  exact (h1 _ _).2 ⟨c, List.mem_of_mem_drop (List.mem_of_mem_take hc), hi⟩
theorem reps_drop {Z : Nat → Value} {B : Nat → Prop} {w : World} : ∀ {cs : List AV} {us : List Value} (k : Nat), AV.reps Z B w cs us → AV.reps Z B w (cs.drop k) (us.drop k)
  | cs, us, 0, h => h
  | [], us, k + 1, h => by rw [AV.reps] at h; subst h; simpa using (show AV.reps Z B w [] [] by rw [AV.reps])
  | c :: cs, us, k + 1, h => by rw [AV.reps] at h; obtain ⟨u, us', rfl, _, h2⟩ := h; simpa using reps_drop k h2
theorem reps_take {Z : Nat → Value} {B : Nat → Prop} {w : World} : ∀ {cs : List AV} {us : List Value} (k : Nat), AV.reps Z B w cs us → AV.reps Z B w (cs.take k) (us.take k)
  | cs, us, 0, h => by simpa using (show AV.reps Z B w [] [] by rw [AV.reps])
  | [], us, k + 1, h => by rw [AV.reps] at h; subst h; simpa using (show AV.reps Z B w [] [] by rw [AV.reps])
  | c :: cs, us, k + 1, h => by
    rw [AV.reps] at h; obtain ⟨u, us', rfl, h1, h2⟩ := h
    rw [List.take_succ_cons, List.take_succ_cons, AV.reps]
    exact ⟨_, _, rfl, h1, reps_take k h2⟩
theorem p_load_vars {j o T n : Nat} {cs : List AV} [AgT P t n] (hx : evA env x = .pt j o) (hH : H j = some (.var T cs)) (hn : o + n ≤ cs.length) : ReadOk P ⟨d, .load t x, ty, pos, af, g⟩ env H [(j, .var T cs)] (.ag ((cs.drop o).take n)) := by
  refine ⟨fun i b h => ?_, fun i hi => .inr ⟨j, .var T cs, by simp, .inr (idss_sub (by rwa [AV.ids] at hi))⟩, fun a w Z M hr hh => ?_⟩
  · simp only [List.mem_cons, List.not_mem_nil, or_false] at h
    obtain ⟨rfl, rfl⟩ := h
    exact hH
  · have h1 := hr x (by simp [Op.operands])
    rw [hx, AV.rep] at h1
    obtain ⟨b, us, h2, h3, h4, h5, h6⟩ := held_var (hh j (.var T cs) (by simp)) h1
    obtain ⟨D, hu, hD⟩ := AgT.und (P := P) (t := t) (n := n)
    have hlen := AV.reps_len h5
    have h7 := reps_take n (reps_drop o h5)
    refine ⟨.agg ((us.toList.drop o).take n).toArray, ?_, by rw [AV.rep]; exact ⟨_, rfl, h7⟩⟩
    have hl : (loadCells ⟨b, o, none⟩ n).run P w = .ok ((us.toList.drop o).take n).toArray w := by
      have := run_loadCells_list (P := P) w ⟨b, o, none⟩ ((us.toList.drop o).take n) (fun k v hv => by
        rw [add_mid, cell_of_row w b (o + k) us T (0, 0) h4]
        rw [List.getElem?_take] at hv
        split at hv
        · rw [List.getElem?_drop] at hv; simpa using hv
        · cases hv)
      rwa [show ((us.toList.drop o).take n).length = n by rw [List.length_take, List.length_drop]; omega] at this
    simp only [execOp, h3, Instr.loadAt, Instr.sureAddr, loadVar, Sem.run_bind, Sem.run_pure, Result.andThen_ok, run_agg hu hD, run_sizeOf AgT.size, if_true, hl]
end
end Go.Ab

/- The second layer: what makes and turns own blocks. No conditions. -/
namespace Go.Ab
open Go.RowKit
set_option linter.unusedVariables false
set_option linter.unusedSimpArgs false

/-! ## New blocks -/
section
variable {P : Program} {L : Ln} {N : Nat} {ops : Array Oper} {chk : List (Nat × Sp) → Bool} {Q : St → Prop} {l : List Oper} {E : List (Nat × AV)} {H : List (Nat × Option Blk)} {n : Nat} {tr : List (Nat × Sp)}
variable {d : Nat} {ty : TypeId} {pos : String} {af : Array Edge} {g : Option (Nat × Bool)} {t : TypeId} {x y : Operand}

theorem mem_nil {α : Type} {x : α} {p : Prop} (h : x ∈ ([] : List α)) : p := by cases h

/-- A block is made: what is to be shown of its operation. -/
structure MakeOk (P : Program) (o : Oper) (env : Nat → AV) (H : Nat → Option Blk) (rd : List (Nat × Blk)) (k : Nat) (out : AV) (b : Blk) : Prop where
  rdH : ∀ i b, (i, b) ∈ rd → H i = some b
  outs : out.ids = [k]
  ids : ∀ i ∈ b.ids, (∃ t, i ∈ (env t).ids) ∨ ∃ j b', (j, b') ∈ rd ∧ (i = j ∨ i ∈ b'.ids)
  run : ∀ (a : Act) (w : World) (Z : Nat → Value) (M : Nat → Prop), (∀ x, M x → x < w.heap.size) → (∀ x ∈ o.op.operands.toList, (evA env x).rep Z M w (a.eval x)) → (∀ i b, (i, b) ∈ rd → held Z M w i b) →
    ∃ v z w', (execOp a.eval o).run P w = .ok (.value v) w' ∧ Below w.heap.size w w' ∧ (∀ q, blk z = some q → w.heap.size ≤ q) ∧
      ∀ Z', Z' k = z → (∀ i, i ≠ k → Z' i = Z i) → out.rep Z' (fun q => M q ∨ blk z = some q) w' v ∧ ((∀ i ∈ b.ids, i ≠ k) → held Z' (fun q => M q ∨ blk z = some q) w' k b)

theorem w_make {op : Op} {rd : List (Nat × Blk)} {out : AV} {b : Blk} (hd : Nat.blt d N = true) (hg : Wanted ops (get E) ⟨some d, op, ty, pos, af, g⟩ true) (hp : MakeOk P ⟨some d, op, ty, pos, af, g⟩ (get E) (getH H) rd n out b)
    (hid : (b.ids.all fun i => !Nat.beq i n) = true)
    (h : wpA P L N ops chk Q l ⟨(d, out) :: E, (n, some b) :: H, n + 1⟩ ((n, ⟨true, rd, out, [], [b]⟩) :: tr)) : wpA P L N ops chk Q (⟨some d, op, ty, pos, af, g⟩ :: l) ⟨E, H, n⟩ tr := by
  have hid' : ∀ i ∈ b.ids, i ≠ n := fun i hi e => by
    have := List.all_eq_true.1 hid i hi
    subst e
    simp at this
  refine ⟨⟨true, rd, out, [], [b]⟩, ⟨fun x hx => ?_, hg, fun _ a w Z M hM hx hr hdist => ?_, (fun h => by cases h), fun D hD hDH hf => ?_⟩, h⟩
  · injection hx with hx; subst hx; exact blt_t.1 hd
  · obtain ⟨v, z, w', h1, h2, h3, h4⟩ := hp.run a w Z M hM hx (fun i b hb => (hr i b hb).1)
    have hz1 : (fun i => if i = n then z else Z i) n = z := by simp
    obtain ⟨h5, h6⟩ := h4 (fun i => if i = n then z else Z i) hz1 (fun i hi => by simp [hi])
    have hN : ∀ q, New n ⟨true, rd, out, [], [b]⟩ (fun i => if i = n then z else Z i) M q → M q ∨ blk z = some q := by
      rintro q (h0 | ⟨j, hj, hq⟩)
      · exact .inl h0
      · have : j = 0 := by simpa using hj
        subst this
        exact .inr (by simpa using hq)
    refine exec_value h1 ⟨fun i => if i = n then z else Z i, fun i hi => ?_, AV.rep_mono (Upto.refl _) (fun q _ hq => hN q hq) _ (fun _ _ => rfl) _ h5, fun i b h => mem_nil h, fun j c hj => ?_, fun j j' q hj hj' hne => ?_, fun j q hj hq => .inl ?_, (Upto.of_below h2)⟩
    · have : i ≠ n := by simp at hi; omega
      simp [this]
    · have hj0 : j = 0 := by
        cases j with
        | zero => rfl
        | succ j => simp at hj
      subst hj0
      have : c = b := by simpa using hj.symm
      subst this
      exact (h6 hid').anti fun q _ hq => hN q hq
    · simp at hj hj'; omega
    · have : j = 0 := by simpa using hj
      subst this
      exact h3 q (by simpa using hq)
  · refine ⟨hp.rdH, fun i o h => mem_nil h, fun i o h => mem_nil h, fun i h => mem_nil h, hf, fun i hi => .inr ?_, fun c hc i hi => .inl ?_, fun i b h => mem_nil h⟩
    · rw [show (⟨true, rd, out, [], [b]⟩ : Sp).out = out from rfl, hp.outs] at hi
      simp at hi; subst hi; simp
    · have : c = b := by simpa using hc
      subst this
      rcases hp.ids i hi with ⟨t, ht⟩ | ⟨j, b', hj, hij⟩
      · exact hD t i ht
      · have := hDH j b' (hp.rdH j b' hj)
        rcases hij with rfl | hij
        · exact this.1
        · exact this.2 i hij

theorem heap_new (w : World) (o : Obj) : (w.alloc o).heap[w.heap.size]? = some o := heap_alloc_new _ _
theorem reps_exact {Z : Nat → Value} {B : Nat → Prop} {w : World} : ∀ (us : List Value), AV.reps Z B w (us.map fun u => .r (.v u)) us
  | [] => by rw [List.map_nil, AV.reps]
  | u :: us => by rw [List.map_cons, AV.reps]; exact ⟨u, us, rfl, by rw [AV.rep, RV.rep], reps_exact us⟩
theorem idss_exact : ∀ (us : List Value), AV.idss (us.map fun u => .r (.v u)) = []
  | [] => rfl
  | u :: us => by rw [List.map_cons, AV.idss, idss_exact us]; rfl

theorem m_alloc {cs : List Value} [hz : ZrT P t cs] {o : Option Tmp} {env : Nat → AV} {HF : Nat → Option Blk} {k : Nat} : MakeOk P ⟨o, .alloc t, ty, pos, af, g⟩ env HF [] k (.pt k 0) (.var t (cs.map fun u => .r (.v u))) := by
  refine ⟨fun i b h => mem_nil h, by simp [AV.ids], fun i hi => by rw [Blk.ids, idss_exact] at hi; exact mem_nil hi, fun a w Z M hM hx _ => ?_⟩
  have h1 := hz.ok
  cases hi : P.info? t with
  | none => rw [hi] at h1; cases h1
  | some i =>
    rw [hi] at h1
    simp only [Option.map_some, Option.some.injEq] at h1
    cases hzz : i.zero with
    | none => rw [hzz] at h1; cases h1
    | some z =>
      rw [hzz] at h1
      simp only [Option.map_some, Option.some.injEq] at h1
      refine ⟨.pointer (some ⟨w.heap.size, 0, none⟩), .pointer (some ⟨w.heap.size, 0, none⟩), w.alloc (.cells z.cells t), ?_, (Below.refl _ _).alloc (Nat.le_refl _) _, fun q hq => by simp [blk] at hq; omega, fun Z' hz' _ => ⟨?_, fun _ => ?_⟩⟩
      · simp [execOp, Instr.alloc, zeroValue, typeInfo, hi, hzz, newVar, newRow]
      · rw [AV.rep, hz']; exact ⟨_, rfl, rfl⟩
      · refine ⟨w.heap.size, z.cells, hz', heap_new _ _, ?_, ?_⟩
        · rw [h1]; exact reps_exact cs
        · rw [h1]
          have := hz.one
          simpa using this

/-- The cells of a value. -/
def cellsA : AV → List AV
  | .ag cs => cs
  | x => [x]
/-- A value that may be stored: no new slice, nothing unknown. -/
def valB : AV → Bool
  | .ag _ => true
  | .r (.v x) => x.oneCell'
  | .r _ => true
  | .pt _ _ => true
  | .pe _ _ _ _ => true
  | .rp _ => true
  | _ => false
theorem cells_rep {Z : Nat → Value} {B : Nat → Prop} {w : World} {x : AV} {v : Value} (hx : x.rep Z B w v) (h : valB x = true) : AV.reps Z B w (cellsA x) v.cells.toList ∧ ((∀ cs, x ≠ .ag cs) → v.cells = #[v] ∧ v.oneCell' = true) := by
  have one : ∀ c : AV, c.rep Z B w v → v.cells = #[v] → AV.reps Z B w [c] v.cells.toList := fun c hc he => by
    rw [he, AV.reps]; exact ⟨v, [], rfl, hc, by rw [AV.reps]⟩
  cases x with
  | ag cs => rw [AV.rep] at hx; obtain ⟨us, rfl, h2⟩ := hx; exact ⟨h2, fun h => absurd rfl (h cs)⟩
  | r c =>
    cases c with
    | v x =>
      have hx' := hx
      rw [AV.rep, RV.rep] at hx
      subst hx
      have he : v.cells = #[v] := by simp only [valB] at h; cases v <;> first | rfl | (simp [Value.oneCell'] at h)
      exact ⟨one _ hx' he, fun _ => ⟨he, h⟩⟩
    | sl sz es =>
      have hx' := hx
      rw [AV.rep, RV.rep] at hx
      obtain ⟨A, c, rfl, _⟩ := hx
      exact ⟨one _ hx' rfl, fun _ => ⟨rfl, rfl⟩⟩
  | rp cs => have hx' := hx; rw [AV.rep] at hx; obtain ⟨ad, rfl, _⟩ := hx; exact ⟨one _ hx' rfl, fun _ => ⟨rfl, rfl⟩⟩
  | pt i o => have hx' := hx; rw [AV.rep] at hx; obtain ⟨b, _, rfl⟩ := hx; exact ⟨one _ hx' rfl, fun _ => ⟨rfl, rfl⟩⟩
  | pe i sz k f => have hx' := hx; rw [AV.rep] at hx; obtain ⟨b, _, rfl⟩ := hx; exact ⟨one _ hx' rfl, fun _ => ⟨rfl, rfl⟩⟩
  | ow i => cases h
  | tu xs => cases h
  | fr _ _ _ => cases h
  | na => cases h
  | ol _ _ => cases h
  | sv _ _ => cases h
  | so _ _ _ _ => cases h
  | cl _ _ => cases h
/-- That the cells of a struct are single cells. -/
def onesB : List AV → Bool
  | [] => true
  | .ag _ :: _ => false
  | c :: cs => valB c && onesB cs
theorem ones_rep {Z : Nat → Value} {B : Nat → Prop} {w : World} : ∀ {cs : List AV} {us : List Value}, onesB cs = true → AV.reps Z B w cs us → us.all (·.oneCell') = true
  | [], us, _, h => by rw [AV.reps] at h; subst h; rfl
  | c :: cs, us, h, hr => by
    rw [AV.reps] at hr
    obtain ⟨u, us', rfl, h1, h2⟩ := hr
    have hc : valB c = true ∧ onesB cs = true ∧ ∀ ds, c ≠ .ag ds := by
      cases c <;> simp_all [onesB]
    rw [List.all_cons, ((cells_rep h1 hc.1).2 hc.2.2).2, ones_rep hc.2.1 h2]
    rfl
theorem cellsA_one {x : AV} (h1 : onesB (cellsA x) = true) : valB x = true := by
  cases x <;> simp_all [cellsA, onesB, valB]
theorem all_arr (us : Array Value) : us.all (·.oneCell') = us.toList.all (·.oneCell') := by simp
theorem idss_cells {x : AV} : ∀ i, i ∈ AV.idss (cellsA x) → i ∈ x.ids := by
  intro i hi
  cases x <;> simp_all [cellsA, AV.idss, AV.ids]

/-- A value gets a block of its own. -/
theorem m_box {o : Option Tmp} {E : List (Nat × AV)} {HF : Nat → Option Blk} {k : Nat} {x : Operand} {a : AV} (hx : evA (get E) x = a) (h1 : onesB (cellsA a) = true) : MakeOk P ⟨o, .box t x, ty, pos, af, g⟩ (get E) HF [] k (.pt k 0) (.var t (cellsA a)) := by
  refine ⟨fun i b h => mem_nil h, by simp [AV.ids], fun i hi => ?_, fun ac w Z M hM hr _ => ?_⟩
  · rcases ids_ev hx i (idss_cells i hi) with h | ⟨_, _, h, _⟩
    · exact .inl h
    · exact mem_nil h
  · have h2 := hr x (by simp [Op.operands])
    rw [hx] at h2
    have hv := cellsA_one h1
    refine ⟨.pointer (some ⟨w.heap.size, 0, none⟩), .pointer (some ⟨w.heap.size, 0, none⟩), w.alloc (.cells (ac.eval x).cells t), ?_, (Below.refl _ _).alloc (Nat.le_refl _) _, fun q hq => by simp [blk] at hq; omega, fun Z' hz' hzo => ⟨?_, fun hids => ?_⟩⟩
    · simp [execOp, Instr.box, newVar, newRow]
    · simp only [AV.rep, hz']; exact ⟨_, rfl, rfl⟩
    · have h3 : a.rep Z' (fun q => M q ∨ blk (.pointer (some ⟨w.heap.size, 0, none⟩)) = some q) (w.alloc (.cells (ac.eval x).cells t)) (ac.eval x) := by
        refine AV.rep_mono (Upto.alloc (M := M) w _) (fun q hq hb => ?_) a (fun i hi => hzo i (hids i ?_)) _ h2
        · rcases hb with hb | hb
          · exact hb
          · simp [blk] at hb; omega
        · cases a <;> simp_all [cellsA, AV.idss, AV.ids, Blk.ids]
      obtain ⟨h4, _⟩ := cells_rep h3 hv
      exact ⟨w.heap.size, _, hz', heap_new _ _, h4, by rw [all_arr]; exact ones_rep h1 h4⟩
end
end Go.Ab

/- The second layer: stores, slice literals, appends, cuts. No conditions. -/
namespace Go.Ab
open Go.RowKit
set_option linter.unusedVariables false
set_option linter.unusedSimpArgs false

/-- The cells from o on are others. -/
def setA {α : Type} (cs : List α) (o : Nat) (ds : List α) : List α := cs.take o ++ ds ++ cs.drop (o + ds.length)
theorem setA_len {α : Type} (cs : List α) (o : Nat) (ds : List α) (h : o + ds.length ≤ cs.length) : (setA cs o ds).length = cs.length := by simp [setA]; omega
theorem setA_nil {α : Type} (cs : List α) (o : Nat) : setA cs o [] = cs := by simp [setA]
theorem setA_cons {α : Type} (cs : List α) (o : Nat) (d : α) (ds : List α) (h : o < cs.length) : setA (cs.set o d) (o + 1) ds = setA cs o (d :: ds) := by
  unfold setA
  rw [List.take_set, List.drop_set, if_pos (by omega)]
  have e1 : (cs.take (o + 1)).set o d = cs.take o ++ [d] := by
    apply List.ext_getElem?
    intro k
    rw [List.getElem?_set]
    by_cases hk : o = k
    · subst hk
      rw [if_pos rfl, List.length_take, if_pos (by omega), List.getElem?_append_right (by rw [List.length_take]; omega), List.length_take, show o - min o cs.length = 0 by omega]
      rfl
    · rw [if_neg hk]
      rcases Nat.lt_or_ge k o with h1 | h1
      · rw [List.getElem?_append_left (by simp; omega), List.getElem?_take, List.getElem?_take, if_pos (by omega), if_pos h1]
      · rw [List.getElem?_append_right (by simp; omega), List.getElem?_take, if_neg (by omega)]
        simp
        omega
  rw [e1]
  simp [Nat.add_assoc, Nat.add_comm 1]

theorem run_stores {P : Program} {b o T : Nat} : ∀ (vs : List Value) (i : Nat) (us : Array Value) (w : World), w.heap[b]? = some (.cells us T (0, 0)) → o + i + vs.length ≤ us.size → vs.all (·.oneCell') = true →
    ∃ w' us', (storeCells ⟨b, o, none⟩ vs i).run P w = .ok () w' ∧ w'.heap[b]? = some (.cells us' T (0, 0)) ∧ us'.toList = setA us.toList (o + i) vs ∧ Upto (fun q => q = b) w w'
  | [], i, us, w, hg, hl, h1 => ⟨w, us, rfl, hg, (setA_nil _ _).symm, Upto.refl _⟩
  | v :: vs, i, us, w, hg, hl, h1 => by
    rw [List.all_cons, Bool.and_eq_true] at h1
    simp only [List.length_cons] at hl
    have hc : w.cell? ⟨b, o + i, none⟩ = some us[o + i] := by rw [cell_of_row w b (o + i) us T (0, 0) hg]; simp
    have hf : w.frozen? ⟨b, o + i, none⟩ = false := frozen_of_row w b (o + i) us T hg
    have hst : (store (⟨b, o + i, none⟩ : Addr) v).run P w = .ok () (w.setCell ⟨b, o + i, none⟩ v) := by
      rw [run_store P w _ v .plain h1.1]
      simp [stored, hc, hf]
    have hg2 := heap_setCell_same w b (o + i) us T v hg
    obtain ⟨w', us', h2, h3, h4, h5⟩ := run_stores (P := P) (b := b) (o := o) (T := T) vs (i + 1) (us.setIfInBounds (o + i) v) _ hg2 (by simp; omega) h1.2
    refine ⟨w', us', ?_, h3, ?_, ?_⟩
    · rw [storeCells]
      simp only [add_mid, Sem.run_bind, hst, Result.andThen_ok]
      exact h2
    · rw [h4, Array.toList_setIfInBounds, show o + (i + 1) = o + i + 1 by omega]
      exact setA_cons _ _ _ _ (by simp; omega)
    · refine Upto.trans (w := w.setCell ⟨b, o + i, none⟩ v) ⟨rfl, rfl, rfl, by simp [World.setCell], fun k hk hne => ?_⟩ h5
      exact Below.heap_setCell w ⟨b, o + i, none⟩ v k hne

theorem reps_append {Z : Nat → Value} {B : Nat → Prop} {w : World} : ∀ {cs ds : List AV} {us vs : List Value}, AV.reps Z B w cs us → AV.reps Z B w ds vs → AV.reps Z B w (cs ++ ds) (us ++ vs)
  | [], ds, us, vs, h, k => by rw [AV.reps] at h; subst h; simpa using k
  | c :: cs, ds, us, vs, h, k => by
    rw [AV.reps] at h
    obtain ⟨u, us', rfl, h1, h2⟩ := h
    rw [List.cons_append, AV.reps]
    exact ⟨u, us' ++ vs, rfl, h1, reps_append h2 k⟩
theorem idss_mem_iff {cs : List AV} {i : Nat} : i ∈ AV.idss cs ↔ ∃ c ∈ cs, i ∈ c.ids := by
  induction cs with
  | nil => simp [AV.idss]
  | cons c cs ih => simp [AV.idss, ih]
theorem ones_all {Z : Nat → Value} {B : Nat → Prop} {w : World} {a : AV} {v : Value} (h1 : onesB (cellsA a) = true) (hv : a.rep Z B w v) : v.cells.toList.all (·.oneCell') = true := ones_rep h1 (cells_rep hv (cellsA_one h1)).1

section
variable {P : Program} {L : Ln} {N : Nat} {ops : Array Oper} {chk : List (Nat × Sp) → Bool} {Q : St → Prop} {l : List Oper} {E : List (Nat × AV)} {H : List (Nat × Option Blk)} {n : Nat} {tr : List (Nat × Sp)}
variable {d : Nat} {ty : TypeId} {pos : String} {af : Array Edge} {g : Option (Nat × Bool)} {t : TypeId} {x y : Operand}

/-- A store into a variable. -/
theorem w_store {j o T m : Nat} {cs : List AV} {a : AV} (hx : evA (get E) x = .pt j o) (hy : evA (get E) y = a) (hH : getH H j = some (.var T cs)) (h1 : onesB (cellsA a) = true) (hs : (P.info? t).map (·.size) = some m) (hm : (cellsA a).length = m) (hn : Nat.ble (o + m) cs.length = true)
    (hg : Wanted ops (get E) ⟨none, .store t x y, ty, pos, af, g⟩ true)
    (h : wpA P L N ops chk Q l ⟨E, (j, some (.var T (setA cs o (cellsA a)))) :: H, n⟩ ((n, ⟨true, [(j, .var T cs)], .r (.v undef), [(j, some (.var T (setA cs o (cellsA a))))], []⟩) :: tr)) :
    wpA P L N ops chk Q (⟨none, .store t x y, ty, pos, af, g⟩ :: l) ⟨E, H, n⟩ tr := by
  have hn := ble_t.1 hn
  refine ⟨⟨true, [(j, .var T cs)], .r (.v undef), [(j, some (.var T (setA cs o (cellsA a))))], []⟩, ⟨(fun x hx => by cases hx), hg, fun _ ac w Z M hM hr hh hdist => ?_, (fun h => by cases h), fun D hD hDH hf => ?_⟩, h⟩
  · have hxr : (evA (get E) x).rep Z M w (ac.eval x) := hr x (by simp [Op.operands])
    have hyr : (evA (get E) y).rep Z M w (ac.eval y) := hr y (by simp [Op.operands])
    rw [hx, AV.rep] at hxr
    rw [hy] at hyr
    obtain ⟨hheld, hMj⟩ := hh j (.var T cs) (by simp)
    obtain ⟨b, us, h2, h3, h4, h5, h6⟩ := held_var hheld hxr
    have hcr := (cells_rep hyr (cellsA_one h1)).1
    have hlen := AV.reps_len h5
    have hlen2 := AV.reps_len hcr
    simp only [Array.length_toList] at hlen hlen2
    have hall := ones_all h1 hyr
    obtain ⟨w', us', h7, h8, h9, h10⟩ := run_stores (P := P) (b := b) (o := o) (T := T) (ac.eval y).cells.toList 0 us w h4 (by simp; omega) hall
    have hsz : (sizeOf t).run P w = .ok (ac.eval y).cells.size w := by rw [run_sizeOf hs]; congr 1; omega
    have hex : (execOp ac.eval ⟨none, .store t x y, ty, pos, af, g⟩).run P w = .ok .skip w' := by
      have : (storeVar t ⟨b, o, none⟩ (ac.eval y)).run P w = .ok () w' := by
        simp only [storeVar, Sem.run_bind, hsz, Result.andThen_ok]
        simp [h7]
      simp only [execOp, h3, Instr.storeAt, Instr.sureAddr, Sem.run_bind, Sem.run_pure, Result.andThen_ok, this]
    have hU : Upto M w w' := h10.mono fun q _ hq => by subst hq; exact hMj _ (by rw [h2]; rfl)
    have hNew : ∀ q, New n ⟨true, [(j, .var T cs)], .r (.v undef), [(j, some (.var T (setA cs o (cellsA a))))], []⟩ Z M q → M q := fun q hq => new_nil rfl hq
    refine exec_skip hex ⟨Z, fun _ _ => rfl, by rw [AV.rep, RV.rep], fun i c hi => ?_, fun j b h => by simp at h, fun j j' x h => by simp at h, fun j x h => by simp at h, ?_⟩
    · simp only [List.mem_cons, List.not_mem_nil, or_false, Prod.mk.injEq, Option.some.injEq] at hi
      obtain ⟨rfl, rfl⟩ := hi
      refine ⟨b, us', h2, h8, ?_, ?_⟩
      · rw [h9, Nat.add_zero]
        have m1 := AV.reps_mono hU (fun q _ hq => hNew q hq) cs (fun _ _ => rfl) _ h5
        have m2 := AV.reps_mono hU (fun q _ hq => hNew q hq) (cellsA a) (fun _ _ => rfl) _ hcr
        unfold setA
        rw [show (ac.eval y).cells.toList.length = (cellsA a).length by simp; omega]
        exact reps_append (reps_append (reps_take o m1) m2) (reps_drop _ m1)
      · rw [all_arr, h9]
        unfold setA
        rw [all_arr] at h6
        rw [List.all_append, List.all_append, hall]
        simp only [List.all_eq_true] at h6 ⊢
        simp only [Bool.and_true, Bool.and_eq_true, List.all_eq_true]
        exact ⟨fun u hu => h6 u (List.mem_of_mem_take hu), fun u hu => h6 u (List.mem_of_mem_drop hu)⟩
    · refine h10.mono fun q _ hq => ?_
      subst hq
      exact ⟨j, some (.var T (setA cs o (cellsA a))), by simp, by rw [h2]; rfl⟩
  · refine ⟨fun i b hb => ?_, fun i o' ho => ?_, fun i o' ho => ?_, fun i ho => ?_, hf, fun i hi => by simp [AV.ids] at hi, fun b h => by simp at h, fun i b hb i' hi' => .inl ?_⟩
    · simp only [List.mem_cons, List.not_mem_nil, or_false, Prod.mk.injEq] at hb
      obtain ⟨rfl, rfl⟩ := hb
      exact hH
    · simp only [List.mem_cons, List.not_mem_nil, or_false, Prod.mk.injEq] at ho
      obtain ⟨rfl, rfl⟩ := ho
      exact ⟨.var T cs, by simp⟩
    · simp only [List.mem_cons, List.not_mem_nil, or_false, Prod.mk.injEq] at ho
      obtain ⟨rfl, rfl⟩ := ho
      exact by simp [List.lookup_cons]
    · simp at ho
    · simp only [List.mem_cons, List.not_mem_nil, or_false, Prod.mk.injEq, Option.some.injEq] at hb
      obtain ⟨rfl, rfl⟩ := hb
      rw [Blk.ids, setA, idss_mem_iff] at hi'
      obtain ⟨c, hc, hci⟩ := hi'
      rw [List.mem_append, List.mem_append] at hc
      rcases hc with (hc | hc) | hc
      · exact (hDH _ _ hH).2 i' (idss_mem (List.mem_of_mem_take hc) hci)
      · have := idss_cells i' (idss_mem hc hci)
        rcases ids_ev hy i' this with ⟨t', ht'⟩ | ⟨_, _, hq, _⟩
        · exact hD t' i' ht'
        · exact mem_nil hq
      · exact (hDH _ _ hH).2 i' (idss_mem (List.mem_of_mem_drop hc) hci)
end
end Go.Ab

/- The second layer: calls. No conditions. -/
namespace Go.Ab
open Go.RowKit
set_option linter.unusedVariables false
set_option linter.unusedSimpArgs false

def callB (P : Program) (f : FuncId) : Bool := match P.funcs[f]? with | some fn => !(fn.name == "runtime.NumGoroutine") && fn.body.isSome | none => false
theorem exec_call {P : Program} {f : FuncId} {xs : Array Operand} {ats : Array TypeId} {d : Option Tmp} {ty : TypeId} {pos : String} {af : Array Edge} {g : Option (Nat × Bool)} (hf : callB P f = true) (a : Act) (w : World) :
    (execOp a.eval ⟨d, .call { callee := .value (.func f), args := xs, argTypes := ats }, ty, pos, af, g⟩).run P w = .ok (.enter f (xs.map a.eval)) w := by
  unfold callB at hf
  split at hf
  · rename_i fn hfn
    rw [Bool.and_eq_true] at hf
    have h1 : (fn.name == "runtime.NumGoroutine") = false := by simpa using hf.1
    have h2 : fn.body.isNone = false := by cases hb : fn.body <;> simp_all
    have h3 : (callFunc f (xs.map a.eval)).run P w = .ok (.enter f (xs.map a.eval)) w := by
      unfold callFunc
      simp only [program, Sem.run_bind, Sem.run, Result.andThen_ok, hfn, h1, h2]
      simp
    have h4 : a.eval (.func f) = .func (.func f) #[] #[] := rfl
    simp only [execOp, resolve, h4, Deferred.ofValue, Sem.run_bind, Sem.run_pure, Result.andThen_ok, invoke]
    simpa using h3
  · cases hf

section
variable {H : Nat → Option Blk} {ρ : Nat → Nat} {G : List Nat} {env : Nat → AV} {x : Operand} {as ds : List AV}
theorem cl_nil : CfL H ρ G [] [] := .nil
theorem cl_r {c c' : RV} (h : CfL H ρ G as ds) (e : c = c') (hx : evA env x = .r c) : CfL H ρ G (evA env x :: as) (.r c' :: ds) := by subst e; rw [hx]; exact .cons _ _ _ _ (.r _) h
theorem cl_int {k : IntKind} {m p : Int} (h : CfL H ρ G as ds) (e : m = p) (hx : evA env x = .r (.v (.int k m))) : CfL H ρ G (evA env x :: as) (.r (.v (.int k p)) :: ds) := cl_r h (by rw [e]) hx
theorem cl_pt {i j o : Nat} (h : CfL H ρ G as ds) (e : ρ i = j) (hx : evA env x = .pt j o) : CfL H ρ G (evA env x :: as) (.pt i o :: ds) := by subst e; rw [hx]; exact .cons _ _ _ _ (.pt _ _) h
theorem cl_ow {i j : Nat} (h : CfL H ρ G as ds) (e : ρ i = j) (hx : evA env x = .ow j) : CfL H ρ G (evA env x :: as) (.ow i :: ds) := by subst e; rw [hx]; exact .cons _ _ _ _ (.ow _) h
theorem cl_fzf {j T sz : Nat} {es es' : List (List RV)} (h : CfL H ρ G as ds) (e : es = es') (hg : j ∈ G) (hj : H j = some (.full T sz es)) (hx : evA env x = .ow j) : CfL H ρ G (evA env x :: as) (.r (.sl sz es') :: ds) := by subst e; rw [hx]; exact .cons _ _ _ _ (.fzf _ _ _ _ hj hg) h
theorem cl_nl {sz : Nat} (h : CfL H ρ G as ds) (hx : evA env x = .r (.v (.slice none 0 0))) : CfL H ρ G (evA env x :: as) (.r (.sl sz []) :: ds) := by rw [hx]; exact .cons _ _ _ _ (.nl _) h
theorem cl_fz {j T sz : Nat} {es es' : List (List RV)} (h : CfL H ρ G as ds) (e : es = es') (hg : j ∈ G) (hj : H j = some (.row T sz es)) (hx : evA env x = .ow j) : CfL H ρ G (evA env x :: as) (.r (.sl sz es') :: ds) := by subst e; rw [hx]; exact .cons _ _ _ _ (.fz _ _ _ _ hj hg) h
end

/-- That a value bears no slice that is only read. -/
def RV.val (c : RV) : Prop := ∃ x, c = .v x
mutual
def AV.vals : AV → Prop
  | .r c => c.val
  | .rp _ => False
  | .fr _ _ es => ∀ e ∈ es, ∀ c ∈ e, c.val
  | .ag cs => AV.valss cs
  | .tu cs => AV.valss cs
  | .cl _ _ => False
  | _ => True
def AV.valss : List AV → Prop
  | [] => True
  | c :: cs => c.vals ∧ AV.valss cs
end
section
variable {B B' : Nat → Prop} {Z : Nat → Value} {w : World}
theorem RVs.vals {cs : List RV} {us : List Value} (h : RVs B w cs us) (hv : ∀ c ∈ cs, c.val) : RVs B' w cs us := by
  induction h with
  | nil => exact .nil
  | cons h1 h2 _ ih =>
    refine .cons h1 ?_ (ih fun c hc => hv c (by simp [hc]))
    obtain ⟨x, rfl⟩ := hv _ (List.mem_cons_self)
    rw [RV.rep] at h2 ⊢; exact h2
mutual
theorem AV.rep_vals : ∀ (a : AV) (_ : a.vals) (k : Nat) (u : Value), (a.unfr k).1.rep Z B w u → (a.unfr k).1.rep Z B' w u
  | .r c, h, k, u, hr => by
    obtain ⟨x, rfl⟩ : c.val := by simpa only [AV.vals] using h
    simp only [AV.unfr, AV.rep, RV.rep] at hr ⊢; exact hr
  | .rp cs, h, k, u, hr => by simp only [AV.vals] at h
  | .ow i, h, k, u, hr => by simp only [AV.unfr, AV.rep] at hr ⊢; exact hr
  | .pt i o, h, k, u, hr => by simp only [AV.unfr, AV.rep] at hr ⊢; exact hr
  | .pe i sz q f, h, k, u, hr => by simp only [AV.unfr, AV.rep] at hr ⊢; exact hr
  | .fr T sz es, h, k, u, hr => by simp only [AV.unfr, AV.rep] at hr ⊢; exact hr
  | .na, h, k, u, hr => by simp only [AV.unfr, AV.rep]
  | .ol i n, h, k, u, hr => by simp only [AV.unfr, AV.rep] at hr ⊢; exact hr
  | .sv i n, h, k, u, hr => by simp only [AV.unfr, AV.rep] at hr ⊢; exact hr
  | .so i o n c, h, k, u, hr => by simp only [AV.unfr, AV.rep] at hr ⊢; exact hr
  | .cl f cs, h, k, u, hr => by simp only [AV.vals] at h
  | .ag cs, h, k, u, hr => by
    simp only [AV.unfr, AV.rep] at hr ⊢
    obtain ⟨us, e, h1⟩ := hr
    exact ⟨us, e, AV.reps_vals cs (by simpa only [AV.vals] using h) k _ h1⟩
  | .tu cs, h, k, u, hr => by
    simp only [AV.unfr, AV.rep] at hr ⊢
    obtain ⟨us, e, h1⟩ := hr
    exact ⟨us, e, AV.reps_vals cs (by simpa only [AV.vals] using h) k _ h1⟩
theorem AV.reps_vals : ∀ (as : List AV) (_ : AV.valss as) (k : Nat) (us : List Value), AV.reps Z B w (AV.unfrs as k).1 us → AV.reps Z B' w (AV.unfrs as k).1 us
  | [], _, k, us, h => by simp only [AV.unfrs, AV.reps] at h ⊢; exact h
  | a :: as, hv, k, us, h => by
    simp only [AV.valss] at hv
    simp only [AV.unfrs, AV.reps] at h ⊢
    obtain ⟨u, us', e, h1, h2⟩ := h
    exact ⟨u, us', e, AV.rep_vals a hv.1 k u h1, AV.reps_vals as hv.2 _ us' h2⟩
end
mutual
theorem unfr_row : ∀ (a : AV) (k : Nat), ∀ b ∈ (a.unfr k).2, ∃ T sz es, b = .row T sz es ∧ (a.vals → ∀ e ∈ es, ∀ c ∈ e, c.val)
  | .r c, k, b, h => by simp [AV.unfr] at h
  | .rp c, k, b, h => by simp [AV.unfr] at h
  | .ow i, k, b, h => by simp [AV.unfr] at h
  | .pt i o, k, b, h => by simp [AV.unfr] at h
  | .pe i sz q f, k, b, h => by simp [AV.unfr] at h
  | .fr T sz es, k, b, h => by
    simp only [AV.unfr, List.mem_cons, List.not_mem_nil, or_false] at h
    exact ⟨T, sz, es, h, fun hv => by simpa only [AV.vals] using hv⟩
  | .na, k, b, h => by simp [AV.unfr] at h
  | .ol i n, k, b, h => by simp [AV.unfr] at h
  | .sv i n, k, b, h => by simp [AV.unfr] at h
  | .so i o n c, k, b, h => by simp [AV.unfr] at h
  | .cl f cs, k, b, h => by simp [AV.unfr] at h
  | .ag cs, k, b, h => by
    simp only [AV.unfr] at h
    obtain ⟨T, sz, es, e, hv⟩ := unfrs_row cs k b h
    exact ⟨T, sz, es, e, fun h => hv (by simpa only [AV.vals] using h)⟩
  | .tu cs, k, b, h => by
    simp only [AV.unfr] at h
    obtain ⟨T, sz, es, e, hv⟩ := unfrs_row cs k b h
    exact ⟨T, sz, es, e, fun h => hv (by simpa only [AV.vals] using h)⟩
theorem unfrs_row : ∀ (as : List AV) (k : Nat), ∀ b ∈ (AV.unfrs as k).2, ∃ T sz es, b = .row T sz es ∧ (AV.valss as → ∀ e ∈ es, ∀ c ∈ e, c.val)
  | [], k, b, h => by simp [AV.unfrs] at h
  | a :: as, k, b, h => by
    simp only [AV.unfrs, List.mem_append] at h
    rcases h with h | h
    · obtain ⟨T, sz, es, e, hv⟩ := unfr_row a k b h
      exact ⟨T, sz, es, e, fun h => hv (by simp only [AV.valss] at h; exact h.1)⟩
    · obtain ⟨T, sz, es, e, hv⟩ := unfrs_row as _ b h
      exact ⟨T, sz, es, e, fun h => hv (by simp only [AV.valss] at h; exact h.2)⟩
end
end

section
variable {P : Program} {L : Ln} {N : Nat} {ops : Array Oper} {chk : List (Nat × Sp) → Bool} {Q : St → Prop} {l : List Oper} {E : List (Nat × AV)} {H : List (Nat × Option Blk)} {n : Nat} {tr : List (Nat × Sp)}
variable {d : Nat} {ty : TypeId} {pos : String} {af : Array Edge} {g : Option (Nat × Bool)}

def rngB (a : AV) (n m : Nat) : Bool := a.ids.all fun i => Nat.ble n i && Nat.blt i (n + m)
/-- A CALL whose arguments are only read: 'G' names the own slices among them (then nothing of what comes back may be a slice that is only read). -/
theorem w_call {f : FuncId} {xs : Array Operand} {ats : Array TypeId} {ds : List AV} {r : AV} (G : List Nat) (rd : List (Nat × Blk)) (hm : Meets P f ds [] r []) (hargs : CfL (getH H) (fun i => i) G (xs.toList.map (evA (get E))) ds) (hf : callB P f = true)
    (hrd : ∀ g ∈ G, ∃ b, (g, b) ∈ rd ∧ getH H g = some b) (hrd2 : ∀ i b, (i, b) ∈ rd → getH H i = some b) (hv : G = [] ∨ r.vals) (hds : AV.idss ds = []) (hrng : rngB (r.unfr n).1 n (r.unfr n).2.length = true)
    (hd : Nat.blt d N = true) (hg : Wanted ops (get E) ⟨some d, .call { callee := .value (.func f), args := xs, argTypes := ats }, ty, pos, af, g⟩ true)
    (h : wpA P L N ops chk Q l ⟨(d, (r.unfr n).1) :: E, frsL n (r.unfr n).2 ++ H, n + (r.unfr n).2.length⟩ ((n, ⟨true, rd, (r.unfr n).1, [], (r.unfr n).2⟩) :: tr)) :
    wpA P L N ops chk Q (⟨some d, .call { callee := .value (.func f), args := xs, argTypes := ats }, ty, pos, af, g⟩ :: l) ⟨E, H, n⟩ tr := by
  refine ⟨⟨true, rd, (r.unfr n).1, [], (r.unfr n).2⟩, ⟨fun x hx => ?_, hg, fun _ a w Z M hM hr hh hdist => ?_, (fun h => by cases h), fun D hD hDH hfree => ?_⟩, h⟩
  · injection hx with hx; subst hx; exact blt_t.1 hd
  · have hr' : ∀ x ∈ xs.toList, (evA (get E) x).rep Z M w (a.eval x) := fun x hx => hr x (by show x ∈ (#[Operand.func f] ++ xs).toList; rw [Array.toList_append]; exact List.mem_append_right _ hx)
    have hreps : AV.reps Z M w (xs.toList.map (evA (get E))) (xs.toList.map a.eval) := by
      revert hr'
      generalize xs.toList = ys
      intro hr'
      induction ys with
      | nil => rw [List.map_nil, AV.reps]; rfl
      | cons y ys ih => rw [List.map_cons, List.map_cons, AV.reps]; exact ⟨_, _, rfl, hr' y (by simp), ih fun x hx => hr' x (by simp [hx])⟩
    have hargs' := CfL.reps (Z := Z) (Z' := Z) (B := M) (B' := fun q => M q ∧ ∀ g ∈ G, blk (Z g) ≠ some q) (w := w) (fun _ _ h => h.1) (fun j b hj hb => by
      obtain ⟨b', h1, h2⟩ := hrd j hj
      rw [hb] at h2
      injection h2 with h2
      subst h2
      exact ⟨(hh j b h1).1, fun x hx hn => hn.2 j hj hx⟩) hargs (fun _ _ => rfl) _ hreps
    have hc := hm w Z (fun q => M q ∧ ∀ g ∈ G, blk (Z g) ≠ some q) n (xs.toList.map a.eval) (fun q hq => hM q hq.1) (Nat.zero_le _) hargs' (fun i b h => by simp [numd] at h) (fun i j b c h => by simp [numd] at h)
    refine exec_enter (exec_call hf a w) ?_
    have he : (xs.toList.map a.eval).toArray = xs.map a.eval := by rw [← Array.toList_map]
    rw [he] at hc
    refine hc.mono fun e w' ⟨v, h1, Z1, A⟩ => ⟨v, h1, Z1, ?_⟩
    have hN : ∀ q, New n (callSp n [] r []) Z1 (fun q => M q ∧ ∀ g ∈ G, blk (Z g) ≠ some q) q → New n ⟨true, rd, (r.unfr n).1, [], (r.unfr n).2⟩ Z1 M q := fun q hq => hq.imp (fun h => h.1) id
    have hN2 : G = [] → ∀ q, New n ⟨true, rd, (r.unfr n).1, [], (r.unfr n).2⟩ Z1 M q → New n (callSp n [] r []) Z1 (fun q => M q ∧ ∀ g ∈ G, blk (Z g) ≠ some q) q := fun e q hq => hq.imp (fun h => ⟨h, fun g hg => by rw [e] at hg; cases hg⟩) id
    refine ⟨A.z, ?_, fun i b h => by simp at h, fun j b hj => ?_, A.dist, fun j x hj hx => ?_, A.upto.mono fun x _ ⟨i, o, hi, _⟩ => by simp [callSp, numdP] at hi⟩
    · rcases hv with e | hv
      · exact AV.rep_mono (Upto.refl _) (fun q _ hq => hN2 e q hq) _ (fun _ _ => rfl) _ A.out
      · exact AV.rep_vals r hv n v A.out
    · have h2 := A.fr j b hj
      obtain ⟨T, sz, es, rfl, hes⟩ := unfr_row r n b (List.mem_of_getElem? hj)
      rcases hv with e | hv
      · exact h2.anti fun q _ hq => hN2 e q hq
      · obtain ⟨us, g1, g2, g3⟩ := h2
        exact ⟨us, g1, g2.vals fun c hc => by
          obtain ⟨e, he, hce⟩ := List.mem_flatten.1 hc
          exact hes hv e he c hce, g3⟩
    · rcases A.fresh j x hj hx with h | ⟨i, hi, _⟩
      · exact .inl h
      · simp [callSp, numdP] at hi
  · refine ⟨hrd2, fun i o h => by simp at h, fun i o h => by simp at h, fun i h => by simp at h, hfree, fun i hi => .inr ?_, fun b hb i hi => ?_, fun i b h => by simp at h⟩
    · have := List.all_eq_true.1 hrng i hi
      rw [Bool.and_eq_true, ble_t, blt_t] at this
      exact this
    · obtain ⟨T, sz, es, rfl, _⟩ := unfr_row r n b hb
      simp [Blk.ids] at hi

def pairs : List Nat → List (Option Blk) → List (Nat × Option Blk)
  | j :: js, b :: bs => (j, b) :: pairs js bs
  | _, _ => []
theorem pairs_mem : ∀ {js : List Nat} {bs : List (Option Blk)} {i : Nat} {b : Option Blk}, (i, b) ∈ pairs js bs ↔ ∃ q : Nat, js[q]? = some i ∧ bs[q]? = some b
  | [], bs, i, b => by simp [pairs]
  | j :: js, [], i, b => by simp [pairs]
  | j :: js, c :: bs, i, b => by
    rw [pairs, List.mem_cons, pairs_mem (js := js) (bs := bs)]
    constructor
    · rintro (e | ⟨q, h1, h2⟩)
      · injection e with e1 e2; subst e1 e2; exact ⟨0, rfl, rfl⟩
      · exact ⟨q + 1, by simpa using h1, by simpa using h2⟩
    · rintro ⟨q, h1, h2⟩
      cases q with
      | zero => simp at h1 h2; subst h1 h2; exact .inl rfl
      | succ q => exact .inr ⟨q, by simpa using h1, by simpa using h2⟩
def rdOf : List Nat → List Blk → List (Nat × Blk)
  | j :: js, b :: bs => (j, b) :: rdOf js bs
  | _, _ => []
theorem rdOf_mem : ∀ {js : List Nat} {bs : List Blk} {i : Nat} {b : Blk}, (i, b) ∈ rdOf js bs ↔ ∃ q : Nat, js[q]? = some i ∧ bs[q]? = some b
  | [], bs, i, b => by simp [rdOf]
  | j :: js, [], i, b => by simp [rdOf]
  | j :: js, c :: bs, i, b => by
    rw [rdOf, List.mem_cons, rdOf_mem (js := js) (bs := bs)]
    constructor
    · rintro (e | ⟨q, h1, h2⟩)
      · injection e with e1 e2; subst e1 e2; exact ⟨0, rfl, rfl⟩
      · exact ⟨q + 1, by simpa using h1, by simpa using h2⟩
    · rintro ⟨q, h1, h2⟩
      cases q with
      | zero => simp at h1 h2; subst h1 h2; exact .inl rfl
      | succ q => exact .inr ⟨q, by simpa using h1, by simpa using h2⟩
theorem pairs_lookup : ∀ {js : List Nat} {bs : List (Option Blk)} {i : Nat} {b : Option Blk}, js.Nodup → (i, b) ∈ pairs js bs → (pairs js bs).lookup i = some b
  | [], bs, i, b, _, h => by simp [pairs] at h
  | j :: js, [], i, b, _, h => by simp [pairs] at h
  | j :: js, c :: bs, i, b, hn, h => by
    rw [List.nodup_cons] at hn
    rw [pairs, List.mem_cons] at h
    rw [pairs, List.lookup_cons]
    rcases h with e | h
    · injection e with e1 e2; subst e1 e2; simp
    · have hne : i ≠ j := by
        rintro rfl
        obtain ⟨q, h1, _⟩ := pairs_mem.1 h
        exact hn.1 (List.mem_of_getElem? h1)
      have : (i == j) = false := by simpa using hne
      rw [this]
      exact pairs_lookup hn.2 h
theorem held_move {Z Z' : Nat → Value} {B B' : Nat → Prop} {w : World} {i i' : Nat} {b : Blk} (h : held Z B w i b) (hz : Z' i' = Z i) (hid : b.ids = []) (hB : ∀ q, q < w.heap.size → B' q → B q) : held Z' B' w i' b := by
  cases b with
  | row T sz es =>
    obtain ⟨us, h1, h2, h3⟩ := h
    exact ⟨us, by rw [hz]; exact h1, h2.mono (Upto.refl _) hB, h3⟩
  | full T sz es =>
    obtain ⟨q, us, fr, h1, h2, h3, h4, h5⟩ := h
    exact ⟨q, us, fr, hz.trans h1, h2, h3, h4.mono (Upto.refl _) hB, h5⟩
  | var T cs =>
    obtain ⟨q, us, h1, h2, h3, h4⟩ := h
    exact ⟨q, us, hz.trans h1, h2, AV.reps_mono (Upto.refl _) hB cs (fun j hj => by rw [show AV.idss cs = [] from hid] at hj; cases hj) _ h3, h4⟩
  | rowk T sz es n c =>
    obtain ⟨g, us, h1, h2, h3, h4, h5⟩ := h
    exact ⟨g, us, hz.trans h1, h2, h3, h4.mono (Upto.refl _) hB, h5⟩
  | rowo T sz es cs =>
    obtain ⟨us, vs, h1, h2, h3, h4⟩ := h
    exact ⟨us, vs, by rw [hz]; exact h1, h2.mono (Upto.refl _) hB, AV.reps_mono (Upto.refl _) hB cs (fun j hj => by rw [show AV.idss cs = [] from hid] at hj; cases hj) _ h3, h4⟩
  | mp l =>
    obtain ⟨q, es, clock, h1, h2, h3⟩ := h
    exact ⟨q, es, clock, hz.trans h1, h2, h3⟩
  | obj o =>
    obtain ⟨q, h1, h2⟩ := h
    exact ⟨q, hz.trans h1, h2⟩
def preB (J : List Nat) (n : Nat) (pre : List Blk) (post : List (Option Blk)) (ds : List AV) (L : Ln) : Bool :=
  Nat.ble J.length n && (J.all fun j => Nat.blt j n) && decide J.Nodup && Nat.beq pre.length J.length && Nat.beq post.length J.length && (pre.all fun b => b.ids.isEmpty) && (post.all fun b => match b with | some b => b.ids.isEmpty | none => true) &&
  ((AV.idss ds).all fun i => Nat.blt i J.length) && (pairs J post).all fun p => match p.2 with | none => Nat.blt p.1 L.m || Nat.ble L.n p.1 | some _ => true
theorem getD_of {J : List Nat} {q i : Nat} (h : J[q]? = some i) : J.getD q 0 = i := by rw [List.getD_eq_getElem?_getD, h]; rfl
theorem len_of {α : Type} {l : List α} {q : Nat} {x : α} (h : l[q]? = some x) : q < l.length := by
  rcases Nat.lt_or_ge q l.length with h' | h'
  · exact h'
  · rw [List.getElem?_eq_none h'] at h; cases h

/-- A CALL to which own blocks are lent or handed over: J tells which. -/
theorem w_callP {f : FuncId} {xs : Array Operand} {ats : Array TypeId} {ds : List AV} {r : AV} (J : List Nat) (pre : List Blk) (post : List (Option Blk)) (hm : Meets P f ds pre r post) (hargs : CfL (getH H) (fun i => J.getD i 0) [] (xs.toList.map (evA (get E))) ds) (hf : callB P f = true)
    (hH : ∀ i b, (i, b) ∈ rdOf J pre → getH H i = some b) (hpre : preB J n pre post ds L = true) (hrng : rngB (r.unfr n).1 n (r.unfr n).2.length = true)
    (hd : Nat.blt d N = true) (hg : Wanted ops (get E) ⟨some d, .call { callee := .value (.func f), args := xs, argTypes := ats }, ty, pos, af, g⟩ true)
    (h : wpA P L N ops chk Q l ⟨(d, (r.unfr n).1) :: E, frsL n (r.unfr n).2 ++ (pairs J post ++ H), n + (r.unfr n).2.length⟩ ((n, ⟨true, rdOf J pre, (r.unfr n).1, pairs J post, (r.unfr n).2⟩) :: tr)) :
    wpA P L N ops chk Q (⟨some d, .call { callee := .value (.func f), args := xs, argTypes := ats }, ty, pos, af, g⟩ :: l) ⟨E, H, n⟩ tr := by
  unfold preB at hpre
  simp only [Bool.and_eq_true, ble_t, List.all_eq_true, blt_t, decide_eq_true_eq] at hpre
  obtain ⟨⟨⟨⟨⟨⟨⟨⟨b1, b2⟩, b3⟩, b4⟩, b5⟩, b6⟩, b7⟩, b8⟩, b9⟩ := hpre
  have b4 := Nat.eq_of_beq_eq_true b4
  have b5 := Nat.eq_of_beq_eq_true b5
  have hmem : ∀ q, q < J.length → J.getD q 0 ∈ J := fun q hq => by rw [List.getD_eq_getElem?_getD, List.getElem?_eq_getElem hq]; exact List.getElem_mem hq
  have hJq : ∀ q, q < J.length → J[q]? = some (J.getD q 0) := fun q hq => by rw [List.getD_eq_getElem?_getD, List.getElem?_eq_getElem hq]; rfl
  refine ⟨⟨true, rdOf J pre, (r.unfr n).1, pairs J post, (r.unfr n).2⟩, ⟨fun x hx => ?_, hg, fun _ a w Z M hM hr hh hdist => ?_, (fun h => by cases h), fun D hD hDH hfree => ?_⟩, h⟩
  · injection hx with hx; subst hx; exact blt_t.1 hd
  · have hr' : ∀ x ∈ xs.toList, (evA (get E) x).rep Z M w (a.eval x) := fun x hx => hr x (by show x ∈ (#[Operand.func f] ++ xs).toList; rw [Array.toList_append]; exact List.mem_append_right _ hx)
    have hreps : AV.reps Z M w (xs.toList.map (evA (get E))) (xs.toList.map a.eval) := by
      revert hr'
      generalize xs.toList = ys
      intro hr'
      induction ys with
      | nil => rw [List.map_nil, AV.reps]; rfl
      | cons y ys ih => rw [List.map_cons, List.map_cons, AV.reps]; exact ⟨_, _, rfl, hr' y (by simp), ih fun x hx => hr' x (by simp [hx])⟩
    let Zc : Nat → Value := fun i => if i < J.length then Z (J.getD i 0) else Z i
    have hZc : ∀ i, i < J.length → Zc i = Z (J.getD i 0) := fun i hi => if_pos hi
    have hargs' := CfL.reps (Z := Z) (Z' := Zc) (B := M) (B' := M) (w := w) (fun _ _ h => h) (fun j b hj hb => by cases hj) hargs (fun i hi => hZc i (b8 i hi)) _ hreps
    have hrdq : ∀ i b, (i, b) ∈ numd 0 pre → i < J.length ∧ (J.getD i 0, b) ∈ rdOf J pre ∧ b ∈ pre := by
      intro i b hib
      have h1 := (numd_mem.1 hib).2
      rw [Nat.sub_zero] at h1
      have h2 := len_of h1
      exact ⟨by omega, rdOf_mem.2 ⟨i, hJq i (by omega), h1⟩, List.mem_of_getElem? h1⟩
    have hinj : ∀ i j, i < J.length → j < J.length → i ≠ j → J.getD i 0 ≠ J.getD j 0 := by
      intro i j hi hj hij he
      have h1 := hJq i hi
      have h2 := hJq j hj
      rw [List.getElem?_eq_getElem hi] at h1
      rw [List.getElem?_eq_getElem hj] at h2
      injection h1 with h1
      injection h2 with h2
      have hp := List.pairwise_iff_getElem.1 b3
      rcases Nat.lt_trichotomy i j with h | h | h
      · exact hp i j hi hj h (by rw [h1, h2, he])
      · exact hij h
      · exact hp j i hj hi h (by rw [h1, h2, he])
    have hc := hm w Zc M n (xs.toList.map a.eval) hM (by omega) hargs' (fun i b hib => by
      obtain ⟨h1, h2, h3⟩ := hrdq i b hib
      obtain ⟨h4, h5⟩ := hh _ b h2
      exact ⟨held_move h4 (hZc i h1) (by simpa using b6 b h3) (fun _ _ h => h), fun x hx => h5 x (by rw [← hZc i h1]; exact hx)⟩) (fun i j b c hi hj hij x hx => by
      obtain ⟨h1, h2, _⟩ := hrdq i b hi
      obtain ⟨h3, h4, _⟩ := hrdq j c hj
      rw [hZc i h1] at hx
      rw [hZc j h3]
      exact hdist _ _ b c h2 h4 (hinj i j h1 h3 hij) x hx)
    refine exec_enter (exec_call hf a w) ?_
    have he : (xs.toList.map a.eval).toArray = xs.map a.eval := by rw [← Array.toList_map]
    rw [he] at hc
    refine hc.mono fun e w' ⟨v, h1, Z1, A⟩ => ⟨v, h1, fun i => if n ≤ i ∧ i < n + (r.unfr n).2.length then Z1 i else Z i, ?_⟩
    generalize hZ2 : (fun i => if n ≤ i ∧ i < n + (r.unfr n).2.length then Z1 i else Z i) = Z2
    have z1 : ∀ i, n ≤ i → i < n + (r.unfr n).2.length → Z2 i = Z1 i := fun i h1 h2 => by rw [← hZ2]; exact if_pos ⟨h1, h2⟩
    have z2 : ∀ i, (i < n ∨ n + (r.unfr n).2.length ≤ i) → Z2 i = Z i := fun i h1 => by rw [← hZ2]; exact if_neg (by omega)
    have hN : ∀ q, q < w'.heap.size → New n ⟨true, rdOf J pre, (r.unfr n).1, pairs J post, (r.unfr n).2⟩ Z2 M q → New n (callSp n pre r post) Z1 M q := by
      rintro q _ (h0 | ⟨j, hj, hq⟩)
      · exact .inl h0
      · have hj' : j < (r.unfr n).2.length := hj
        rw [z1 (n + j) (by omega) (by omega)] at hq
        exact .inr ⟨j, hj, hq⟩
    have hup : ∀ j o, (j, o) ∈ pairs J post ↔ ∃ q, q < J.length ∧ J.getD q 0 = j ∧ (q, o) ∈ numdP 0 post := by
      intro j o
      rw [pairs_mem]
      constructor
      · rintro ⟨q, h1, h2⟩
        exact ⟨q, len_of h1, getD_of h1, numdP_mem.2 ⟨Nat.zero_le _, by simpa using h2⟩⟩
      · rintro ⟨q, h1, h2, h3⟩
        exact ⟨q, by rw [hJq q h1, h2], by simpa using (numdP_mem.1 h3).2⟩
    have hnl : ∀ q o, (q, o) ∈ numdP 0 post → q < J.length := fun q o h => by
      have := len_of (numdP_mem.1 h).2
      omega
    refine ⟨z2, ?_, fun j b hjb => ?_, fun j b hj => ?_, fun j j' x hj hj' hne h3 h4 => ?_, fun j x hj hx => ?_, A.upto.mono fun x _ ⟨i, o, hi, hx⟩ => ?_⟩
    · refine AV.rep_mono (Upto.refl _) hN _ (fun i hi => ?_) _ A.out
      have := List.all_eq_true.1 hrng i hi
      rw [Bool.and_eq_true, ble_t, blt_t] at this
      exact z1 i this.1 this.2
    · obtain ⟨q, h2, h3, h4⟩ := (hup j (some b)).1 hjb
      have h5 := A.up q b h4
      refine held_move h5 ?_ ?_ hN
      · rw [z2 j (.inl (b2 j (h3 ▸ hmem q h2))), A.z q (.inl (by omega)), hZc q h2, h3]
      · have h6 := (numdP_mem.1 h4).2
        have := b7 _ (List.mem_of_getElem? h6)
        simpa using this
    · obtain ⟨T, sz, es, rfl, _⟩ := unfr_row r n b (List.mem_of_getElem? hj)
      have hjl := len_of hj
      have hjl' : j < (r.unfr n).2.length := hjl
      exact held_move (A.fr j _ hj) (z1 (n + j) (by omega) (by omega)) rfl hN
    · have k1 : j < (r.unfr n).2.length := hj
      have k2 : j' < (r.unfr n).2.length := hj'
      have h3' : blk (Z2 (n + j)) = some x := h3
      have h4' : blk (Z2 (n + j')) = some x := h4
      rw [z1 (n + j) (by omega) (by omega)] at h3'
      rw [z1 (n + j') (by omega) (by omega)] at h4'
      exact A.dist j j' x hj hj' hne h3' h4'
    · have k1 : j < (r.unfr n).2.length := hj
      have hx' : blk (Z2 (n + j)) = some x := hx
      rw [z1 (n + j) (by omega) (by omega)] at hx'
      rcases A.fresh j x hj hx' with h | ⟨i, hi, hix⟩
      · exact .inl h
      · have k2 := hnl i _ hi
        rw [hZc i k2] at hix
        exact .inr ⟨J.getD i 0, (hup _ _).2 ⟨i, k2, rfl, hi⟩, hix⟩
    · have k2 := hnl i _ hi
      rw [hZc i k2] at hx
      exact ⟨J.getD i 0, o, (hup _ _).2 ⟨i, k2, rfl, hi⟩, hx⟩
  · refine ⟨hH, fun i o h => ?_, fun i o h => pairs_lookup b3 h, fun i h => ?_, hfree, fun i hi => .inr ?_, fun b hb i hi => ?_, fun i b hib i' hi' => ?_⟩
    · obtain ⟨q, h1, h2⟩ := pairs_mem.1 h
      have h3 := len_of h1
      exact ⟨pre[q]'(by omega), rdOf_mem.2 ⟨q, h1, List.getElem?_eq_getElem _⟩⟩
    · have := b9 _ h
      simp only [Bool.or_eq_true, blt_t, ble_t] at this
      exact this
    · have := List.all_eq_true.1 hrng i hi
      rw [Bool.and_eq_true, ble_t, blt_t] at this
      exact this
    · obtain ⟨T, sz, es, rfl, _⟩ := unfr_row r n b hb
      simp [Blk.ids] at hi
    · obtain ⟨q, h1, h2⟩ := pairs_mem.1 hib
      have := b7 _ (List.mem_of_getElem? h2)
      have : b.ids = [] := by simpa using this
      rw [this] at hi'
      cases hi'
end
end Go.Ab
