/- The second layer: variables, structs, slices that are made, calls. No conditions. -/
import Derived.Test.YtabgmodllifgjaaAb8
import Derived.Maps.AppendAt
import Derived.Great.BuildSlice
namespace Go.Ab
open Go.RowKit
set_option linter.unusedVariables false
set_option linter.unusedSimpArgs false

/-! ## What is to be known of types -/
def slTB (P : Program) (t e sz b : Nat) : Bool :=
  (match P.underlying t with | some (.slice e') => Nat.beq e' e | _ => false) && (match P.info? e with | some i => Nat.beq i.size sz && Nat.beq i.bytes b && (match i.zero with | some z => Nat.beq z.cells.size sz | none => false) | none => false) && Nat.blt 0 sz
class SlT (P : Program) (t : Nat) (e sz b : outParam Nat) : Prop where ok : slTB P t e sz b = true
def agTB (P : Program) (t n : Nat) : Bool := (match P.underlying t with | some d => isAggD d | none => false) && (match P.info? t with | some i => Nat.beq i.size n | none => false)
class AgT (P : Program) (t : Nat) (n : outParam Nat) : Prop where ok : agTB P t n = true
def onTB (P : Program) (t : Nat) : Bool := (match P.underlying t with | some d => !isAggD d | none => false) && (match P.info? t with | some i => Nat.beq i.size 1 | none => false)
class OnT (P : Program) (t : Nat) : Prop where ok : onTB P t = true
def fdTB (P : Program) (t i o : Nat) : Bool := match P.underlying t with | some (.struct fs) => (match fs[i]? with | some f => Nat.beq f.offset o && (match P.info? f.type with | some j => Nat.blt 0 j.size | none => false) | none => false) | _ => false
def fdTyB (P : Program) (t i ft : Nat) : Bool := match P.underlying t with | some (.struct fs) => (match fs[i]? with | some f => Nat.beq f.type ft | none => false) | _ => false
class FdT (P : Program) (t i : Nat) (o ft : outParam Nat) : Prop where
  ok : fdTB P t i o = true
  ty : fdTyB P t i ft = true
def arTB (P : Program) (t n e sz : Nat) : Bool := (match P.underlying t with | some (.array n' e') => Nat.beq n' n && Nat.beq e' e | _ => false) && (match P.info? e with | some i => Nat.beq i.size sz | none => false)
class ArT (P : Program) (t : Nat) (n e sz : outParam Nat) : Prop where ok : arTB P t n e sz = true
class ZrT (P : Program) (t : Nat) (cs : outParam (List Value)) : Prop where
  ok : (P.info? t).map (fun i => i.zero.map (·.cells)) = some (some cs.toArray)
  one : cs.all (·.oneCell') = true

theorem SlT.und {P : Program} {t e sz b : Nat} [h : SlT P t e sz b] : P.underlying t = some (.slice e) := by
  have := h.ok
  unfold slTB at this
  simp only [Bool.and_eq_true] at this
  have h1 := this.1.1
  split at h1
  · rename_i e' he; rw [he, Nat.eq_of_beq_eq_true h1]
  · cases h1
theorem SlT.pos {P : Program} {t e sz b : Nat} [h : SlT P t e sz b] : 0 < sz := by
  have := h.ok
  unfold slTB at this
  simp only [Bool.and_eq_true] at this
  exact blt_t.1 this.2
theorem SlT.inf {P : Program} {t e sz b : Nat} [h : SlT P t e sz b] : ∃ i z, P.info? e = some i ∧ i.zero = some z ∧ i.size = sz ∧ i.bytes = b ∧ z.cells.size = sz := by
  have := h.ok
  unfold slTB at this
  simp only [Bool.and_eq_true] at this
  have h1 := this.1.2
  split at h1
  · rename_i i hi
    simp only [Bool.and_eq_true] at h1
    have h2 := h1.2
    split at h2
    · rename_i z hz
      exact ⟨i, z, hi, hz, Nat.eq_of_beq_eq_true h1.1.1, Nat.eq_of_beq_eq_true h1.1.2, Nat.eq_of_beq_eq_true h2⟩
    · cases h2
  · cases h1
theorem AgT.und {P : Program} {t n : Nat} [h : AgT P t n] : ∃ d, P.underlying t = some d ∧ isAggD d = true := by
  have := h.ok
  unfold agTB at this
  rw [Bool.and_eq_true] at this
  have h1 := this.1
  split at h1
  · rename_i d hd; exact ⟨d, hd, h1⟩
  · cases h1
theorem AgT.size {P : Program} {t n : Nat} [h : AgT P t n] : (P.info? t).map (·.size) = some n := by
  have := h.ok
  unfold agTB at this
  rw [Bool.and_eq_true] at this
  have h1 := this.2
  split at h1
  · rename_i i hi; rw [hi]; exact congrArg some (Nat.eq_of_beq_eq_true h1)
  · cases h1
theorem OnT.und {P : Program} {t : Nat} [h : OnT P t] : ∃ d, P.underlying t = some d ∧ isAggD d = false := by
  have := h.ok
  unfold onTB at this
  rw [Bool.and_eq_true] at this
  have h1 := this.1
  split at h1
  · rename_i d hd; exact ⟨d, hd, by simpa using h1⟩
  · cases h1
theorem OnT.size {P : Program} {t : Nat} [h : OnT P t] : (P.info? t).map (·.size) = some 1 := by
  have := h.ok
  unfold onTB at this
  rw [Bool.and_eq_true] at this
  have h1 := this.2
  split at h1
  · rename_i i hi; rw [hi]; exact congrArg some (Nat.eq_of_beq_eq_true h1)
  · cases h1
theorem FdT.fld {P : Program} {t i o ft : Nat} [h : FdT P t i o ft] : ∃ fs f, P.underlying t = some (.struct fs) ∧ fs[i]? = some f ∧ f.offset = o ∧ f.type = ft ∧ ∃ j, P.info? f.type = some j ∧ j.size ≠ 0 := by
  have h1 := h.ok
  have h2 := h.ty
  unfold fdTB at h1
  unfold fdTyB at h2
  split at h1
  · rename_i fs hfs
    rw [hfs] at h2
    simp only at h2
    split at h1
    · rename_i f hf
      rw [hf] at h2
      simp only at h2
      rw [Bool.and_eq_true] at h1
      have h3 := h1.2
      split at h3
      · rename_i j hj
        exact ⟨fs, f, hfs, hf, Nat.eq_of_beq_eq_true h1.1, Nat.eq_of_beq_eq_true h2, j, hj, by have := blt_t.1 h3; omega⟩
      · cases h3
    · cases h1
  · cases h1
theorem ArT.und {P : Program} {t n e sz : Nat} [h : ArT P t n e sz] : P.underlying t = some (.array n e) ∧ (P.info? e).map (·.size) = some sz := by
  have := h.ok
  unfold arTB at this
  rw [Bool.and_eq_true] at this
  have h1 := this.1
  have h2 := this.2
  constructor
  · split at h1
    · rename_i n' e' he
      rw [Bool.and_eq_true] at h1
      rw [he, Nat.eq_of_beq_eq_true h1.1, Nat.eq_of_beq_eq_true h1.2]
    · cases h1
  · split at h2
    · rename_i i hi; rw [hi]; exact congrArg some (Nat.eq_of_beq_eq_true h2)
    · cases h2
theorem run_agg {P : Program} {t : TypeId} {d : TypeDesc} {b : Bool} (hu : P.underlying t = some d) (hd : isAggD d = b) (w : World) : (isAgg t).run P w = .ok b w := by
  simp only [isAgg, Sem.run_bind, run_underlying hu, Result.andThen_ok]
  cases d <;> simp_all [isAggD]

section
variable {P : Program} {env : Nat → AV} {H : Nat → Option Blk} {d : Option Tmp} {ty : TypeId} {pos : String} {af : Array Edge} {g : Option (Nat × Bool)}
variable {t : TypeId} {x y : Operand}

theorem p_extract {xs : List AV} {k : Nat} {out : AV} (hx : evA env x = .tu xs) (ho : xs[k]? = some out) : ReadOk P ⟨d, .extract x k, ty, pos, af, g⟩ env H [] out := by
  refine ⟨fun i b h => by simp at h, fun i hi => ids_ev hx i (by rw [AV.ids]; exact idss_mem (List.mem_of_getElem? ho) hi), fun a w Z M hr _ => ?_⟩
  have h1 := hr x (by simp [Op.operands])
  rw [hx, AV.rep] at h1
  obtain ⟨us, h2, h3⟩ := h1
  obtain ⟨u, h4, h5⟩ := AV.reps_get h3 ho
  refine ⟨u, ?_, h5⟩
  have h4' : us[k]? = some u := by simpa using h4
  simp only [execOp, h2, Instr.extract, h4', Sem.run_bind, Sem.run_pure, Result.andThen_ok]
/-- A field's address: in what is only read, in a variable, in an element of an own slice. -/
theorem run_fieldAt {P : Program} {t i o ft : Nat} [FdT P t i o ft] (ad : Addr) (w : World) : (Instr.fieldAt t (.pointer (some ad)) i).run P w = .ok (.pointer (some (ad.add o))) w := by
  obtain ⟨fs, f, h1, h2, h3, h4, j, h5, h6⟩ := FdT.fld (P := P) (t := t) (i := i) (o := o) (ft := ft)
  have hs : (sizeOf f.type).run P w = .ok j.size w := by simp [sizeOf, typeInfo, h5]
  simp only [Instr.fieldAt, Sem.run_bind, run_underlying h1, Result.andThen_ok, h2, Instr.sureAddr, Sem.run_pure, fieldPlace, hs, if_neg h6, h3]
theorem p_faddr_rp {i o ft : Nat} {cs : List RV} [FdT P t i o ft] (hx : evA env x = .rp cs) : ReadOk P ⟨d, .fieldAddr t x i, ty, pos, af, g⟩ env H [] (.rp (cs.drop o)) := by
  refine ⟨fun i b h => by simp at h, fun i hi => by simp [AV.ids] at hi, fun a w Z M hr _ => ?_⟩
  have h1 := hr x (by simp [Op.operands])
  rw [hx, AV.rep] at h1
  obtain ⟨ad, h2, h3, h4, h5⟩ := h1
  refine ⟨.pointer (some (ad.add o)), ?_, ?_⟩
  · simp only [execOp, h2, Sem.run_bind, run_fieldAt, Result.andThen_ok, Sem.run_pure]
  · rw [AV.rep]
    refine ⟨_, rfl, by rw [add_block]; exact h3, by rw [add_block]; exact h4, ?_⟩
    rw [RV.row_add, Nat.add_comm]
    exact RV.row_drop h5 o
theorem add_mid (b o k : Nat) : (⟨b, o, none⟩ : Addr).add k = ⟨b, o + k, none⟩ := by unfold Addr.add; split <;> simp_all
theorem p_faddr_pt {i o ft j q : Nat} [FdT P t i o ft] (hx : evA env x = .pt j q) : ReadOk P ⟨d, .fieldAddr t x i, ty, pos, af, g⟩ env H [] (.pt j (q + o)) := by
  refine ⟨fun i b h => by simp at h, fun i hi => ids_ev hx i (by simpa [AV.ids] using hi), fun a w Z M hr _ => ?_⟩
  have h1 := hr x (by simp [Op.operands])
  rw [hx, AV.rep] at h1
  obtain ⟨b, h2, h3⟩ := h1
  refine ⟨.pointer (some ⟨b, q + o, none⟩), ?_, ?_⟩
  · simp only [execOp, h3, Sem.run_bind, run_fieldAt, Result.andThen_ok, Sem.run_pure, add_mid]
  · rw [AV.rep]; exact ⟨b, h2, rfl⟩
theorem p_faddr_pe {i o ft j sz k q : Nat} [FdT P t i o ft] (hx : evA env x = .pe j sz k q) : ReadOk P ⟨d, .fieldAddr t x i, ty, pos, af, g⟩ env H [] (.pe j sz k (q + o)) := by
  refine ⟨fun i b h => by simp at h, fun i hi => ids_ev hx i (by simpa [AV.ids] using hi), fun a w Z M hr _ => ?_⟩
  have h1 := hr x (by simp [Op.operands])
  rw [hx, AV.rep] at h1
  obtain ⟨b, h2, h3⟩ := h1
  refine ⟨.pointer (some ⟨b, k * sz + (q + o), none⟩), ?_, ?_⟩
  · simp only [execOp, h3, Sem.run_bind, run_fieldAt, Result.andThen_ok, Sem.run_pure, add_mid, Nat.add_assoc]
  · rw [AV.rep]; exact ⟨b, h2, rfl⟩

/-! ### Loads out of variables -/
theorem held_var {Z : Nat → Value} {M : Nat → Prop} {w : World} {j o T : Nat} {cs : List AV} {v : Value} (hh : held Z M w j (.var T cs)) (hp : ∃ b, blk (Z j) = some b ∧ v = .pointer (some ⟨b, o, none⟩)) :
    ∃ b us, Z j = .pointer (some ⟨b, 0, none⟩) ∧ v = .pointer (some ⟨b, o, none⟩) ∧ w.heap[b]? = some (.cells us T (0, 0)) ∧ AV.reps Z M w cs us.toList ∧ us.all (·.oneCell') = true := by
  obtain ⟨b, us, h1, h2⟩ := hh
  obtain ⟨b', h3, h4⟩ := hp
  rw [h1] at h3
  simp only [blk, Option.some.injEq] at h3
  subst h3
  exact ⟨b, us, h1, h4, h2⟩
theorem p_load_var {j o T : Nat} {cs : List AV} {c : AV} [OnT P t] (hx : evA env x = .pt j o) (hH : H j = some (.var T cs)) (hc : cs[o]? = some c) : ReadOk P ⟨d, .load t x, ty, pos, af, g⟩ env H [(j, .var T cs)] c := by
  refine ⟨fun i b h => ?_, fun i hi => .inr ⟨j, .var T cs, by simp, .inr (idss_mem (List.mem_of_getElem? hc) hi)⟩, fun a w Z M hr hh => ?_⟩
  · simp only [List.mem_cons, List.not_mem_nil, or_false] at h
    obtain ⟨rfl, rfl⟩ := h
    exact hH
  · have h1 := hr x (by simp [Op.operands])
    rw [hx, AV.rep] at h1
    obtain ⟨b, us, h2, h3, h4, h5, h6⟩ := held_var (hh j (.var T cs) (by simp)) h1
    obtain ⟨u, h7, h8⟩ := AV.reps_get h5 hc
    obtain ⟨D, hu, hD⟩ := OnT.und (P := P) (t := t)
    refine ⟨u, ?_, h8⟩
    have hcell : w.cell? ⟨b, o, none⟩ = some u := by rw [cell_of_row w b o us T (0, 0) h4]; simpa using h7
    simp only [execOp, h3, Instr.loadAt, Instr.sureAddr, Sem.run_bind, Sem.run_pure, Result.andThen_ok, run_loadVar_one w _ t D u hu hD hcell]
theorem idss_sub : ∀ {cs : List AV} {i o n : Nat}, i ∈ AV.idss ((cs.drop o).take n) → i ∈ AV.idss cs := by
  have h1 : ∀ (cs : List AV) (i : Nat), i ∈ AV.idss cs ↔ ∃ c ∈ cs, i ∈ c.ids := by
    intro cs i
    induction cs with
    | nil => simp [AV.idss]
    | cons c cs ih => simp [AV.idss, ih]
  intro cs i o n h
  obtain ⟨c, hc, hi⟩ := (h1 _ _).1 h
  exact (h1 _ _).2 ⟨c, List.mem_of_mem_drop (List.mem_of_mem_take hc), hi⟩
theorem reps_drop {Z : Nat → Value} {B : Nat → Prop} {w : World} : ∀ {cs : List AV} {us : List Value} (k : Nat), AV.reps Z B w cs us → AV.reps Z B w (cs.drop k) (us.drop k)
  | cs, us, 0, h => h
  | [], us, k + 1, h => by rw [AV.reps] at h; subst h; simpa using (show AV.reps Z B w [] [] by rw [AV.reps])
  | c :: cs, us, k + 1, h => by rw [AV.reps] at h; obtain ⟨u, us', rfl, _, h2⟩ := h; simpa using reps_drop k h2
theorem reps_take {Z : Nat → Value} {B : Nat → Prop} {w : World} : ∀ {cs : List AV} {us : List Value} (k : Nat), AV.reps Z B w cs us → AV.reps Z B w (cs.take k) (us.take k)
  | cs, us, 0, h => by simpa using (show AV.reps Z B w [] [] by rw [AV.reps])
  | [], us, k + 1, h => by rw [AV.reps] at h; subst h; simpa using (show AV.reps Z B w [] [] by rw [AV.reps])
  | c :: cs, us, k + 1, h => by
    rw [AV.reps] at h; obtain ⟨u, us', rfl, h1, h2⟩ := h
    rw [List.take_succ_cons, List.take_succ_cons, AV.reps]
    exact ⟨_, _, rfl, h1, reps_take k h2⟩
theorem p_load_vars {j o T n : Nat} {cs : List AV} [AgT P t n] (hx : evA env x = .pt j o) (hH : H j = some (.var T cs)) (hn : o + n ≤ cs.length) : ReadOk P ⟨d, .load t x, ty, pos, af, g⟩ env H [(j, .var T cs)] (.ag ((cs.drop o).take n)) := by
  refine ⟨fun i b h => ?_, fun i hi => .inr ⟨j, .var T cs, by simp, .inr (idss_sub (by rwa [AV.ids] at hi))⟩, fun a w Z M hr hh => ?_⟩
  · simp only [List.mem_cons, List.not_mem_nil, or_false] at h
    obtain ⟨rfl, rfl⟩ := h
    exact hH
  · have h1 := hr x (by simp [Op.operands])
    rw [hx, AV.rep] at h1
    obtain ⟨b, us, h2, h3, h4, h5, h6⟩ := held_var (hh j (.var T cs) (by simp)) h1
    obtain ⟨D, hu, hD⟩ := AgT.und (P := P) (t := t) (n := n)
    have hlen := AV.reps_len h5
    have h7 := reps_take n (reps_drop o h5)
    refine ⟨.agg ((us.toList.drop o).take n).toArray, ?_, by rw [AV.rep]; exact ⟨_, rfl, h7⟩⟩
    have hl : (loadCells ⟨b, o, none⟩ n).run P w = .ok ((us.toList.drop o).take n).toArray w := by
      have := run_loadCells_list (P := P) w ⟨b, o, none⟩ ((us.toList.drop o).take n) (fun k v hv => by
        rw [add_mid, cell_of_row w b (o + k) us T (0, 0) h4]
        rw [List.getElem?_take] at hv
        split at hv
        · rw [List.getElem?_drop] at hv; simpa using hv
        · cases hv)
      rwa [show ((us.toList.drop o).take n).length = n by rw [List.length_take, List.length_drop]; omega] at this
    simp only [execOp, h3, Instr.loadAt, Instr.sureAddr, loadVar, Sem.run_bind, Sem.run_pure, Result.andThen_ok, run_agg hu hD, run_sizeOf AgT.size, if_true, hl]
end
end Go.Ab
