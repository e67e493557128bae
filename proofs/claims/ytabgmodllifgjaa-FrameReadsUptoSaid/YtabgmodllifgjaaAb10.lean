/- The second layer: what makes and turns own blocks. No conditions. -/
import Derived.Test.YtabgmodllifgjaaAb9
namespace Go.Ab
open Go.RowKit
set_option linter.unusedVariables false
set_option linter.unusedSimpArgs false

/-! ## New blocks -/
section
variable {P : Program} {L : Ln} {N : Nat} {ops : Array Oper} {chk : List (Nat × Sp) → Bool} {Q : St → Prop} {l : List Oper} {E : List (Nat × AV)} {H : List (Nat × Option Blk)} {n : Nat} {tr : List (Nat × Sp)}
variable {d : Nat} {ty : TypeId} {pos : String} {af : Array Edge} {g : Option (Nat × Bool)} {t : TypeId} {x y : Operand}

theorem mem_nil {α : Type} {x : α} {p : Prop} (h : x ∈ ([] : List α)) : p := by cases h

/-- A block is made: what is to be shown of its operation. -/
structure MakeOk (P : Program) (o : Oper) (env : Nat → AV) (H : Nat → Option Blk) (rd : List (Nat × Blk)) (k : Nat) (out : AV) (b : Blk) : Prop where
  rdH : ∀ i b, (i, b) ∈ rd → H i = some b
  outs : out.ids = [k]
  ids : ∀ i ∈ b.ids, (∃ t, i ∈ (env t).ids) ∨ ∃ j b', (j, b') ∈ rd ∧ (i = j ∨ i ∈ b'.ids)
  run : ∀ (a : Act) (w : World) (Z : Nat → Value) (M : Nat → Prop), (∀ x, M x → x < w.heap.size) → (∀ x ∈ o.op.operands.toList, (evA env x).rep Z M w (a.eval x)) → (∀ i b, (i, b) ∈ rd → held Z M w i b) →
    ∃ v z w', (execOp a.eval o).run P w = .ok (.value v) w' ∧ Below w.heap.size w w' ∧ (∀ q, blk z = some q → w.heap.size ≤ q) ∧
      ∀ Z', Z' k = z → (∀ i, i ≠ k → Z' i = Z i) → out.rep Z' (fun q => M q ∨ blk z = some q) w' v ∧ ((∀ i ∈ b.ids, i ≠ k) → held Z' (fun q => M q ∨ blk z = some q) w' k b)

theorem w_make {op : Op} {rd : List (Nat × Blk)} {out : AV} {b : Blk} (hd : Nat.blt d N = true) (hg : Wanted ops (get E) ⟨some d, op, ty, pos, af, g⟩ true) (hp : MakeOk P ⟨some d, op, ty, pos, af, g⟩ (get E) (getH H) rd n out b)
    (hid : (b.ids.all fun i => !Nat.beq i n) = true)
    (h : wpA P L N ops chk Q l ⟨(d, out) :: E, (n, some b) :: H, n + 1⟩ ((n, ⟨true, rd, out, [], [b]⟩) :: tr)) : wpA P L N ops chk Q (⟨some d, op, ty, pos, af, g⟩ :: l) ⟨E, H, n⟩ tr := by
  have hid' : ∀ i ∈ b.ids, i ≠ n := fun i hi e => by
    have := List.all_eq_true.1 hid i hi
    subst e
    simp at this
  refine ⟨⟨true, rd, out, [], [b]⟩, ⟨fun x hx => ?_, hg, fun _ a w Z M hM hx hr hdist => ?_, (fun h => by cases h), fun D hD hDH hf => ?_⟩, h⟩
  · injection hx with hx; subst hx; exact blt_t.1 hd
  · obtain ⟨v, z, w', h1, h2, h3, h4⟩ := hp.run a w Z M hM hx (fun i b hb => (hr i b hb).1)
    have hz1 : (fun i => if i = n then z else Z i) n = z := by simp
    obtain ⟨h5, h6⟩ := h4 (fun i => if i = n then z else Z i) hz1 (fun i hi => by simp [hi])
    have hN : ∀ q, New n ⟨true, rd, out, [], [b]⟩ (fun i => if i = n then z else Z i) M q → M q ∨ blk z = some q := by
      rintro q (h0 | ⟨j, hj, hq⟩)
      · exact .inl h0
      · have : j = 0 := by simpa using hj
        subst this
        exact .inr (by simpa using hq)
    refine exec_value h1 ⟨fun i => if i = n then z else Z i, fun i hi => ?_, AV.rep_mono (Upto.refl _) (fun q _ hq => hN q hq) _ (fun _ _ => rfl) _ h5, fun i b h => mem_nil h, fun j c hj => ?_, fun j j' q hj hj' hne => ?_, fun j q hj hq => .inl ?_, (Upto.of_below h2)⟩
    · have : i ≠ n := by simp at hi; omega
      simp [this]
    · have hj0 : j = 0 := by
        cases j with
        | zero => rfl
        | succ j => simp at hj
      subst hj0
      have : c = b := by simpa using hj.symm
      subst this
      exact (h6 hid').anti fun q _ hq => hN q hq
    · simp at hj hj'; omega
    · have : j = 0 := by simpa using hj
      subst this
      exact h3 q (by simpa using hq)
  · refine ⟨hp.rdH, fun i o h => mem_nil h, fun i o h => mem_nil h, fun i h => mem_nil h, hf, fun i hi => .inr ?_, fun c hc i hi => .inl ?_, fun i b h => mem_nil h⟩
    · rw [show (⟨true, rd, out, [], [b]⟩ : Sp).out = out from rfl, hp.outs] at hi
      simp at hi; subst hi; simp
    · have : c = b := by simpa using hc
      subst this
      rcases hp.ids i hi with ⟨t, ht⟩ | ⟨j, b', hj, hij⟩
      · exact hD t i ht
      · have := hDH j b' (hp.rdH j b' hj)
        rcases hij with rfl | hij
        · exact this.1
        · exact this.2 i hij

theorem heap_new (w : World) (o : Obj) : (w.alloc o).heap[w.heap.size]? = some o := heap_alloc_new _ _
theorem reps_exact {Z : Nat → Value} {B : Nat → Prop} {w : World} : ∀ (us : List Value), AV.reps Z B w (us.map fun u => .r (.v u)) us
  | [] => by rw [List.map_nil, AV.reps]
  | u :: us => by rw [List.map_cons, AV.reps]; exact ⟨u, us, rfl, by rw [AV.rep, RV.rep], reps_exact us⟩
theorem idss_exact : ∀ (us : List Value), AV.idss (us.map fun u => .r (.v u)) = []
  | [] => rfl
  | u :: us => by rw [List.map_cons, AV.idss, idss_exact us]; rfl

theorem m_alloc {cs : List Value} [hz : ZrT P t cs] {o : Option Tmp} {env : Nat → AV} {HF : Nat → Option Blk} {k : Nat} : MakeOk P ⟨o, .alloc t, ty, pos, af, g⟩ env HF [] k (.pt k 0) (.var t (cs.map fun u => .r (.v u))) := by
  refine ⟨fun i b h => mem_nil h, by simp [AV.ids], fun i hi => by rw [Blk.ids, idss_exact] at hi; exact mem_nil hi, fun a w Z M hM hx _ => ?_⟩
  have h1 := hz.ok
  cases hi : P.info? t with
  | none => rw [hi] at h1; cases h1
  | some i =>
    rw [hi] at h1
    simp only [Option.map_some, Option.some.injEq] at h1
    cases hzz : i.zero with
    | none => rw [hzz] at h1; cases h1
    | some z =>
      rw [hzz] at h1
      simp only [Option.map_some, Option.some.injEq] at h1
      refine ⟨.pointer (some ⟨w.heap.size, 0, none⟩), .pointer (some ⟨w.heap.size, 0, none⟩), w.alloc (.cells z.cells t), ?_, (Below.refl _ _).alloc (Nat.le_refl _) _, fun q hq => by simp [blk] at hq; omega, fun Z' hz' _ => ⟨?_, fun _ => ?_⟩⟩
      · simp [execOp, Instr.alloc, zeroValue, typeInfo, hi, hzz, newVar, newRow]
      · rw [AV.rep, hz']; exact ⟨_, rfl, rfl⟩
      · refine ⟨w.heap.size, z.cells, hz', heap_new _ _, ?_, ?_⟩
        · rw [h1]; exact reps_exact cs
        · rw [h1]
          have := hz.one
          simpa using this

/-- The cells of a value. -/
def cellsA : AV → List AV
  | .ag cs => cs
  | x => [x]
/-- A value that may be stored: no new slice, nothing unknown. -/
def valB : AV → Bool
  | .ag _ => true
  | .r (.v x) => x.oneCell'
  | .r _ => true
  | .pt _ _ => true
  | .pe _ _ _ _ => true
  | .rp _ => true
  | _ => false
theorem cells_rep {Z : Nat → Value} {B : Nat → Prop} {w : World} {x : AV} {v : Value} (hx : x.rep Z B w v) (h : valB x = true) : AV.reps Z B w (cellsA x) v.cells.toList ∧ ((∀ cs, x ≠ .ag cs) → v.cells = #[v] ∧ v.oneCell' = true) := by
  have one : ∀ c : AV, c.rep Z B w v → v.cells = #[v] → AV.reps Z B w [c] v.cells.toList := fun c hc he => by
    rw [he, AV.reps]; exact ⟨v, [], rfl, hc, by rw [AV.reps]⟩
  cases x with
  | ag cs => rw [AV.rep] at hx; obtain ⟨us, rfl, h2⟩ := hx; exact ⟨h2, fun h => absurd rfl (h cs)⟩
  | r c =>
    cases c with
    | v x =>
      have hx' := hx
      rw [AV.rep, RV.rep] at hx
      subst hx
      have he : v.cells = #[v] := by simp only [valB] at h; cases v <;> first | rfl | (simp [Value.oneCell'] at h)
      exact ⟨one _ hx' he, fun _ => ⟨he, h⟩⟩
    | sl sz es =>
      have hx' := hx
      rw [AV.rep, RV.rep] at hx
      obtain ⟨A, c, rfl, _⟩ := hx
      exact ⟨one _ hx' rfl, fun _ => ⟨rfl, rfl⟩⟩
  | rp cs => have hx' := hx; rw [AV.rep] at hx; obtain ⟨ad, rfl, _⟩ := hx; exact ⟨one _ hx' rfl, fun _ => ⟨rfl, rfl⟩⟩
  | pt i o => have hx' := hx; rw [AV.rep] at hx; obtain ⟨b, _, rfl⟩ := hx; exact ⟨one _ hx' rfl, fun _ => ⟨rfl, rfl⟩⟩
  | pe i sz k f => have hx' := hx; rw [AV.rep] at hx; obtain ⟨b, _, rfl⟩ := hx; exact ⟨one _ hx' rfl, fun _ => ⟨rfl, rfl⟩⟩
  | ow i => cases h
  | tu xs => cases h
  | fr _ _ _ => cases h
  | na => cases h
  | ol _ _ => cases h
  | sv _ _ => cases h
/-- That the cells of a struct are single cells. -/
def onesB : List AV → Bool
  | [] => true
  | .ag _ :: _ => false
  | c :: cs => valB c && onesB cs
theorem ones_rep {Z : Nat → Value} {B : Nat → Prop} {w : World} : ∀ {cs : List AV} {us : List Value}, onesB cs = true → AV.reps Z B w cs us → us.all (·.oneCell') = true
  | [], us, _, h => by rw [AV.reps] at h; subst h; rfl
  | c :: cs, us, h, hr => by
    rw [AV.reps] at hr
    obtain ⟨u, us', rfl, h1, h2⟩ := hr
    have hc : valB c = true ∧ onesB cs = true ∧ ∀ ds, c ≠ .ag ds := by
      cases c <;> simp_all [onesB]
    rw [List.all_cons, ((cells_rep h1 hc.1).2 hc.2.2).2, ones_rep hc.2.1 h2]
    rfl
theorem cellsA_one {x : AV} (h1 : onesB (cellsA x) = true) : valB x = true := by
  cases x <;> simp_all [cellsA, onesB, valB]
theorem all_arr (us : Array Value) : us.all (·.oneCell') = us.toList.all (·.oneCell') := by simp
theorem idss_cells {x : AV} : ∀ i, i ∈ AV.idss (cellsA x) → i ∈ x.ids := by
  intro i hi
  cases x <;> simp_all [cellsA, AV.idss, AV.ids]

/-- A value gets a block of its own. -/
theorem m_box {o : Option Tmp} {E : List (Nat × AV)} {HF : Nat → Option Blk} {k : Nat} {x : Operand} {a : AV} (hx : evA (get E) x = a) (h1 : onesB (cellsA a) = true) : MakeOk P ⟨o, .box t x, ty, pos, af, g⟩ (get E) HF [] k (.pt k 0) (.var t (cellsA a)) := by
  refine ⟨fun i b h => mem_nil h, by simp [AV.ids], fun i hi => ?_, fun ac w Z M hM hr _ => ?_⟩
  · rcases ids_ev hx i (idss_cells i hi) with h | ⟨_, _, h, _⟩
    · exact .inl h
    · exact mem_nil h
  · have h2 := hr x (by simp [Op.operands])
    rw [hx] at h2
    have hv := cellsA_one h1
    refine ⟨.pointer (some ⟨w.heap.size, 0, none⟩), .pointer (some ⟨w.heap.size, 0, none⟩), w.alloc (.cells (ac.eval x).cells t), ?_, (Below.refl _ _).alloc (Nat.le_refl _) _, fun q hq => by simp [blk] at hq; omega, fun Z' hz' hzo => ⟨?_, fun hids => ?_⟩⟩
    · simp [execOp, Instr.box, newVar, newRow]
    · simp only [AV.rep, hz']; exact ⟨_, rfl, rfl⟩
    · have h3 : a.rep Z' (fun q => M q ∨ blk (.pointer (some ⟨w.heap.size, 0, none⟩)) = some q) (w.alloc (.cells (ac.eval x).cells t)) (ac.eval x) := by
        refine AV.rep_mono (Upto.alloc (M := M) w _) (fun q hq hb => ?_) a (fun i hi => hzo i (hids i ?_)) _ h2
        · rcases hb with hb | hb
          · exact hb
          · simp [blk] at hb; omega
        · cases a <;> simp_all [cellsA, AV.idss, AV.ids, Blk.ids]
      obtain ⟨h4, _⟩ := cells_rep h3 hv
      exact ⟨w.heap.size, _, hz', heap_new _ _, h4, by rw [all_arr]; exact ones_rep h1 h4⟩
end
end Go.Ab
