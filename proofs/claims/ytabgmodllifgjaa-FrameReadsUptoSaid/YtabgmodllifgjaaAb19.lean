/- The second layer: own slices: their length, cuts, elements read and stored; slices of own slices. No conditions. -/
import Derived.Test.YtabgmodllifgjaaAb18
namespace Go.Ab
open Go.RowKit
set_option linter.unusedVariables false
set_option linter.unusedSimpArgs false

/-- What an own slice (grown row) is in memory. -/
theorem held_row {Z : Nat → Value} {M : Nat → Prop} {w : World} {i T sz : Nat} {es : List (List RV)} (h : held Z M w i (.row T sz es)) (hne : es ≠ []) :
    ∃ g cap cur us, Z i = .slice (some ⟨g, 0, none⟩) es.length cap ∧ w.heap[g]? = some (.cells cur T (0, 0)) ∧ es.length ≤ cap ∧ cap ≤ maxLen ∧ cur.size = cap * sz ∧ cur.toList.take (es.length * sz) = us ∧ us.length = es.length * sz ∧ RVs M w es.flatten us ∧ ∀ e ∈ es, e.length = sz := by
  obtain ⟨us, h1, h2, h3⟩ := h
  rcases h1.2 with ⟨e, h0⟩ | ⟨g, cap, cur, e, _, hg, k1, k2, k3, k4⟩
  · exact absurd (List.eq_nil_of_length_eq_zero h0) hne
  · exact ⟨g, cap, cur, us, e, hg, k1, k2, k3, k4, h1.1, h2, h3⟩
theorem held_len {Z : Nat → Value} {M : Nat → Prop} {w : World} {i T sz : Nat} {es : List (List RV)} (h : held Z M w i (.row T sz es)) : ∃ A c, Z i = .slice A es.length c := by
  obtain ⟨us, h1, h2, h3⟩ := h
  rcases h1.2 with ⟨e, h0⟩ | ⟨g, cap, cur, e, _, hg, k1, k2, k3, k4⟩
  · exact ⟨none, 0, by rw [e, h0]⟩
  · exact ⟨_, _, e⟩
theorem get_lt {α : Type} {es : List α} {j : Nat} {e : α} (he : es[j]? = some e) : j < es.length := by
  rcases Nat.lt_or_ge j es.length with h' | h'
  · exact h'
  · rw [List.getElem?_eq_none h'] at he; cases he
theorem flat_get {α : Type} {sz : Nat} : ∀ {es : List (List α)} (_ : ∀ e ∈ es, e.length = sz) {k f : Nat} {e : List α} {c : α}, es[k]? = some e → e[f]? = some c → es.flatten[k * sz + f]? = some c
  | [], _, k, f, e, c, h, _ => by simp at h
  | x :: es, hs, 0, f, e, c, h, hc => by
    simp at h; subst h
    rw [List.flatten_cons, Nat.zero_mul, Nat.zero_add, List.getElem?_append_left (get_lt hc)]; exact hc
  | x :: es, hs, k + 1, f, e, c, h, hc => by
    have hx := hs x (by simp)
    rw [List.flatten_cons, List.getElem?_append_right (by rw [hx, Nat.add_mul]; omega), hx, show (k + 1) * sz + f - sz = k * sz + f by rw [Nat.add_mul]; omega]
    exact flat_get (fun e he => hs e (by simp [he])) (by simpa using h) hc
theorem flat_set {α : Type} {sz : Nat} : ∀ {es : List (List α)} (_ : ∀ e ∈ es, e.length = sz) {k f : Nat} {e ds : List α}, es[k]? = some e → f + ds.length ≤ sz → (es.set k (setA e f ds)).flatten = setA es.flatten (k * sz + f) ds
  | [], _, k, f, e, ds, h, _ => by simp at h
  | x :: es, hs, 0, f, e, ds, h, hl => by
    simp at h; subst h
    have hx := hs x (by simp)
    rw [List.set_cons_zero, List.flatten_cons, List.flatten_cons, Nat.zero_mul, Nat.zero_add]
    unfold setA
    rw [List.take_append_of_le_length (by omega), List.drop_append_of_le_length (by omega)]
    simp
  | x :: es, hs, k + 1, f, e, ds, h, hl => by
    have hx := hs x (by simp)
    rw [List.set_cons_succ, List.flatten_cons, List.flatten_cons, flat_set (fun e he => hs e (by simp [he])) (by simpa using h) hl]
    have e1 : (k + 1) * sz + f = x.length + (k * sz + f) := by rw [hx, Nat.add_mul]; omega
    unfold setA
    rw [e1, List.take_append, List.take_of_length_le (l := x) (by omega), show x.length + (k * sz + f) - x.length = k * sz + f by omega, List.drop_append, List.drop_eq_nil_of_le (as := x) (by omega), show x.length + (k * sz + f) + ds.length - x.length = k * sz + f + ds.length by omega]
    simp
theorem RVs.drop {B : Nat → Prop} {w : World} {cs : List RV} {us : List Value} (h : RVs B w cs us) : ∀ k, RVs B w (cs.drop k) (us.drop k) := by
  induction h with
  | nil => intro k; simpa using RVs.nil
  | cons h1 h2 h3 ih =>
    intro k
    cases k with
    | zero => exact .cons h1 h2 h3
    | succ k => exact ih k
theorem RVs.setA {B : Nat → Prop} {w : World} {cs ds : List RV} {us vs : List Value} (h : RVs B w cs us) (k : RVs B w ds vs) (o : Nat) : RVs B w (Go.Ab.setA cs o ds) (Go.Ab.setA us o vs) := by
  unfold Go.Ab.setA
  rw [k.len]
  exact ((h.take o).append k).append (h.drop _)
theorem setA_take {α : Type} (l : List α) (o n : Nat) (ds : List α) (h : o + ds.length ≤ n) (hn : n ≤ l.length) : (setA l o ds).take n = setA (l.take n) o ds := by
  unfold setA
  rw [List.take_append, List.take_of_length_le (l := l.take o ++ ds) (by simp; omega), List.take_take, Nat.min_eq_left (by omega), List.drop_take]
  congr 2
  simp
  omega

section
variable {P : Program} {env : Nat → AV} {H : Nat → Option Blk} {d : Option Tmp} {ty : TypeId} {pos : String} {af : Array Edge} {g : Option (Nat × Bool)}
variable {t : TypeId} {x y : Operand} {sz : Nat} {es : List (List RV)}
theorem mem1 {i j : Nat} {b c : Blk} (h : (i, b) ∈ [(j, c)]) : i = j ∧ b = c := by simpa using h
theorem p_len_row {i T : Nat} (hx : evA env x = .ow i) (hH : H i = some (.row T sz es)) (ht : P.underlying t = some (.slice (P.elem t))) : ReadOk P ⟨d, .call { callee := .builtin .len, args := #[x], argTypes := #[t] }, ty, pos, af, g⟩ env H [(i, .row T sz es)] (.r (.v (.int .i64 es.length))) := by
  refine ⟨fun i b h => by obtain ⟨rfl, rfl⟩ := mem1 h; exact hH, fun i hi => by simp [AV.ids] at hi, fun a w Z M hr hh => ?_⟩
  have h1 := hr x (by simp [Op.operands, Call.operands])
  rw [hx, AV.rep] at h1
  obtain ⟨A, c, h2⟩ := held_len (hh i _ List.mem_cons_self)
  refine ⟨.int .i64 es.length, ?_, by rw [AV.rep, RV.rep]⟩
  have := run_len_slice (P := P) w t ty A es.length c ht
  simp [execOp, resolve, h1, h2, invoke, builtin, this, goInt]
theorem p_len_rowk {i T n c : Nat} (hx : evA env x = .ow i) (hH : H i = some (.rowk T sz es n c)) (ht : P.underlying t = some (.slice (P.elem t))) : ReadOk P ⟨d, .call { callee := .builtin .len, args := #[x], argTypes := #[t] }, ty, pos, af, g⟩ env H [(i, .rowk T sz es n c)] (.r (.v (.int .i64 n))) := by
  refine ⟨fun i b h => by obtain ⟨rfl, rfl⟩ := mem1 h; exact hH, fun i hi => by simp [AV.ids] at hi, fun a w Z M hr hh => ?_⟩
  have h1 := hr x (by simp [Op.operands, Call.operands])
  rw [hx, AV.rep] at h1
  obtain ⟨g, us, h2, _⟩ := hh i _ List.mem_cons_self
  refine ⟨.int .i64 n, ?_, by rw [AV.rep, RV.rep]⟩
  have := run_len_slice (P := P) w t ty (some ⟨g, 0, none⟩) n c ht
  simp [execOp, resolve, h1, h2, invoke, builtin, this, goInt]
theorem p_len_full {i T : Nat} (hx : evA env x = .ow i) (hH : H i = some (.full T sz es)) (ht : P.underlying t = some (.slice (P.elem t))) : ReadOk P ⟨d, .call { callee := .builtin .len, args := #[x], argTypes := #[t] }, ty, pos, af, g⟩ env H [(i, .full T sz es)] (.r (.v (.int .i64 es.length))) := by
  refine ⟨fun i b h => by obtain ⟨rfl, rfl⟩ := mem1 h; exact hH, fun i hi => by simp [AV.ids] at hi, fun a w Z M hr hh => ?_⟩
  have h1 := hr x (by simp [Op.operands, Call.operands])
  rw [hx, AV.rep] at h1
  obtain ⟨g, us, fr, h2, _⟩ := hh i _ List.mem_cons_self
  refine ⟨.int .i64 es.length, ?_, by rw [AV.rep, RV.rep]⟩
  have := run_len_slice (P := P) w t ty (some ⟨g, 0, none⟩) es.length es.length ht
  simp [execOp, resolve, h1, h2, invoke, builtin, this, goInt]
theorem p_len_ol {i n : Nat} (hx : evA env x = .ol i n) (ht : P.underlying t = some (.slice (P.elem t))) : ReadOk P ⟨d, .call { callee := .builtin .len, args := #[x], argTypes := #[t] }, ty, pos, af, g⟩ env H [] (.r (.v (.int .i64 n))) := by
  refine ⟨fun i b h => mem_nil h, fun i hi => by simp [AV.ids] at hi, fun a w Z M hr hh => ?_⟩
  have h1 := hr x (by simp [Op.operands, Call.operands])
  rw [hx, AV.rep] at h1
  obtain ⟨g, m, c, h2, h3⟩ := h1
  refine ⟨.int .i64 n, ?_, by rw [AV.rep, RV.rep]⟩
  have := run_len_slice (P := P) w t ty (some ⟨g, 0, none⟩) n c ht
  simp [execOp, resolve, h3, invoke, builtin, this, goInt]
theorem p_len_sv {i n : Nat} (hx : evA env x = .sv i n) (ht : P.underlying t = some (.slice (P.elem t))) : ReadOk P ⟨d, .call { callee := .builtin .len, args := #[x], argTypes := #[t] }, ty, pos, af, g⟩ env H [] (.r (.v (.int .i64 n))) := by
  refine ⟨fun i b h => mem_nil h, fun i hi => by simp [AV.ids] at hi, fun a w Z M hr hh => ?_⟩
  have h1 := hr x (by simp [Op.operands, Call.operands])
  rw [hx, AV.rep] at h1
  obtain ⟨b, h2, h3⟩ := h1
  refine ⟨.int .i64 n, ?_, by rw [AV.rep, RV.rep]⟩
  have := run_len_slice (P := P) w t ty (some ⟨b, 0, none⟩) n n ht
  simp [execOp, resolve, h3, invoke, builtin, this, goInt]
/-- x[:m] of an own slice. -/
theorem p_cuth_row {e b i T : Nat} [hT : SlT P t e sz b] {k : IntKind} {a : Int} {m : Nat} (hx : evA env x = .ow i) (hH : H i = some (.row T sz es)) (hy : evA env y = .r (.v (.int k a))) (ha : a = (m : Int)) (hm : m ≤ es.length) (hne : 0 < es.length) :
    ReadOk P ⟨d, .slice t x none (some y) none, ty, pos, af, g⟩ env H [(i, .row T sz es)] (.ol i m) := by
  subst ha
  refine ⟨fun i b h => by obtain ⟨rfl, rfl⟩ := mem1 h; exact hH, fun i hi => (ids_ev hx i (by simpa [AV.ids] using hi)).imp id fun ⟨_, _, h, _⟩ => mem_nil h, fun ac w Z M hr hh => ?_⟩
  have h1 := hr x (by simp [Op.operands])
  have h2 := ev_v hy (hr y (by simp [Op.operands]))
  rw [hx, AV.rep] at h1
  obtain ⟨g, cap, cur, us, e1, hg, k1, k2, _⟩ := held_row (hh i _ List.mem_cons_self) (by rintro rfl; simp at hne)
  have := run_cut (P := P) (t := t) (some ⟨g, 0, none⟩) es.length cap 0 m none (some (.int k (m : Int))) (.inl ⟨rfl, rfl⟩) (.inr ⟨k, rfl⟩) (Nat.zero_le _) hm k1 w
  have hz : (if cap = 0 then some (⟨g, 0, none⟩ : Addr) else (some ⟨g, 0, none⟩ : Option Addr).map (·.add (0 * sz))) = some ⟨g, 0, none⟩ := by
    split
    · rfl
    · simp [Addr.add]
  rw [hz, Nat.sub_zero, Nat.sub_zero] at this
  refine ⟨.slice (some ⟨g, 0, none⟩) m cap, ?_, by rw [AV.rep]; exact ⟨g, _, cap, e1, rfl⟩⟩
  simp only [execOp, h1, e1, Option.map_some, Option.map_none, h2, Sem.run_bind, this, Result.andThen_ok, Sem.run_pure]
/-- The address of an element of an own slice. -/
theorem p_index_row {e b i T : Nat} [hT : SlT P t e sz b] {k : IntKind} {a : Int} {j : Nat} {el : List RV} (hx : evA env x = .ow i) (hH : H i = some (.row T sz es)) (hy : evA env y = .r (.v (.int k a))) (ha : a = (j : Int)) (he : es[j]? = some el) :
    ReadOk P ⟨d, .indexAddr t x y, ty, pos, af, g⟩ env H [(i, .row T sz es)] (.pe i sz j 0) := by
  subst ha
  have hj := get_lt he
  refine ⟨fun i b h => by obtain ⟨rfl, rfl⟩ := mem1 h; exact hH, fun i hi => (ids_ev hx i (by simpa [AV.ids] using hi)).imp id fun ⟨_, _, h, _⟩ => mem_nil h, fun ac w Z M hr hh => ?_⟩
  have h1 := hr x (by simp [Op.operands])
  have h2 := ev_v hy (hr y (by simp [Op.operands]))
  rw [hx, AV.rep] at h1
  obtain ⟨g, cap, cur, us, e1, hg, k1, k2, _⟩ := held_row (hh i _ List.mem_cons_self) (by rintro rfl; simp at hj)
  obtain ⟨ti, z, t1, t2, t3, t4, t5⟩ := SlT.inf (P := P) (t := t) (e := e) (sz := sz) (b := b)
  have tu := SlT.und (P := P) (t := t) (e := e) (sz := sz) (b := b)
  have te : P.elem t = e := by simp [Program.elem, tu]
  have hs : (sizeOf (P.elem t)).run P w = .ok sz w := by rw [te]; simp [sizeOf, typeInfo, t1, t3]
  have := run_indexAt_slice (P := P) w t ⟨g, 0, none⟩ es.length cap k (j : Int) (by rw [te]; exact tu)
  rw [if_pos ⟨by omega, by omega⟩, hs] at this
  refine ⟨.pointer (some ⟨g, j * sz, none⟩), ?_, by rw [AV.rep]; exact ⟨g, by rw [e1]; rfl, by rw [Nat.add_zero]⟩⟩
  simp only [execOp, h2, h1, e1, Sem.run_bind, this, Result.andThen_ok, Int.toNat_natCast]
  simp [add_mid]
/-- The address of an element of a slice of own slices. -/
theorem p_index_sv {e b i n : Nat} [hT : SlT P t e 1 b] {k : IntKind} {a : Int} {j : Nat} (hx : evA env x = .sv i n) (hy : evA env y = .r (.v (.int k a))) (ha : a = (j : Int)) (hj : Nat.blt j n = true) :
    ReadOk P ⟨d, .indexAddr t x y, ty, pos, af, g⟩ env H [] (.pt i j) := by
  subst ha
  have hj := blt_t.1 hj
  refine ⟨fun i b h => mem_nil h, fun i hi => (ids_ev hx i (by simpa [AV.ids] using hi)).imp id fun ⟨_, _, h, _⟩ => mem_nil h, fun ac w Z M hr hh => ?_⟩
  have h1 := hr x (by simp [Op.operands])
  have h2 := ev_v hy (hr y (by simp [Op.operands]))
  rw [hx, AV.rep] at h1
  obtain ⟨g, e1, e2⟩ := h1
  obtain ⟨ti, z, t1, t2, t3, t4, t5⟩ := SlT.inf (P := P) (t := t) (e := e) (sz := 1) (b := b)
  have tu := SlT.und (P := P) (t := t) (e := e) (sz := 1) (b := b)
  have te : P.elem t = e := by simp [Program.elem, tu]
  have hs : (sizeOf (P.elem t)).run P w = .ok 1 w := by rw [te]; simp [sizeOf, typeInfo, t1, t3]
  have := run_indexAt_slice (P := P) w t ⟨g, 0, none⟩ n n k (j : Int) (by rw [te]; exact tu)
  rw [if_pos ⟨by omega, by omega⟩, hs] at this
  refine ⟨.pointer (some ⟨g, j, none⟩), ?_, by rw [AV.rep]; exact ⟨g, e1, rfl⟩⟩
  simp only [execOp, h2, e2, Sem.run_bind, this, Result.andThen_ok, Int.toNat_natCast]
  simp [add_mid]
/-- A cell of an element of an own slice is read. -/
theorem p_load_pe1 {i T k f : Nat} {e : List RV} {c : RV} [OnT P t] (hx : evA env x = .pe i sz k f) (hH : H i = some (.row T sz es)) (he : es[k]? = some e) (hc : e[f]? = some c) : ReadOk P ⟨d, .load t x, ty, pos, af, g⟩ env H [(i, .row T sz es)] (.r c) := by
  refine ⟨fun i b h => by obtain ⟨rfl, rfl⟩ := mem1 h; exact hH, fun i hi => by simp [AV.ids] at hi, fun a w Z M hr hh => ?_⟩
  have h1 := hr x (by simp [Op.operands])
  rw [hx, AV.rep] at h1
  have hj := get_lt he
  obtain ⟨g, cap, cur, us, e1, hg, k1, k2, k3, k4, k5, k6, k7⟩ := held_row (hh i _ List.mem_cons_self) (by rintro rfl; simp at hj)
  obtain ⟨b, e2, e3⟩ := h1
  have hb : b = g := by rw [e1] at e2; simpa [blk] using e2.symm
  subst hb
  obtain ⟨u, h7, h8, h9⟩ := k6.get (flat_get k7 he hc)
  obtain ⟨D, hu, hD⟩ := OnT.und (P := P) (t := t)
  refine ⟨u, ?_, by rw [AV.rep]; exact h9⟩
  have hcell : w.cell? ⟨b, k * sz + f, none⟩ = some u := by
    rw [cell_of_row w b _ cur T (0, 0) hg]
    rw [← k4, List.getElem?_take] at h7
    split at h7
    · simpa using h7
    · cases h7
  simp only [execOp, e3, Instr.loadAt, Instr.sureAddr, Sem.run_bind, Sem.run_pure, Result.andThen_ok, run_loadVar_one w _ t D u hu hD hcell]
/-- An element of an own slice (a struct) is read. -/
theorem p_load_peN {i T k : Nat} {e : List RV} [AgT P t sz] (hx : evA env x = .pe i sz k 0) (hH : H i = some (.row T sz es)) (he : es[k]? = some e) : ReadOk P ⟨d, .load t x, ty, pos, af, g⟩ env H [(i, .row T sz es)] (.ag (e.map .r)) := by
  refine ⟨fun i b h => by obtain ⟨rfl, rfl⟩ := mem1 h; exact hH, fun i hi => ?_, fun a w Z M hr hh => ?_⟩
  · rw [AV.ids, idss_mem_iff] at hi
    obtain ⟨c, hc, hci⟩ := hi
    obtain ⟨c', _, rfl⟩ := List.mem_map.1 hc
    simp [AV.ids] at hci
  have h1 := hr x (by simp [Op.operands])
  rw [hx, AV.rep] at h1
  have hj := get_lt he
  obtain ⟨g, cap, cur, us, e1, hg, k1, k2, k3, k4, k5, k6, k7⟩ := held_row (hh i _ List.mem_cons_self) (by rintro rfl; simp at hj)
  obtain ⟨b, e2, e3⟩ := h1
  have hb : b = g := by rw [e1] at e2; simpa [blk] using e2.symm
  subst hb
  obtain ⟨D, hu, hD⟩ := AgT.und (P := P) (t := t) (n := sz)
  have hel : e.length = sz := k7 e (List.mem_of_getElem? he)
  have hsub : (es.flatten.drop (k * sz)).take sz = e := by
    apply List.ext_getElem?
    intro f
    rw [List.getElem?_take]
    split
    · rename_i hf
      rw [List.getElem?_drop]
      have hc : e[f]? = some (e[f]'(by omega)) := List.getElem?_eq_getElem _
      rw [hc]
      exact flat_get k7 he hc
    · rw [List.getElem?_eq_none (by omega)]
  have hr2 := ((k6.drop (k * sz)).take sz)
  rw [hsub] at hr2
  refine ⟨.agg ((us.drop (k * sz)).take sz).toArray, ?_, by rw [AV.rep]; exact ⟨_, rfl, rvs_reps hr2⟩⟩
  have hl : (loadCells ⟨b, k * sz + 0, none⟩ sz).run P w = .ok ((us.drop (k * sz)).take sz).toArray w := by
    have := run_loadCells_list (P := P) w ⟨b, k * sz + 0, none⟩ ((us.drop (k * sz)).take sz) (fun q v hv => by
      rw [add_mid, cell_of_row w b _ cur T (0, 0) hg]
      rw [List.getElem?_take] at hv
      split at hv
      · rw [List.getElem?_drop, ← k4, List.getElem?_take] at hv
        split at hv
        · simpa using hv
        · cases hv
      · cases hv)
    rwa [show ((us.drop (k * sz)).take sz).length = sz by rw [← hr2.len, hel]] at this
  simp only [execOp, e3, Instr.loadAt, Instr.sureAddr, loadVar, Sem.run_bind, Sem.run_pure, Result.andThen_ok, run_agg hu hD, run_sizeOf AgT.size, if_true, hl]
end

section
variable {P : Program} {L : Ln} {N : Nat} {ops : Array Oper} {chk : List (Nat × Sp) → Bool} {Q : St → Prop} {l : List Oper} {E : List (Nat × AV)} {H : List (Nat × Option Blk)} {n : Nat} {tr : List (Nat × Sp)}
variable {d : Nat} {ty : TypeId} {pos : String} {af : Array Edge} {g : Option (Nat × Bool)} {t : TypeId} {x y : Operand}

/-- A store into an element of an own slice. -/
theorem w_store_pe {i T sz k f m : Nat} {es : List (List RV)} {e ds : List RV} (hx : evA (get E) x = .pe i sz k f) (hy : rvs (evA (get E) y) = some ds) (hok : ds.all rvOk = true) (hH : getH H i = some (.row T sz es)) (he : es[k]? = some e) (hs : (P.info? t).map (·.size) = some m) (hm : ds.length = m) (hf : Nat.ble (f + m) sz = true)
    (hg : Wanted ops (get E) ⟨none, .store t x y, ty, pos, af, g⟩ true)
    (h : wpA P L N ops chk Q l ⟨E, (i, some (.row T sz (es.set k (setA e f ds)))) :: H, n⟩ ((n, ⟨true, [(i, .row T sz es)], .r (.v undef), [(i, some (.row T sz (es.set k (setA e f ds))))], []⟩) :: tr)) :
    wpA P L N ops chk Q (⟨none, .store t x y, ty, pos, af, g⟩ :: l) ⟨E, H, n⟩ tr := by
  have hf := ble_t.1 hf
  have hkl := get_lt he
  refine ⟨⟨true, [(i, .row T sz es)], .r (.v undef), [(i, some (.row T sz (es.set k (setA e f ds))))], []⟩, ⟨(fun x hx => by cases hx), hg, fun _ ac w Z M hM hr hh hdist => ?_, (fun h => by cases h), fun D hD hDH hfr => ?_⟩, h⟩
  · have hxr : (evA (get E) x).rep Z M w (ac.eval x) := hr x (by simp [Op.operands])
    have hyr : (evA (get E) y).rep Z M w (ac.eval y) := hr y (by simp [Op.operands])
    rw [hx, AV.rep] at hxr
    obtain ⟨hheld, hMj⟩ := hh i (.row T sz es) (by simp)
    have hrv := rvs_rep hy hok hyr
    obtain ⟨q, cap, cur, us, e1, hq, k1, k2, k3, k4, k5, k6, k7⟩ := held_row hheld (by rintro rfl; simp at hkl)
    obtain ⟨b, e2, e3⟩ := hxr
    have hb : b = q := by rw [e1] at e2; simpa [blk] using e2.symm
    subst hb
    have hcl : (ac.eval y).cells.toList.length = ds.length := hrv.len.symm
    have hfit : k * sz + f + ds.length ≤ es.length * sz := by
      have : (k + 1) * sz ≤ es.length * sz := Nat.mul_le_mul_right _ hkl
      rw [Nat.add_mul] at this
      omega
    have hcapsz : es.length * sz ≤ cap * sz := Nat.mul_le_mul_right _ k1
    have hcs : cur.toList.length = cap * sz := by rw [Array.length_toList]; exact k3
    have hall : (ac.eval y).cells.toList.all (·.oneCell') = true := List.all_eq_true.2 hrv.one
    obtain ⟨w', us', h7, h8, h9, h10⟩ := run_stores (P := P) (b := b) (o := k * sz + f) (T := T) (ac.eval y).cells.toList 0 cur w hq (by rw [hcl]; omega) hall
    have hsz : (sizeOf t).run P w = .ok (ac.eval y).cells.size w := by rw [run_sizeOf hs]; congr 1; have : (ac.eval y).cells.size = (ac.eval y).cells.toList.length := by simp
                                                                       omega
    have hex : (execOp ac.eval ⟨none, .store t x y, ty, pos, af, g⟩).run P w = .ok .skip w' := by
      have : (storeVar t ⟨b, k * sz + f, none⟩ (ac.eval y)).run P w = .ok () w' := by
        simp only [storeVar, Sem.run_bind, hsz, Result.andThen_ok]
        simp [h7]
      simp only [execOp, e3, Instr.storeAt, Instr.sureAddr, Sem.run_bind, Sem.run_pure, Result.andThen_ok, this]
    have hU : Upto M w w' := h10.mono fun q _ hq => by subst hq; exact hMj _ e2
    have hNew : ∀ q, New n ⟨true, [(i, .row T sz es)], .r (.v undef), [(i, some (.row T sz (es.set k (setA e f ds))))], []⟩ Z M q → M q := fun q hq => new_nil rfl hq
    refine exec_skip hex ⟨Z, fun _ _ => rfl, by rw [AV.rep, RV.rep], fun i' c hi => ?_, fun j b h => by simp at h, fun j j' x h => by simp at h, fun j x h => by simp at h, ?_⟩
    · simp only [List.mem_cons, List.not_mem_nil, or_false, Prod.mk.injEq, Option.some.injEq] at hi
      obtain ⟨rfl, rfl⟩ := hi
      have hlen' : (setA us (k * sz + f) (ac.eval y).cells.toList).length = us.length := setA_len _ _ _ (by rw [hcl, k5]; exact hfit)
      refine ⟨setA us (k * sz + f) (ac.eval y).cells.toList, ⟨by rw [hlen', k5, List.length_set], .inr ⟨b, cap, us', by rw [e1, List.length_set], Nat.zero_le _, h8, by rw [List.length_set]; exact k1, k2, ?_, ?_⟩⟩, ?_, fun e' he' => ?_⟩
      · have : us'.size = us'.toList.length := by simp
        rw [this, h9, Nat.add_zero, setA_len _ _ _ (by rw [hcl, hcs]; omega), hcs]
      · rw [h9, Nat.add_zero, List.length_set, ← k4]
        exact setA_take _ _ _ _ (by rw [hcl]; exact hfit) (by rw [hcs]; exact hcapsz)
      · rw [flat_set k7 he (by omega)]
        exact (k6.mono hU fun q _ hq => hNew q hq).setA (hrv.mono hU fun q _ hq => hNew q hq) _
      · rcases List.mem_or_eq_of_mem_set he' with h | h
        · exact k7 e' h
        · subst h
          have hel := k7 e (List.mem_of_getElem? he)
          rw [setA_len _ _ _ (by omega)]; exact hel
    · refine h10.mono fun q _ hq => ?_
      subst hq
      exact ⟨i, some (.row T sz (es.set k (setA e f ds))), by simp, e2⟩
  · refine ⟨fun i' b hb => ?_, fun i' o' ho => ?_, fun i' o' ho => ?_, fun i' ho => ?_, hfr, fun i' hi => by simp [AV.ids] at hi, fun b h => by simp at h, fun i' b hb i'' hi' => ?_⟩
    · simp only [List.mem_cons, List.not_mem_nil, or_false, Prod.mk.injEq] at hb
      obtain ⟨rfl, rfl⟩ := hb
      exact hH
    · simp only [List.mem_cons, List.not_mem_nil, or_false, Prod.mk.injEq] at ho
      obtain ⟨rfl, rfl⟩ := ho
      exact ⟨.row T sz es, by simp⟩
    · simp only [List.mem_cons, List.not_mem_nil, or_false, Prod.mk.injEq] at ho
      obtain ⟨rfl, rfl⟩ := ho
      exact by simp [List.lookup_cons]
    · simp at ho
    · simp only [List.mem_cons, List.not_mem_nil, or_false, Prod.mk.injEq, Option.some.injEq] at hb
      obtain ⟨rfl, rfl⟩ := hb
      simp [Blk.ids] at hi'
/-- The same for elements of one cell. -/
theorem w_store_p1 {i T k : Nat} {es : List (List RV)} {e : List RV} {c : RV} (hx : evA (get E) x = .pe i 1 k 0) (hy : evA (get E) y = .r c) (hok : rvOk c = true) (hH : getH H i = some (.row T 1 es)) (he : es[k]? = some e) (hs : (P.info? t).map (·.size) = some 1) (hl : e.length = 1)
    (hg : Wanted ops (get E) ⟨none, .store t x y, ty, pos, af, g⟩ true)
    (h : wpA P L N ops chk Q l ⟨E, (i, some (.row T 1 (es.set k [c]))) :: H, n⟩ ((n, ⟨true, [(i, .row T 1 es)], .r (.v undef), [(i, some (.row T 1 (es.set k [c])))], []⟩) :: tr)) :
    wpA P L N ops chk Q (⟨none, .store t x y, ty, pos, af, g⟩ :: l) ⟨E, H, n⟩ tr := by
  refine w_store_pe (ds := [c]) (f := 0) hx (by rw [hy]; rfl) (by simp [hok]) hH he hs rfl rfl hg ?_
  have : setA e 0 [c] = [c] := by
    cases e with
    | nil => cases hl
    | cons a e => cases e with | nil => rfl | cons b e => simp at hl
  rw [this]
  exact h
end

/-! ## A literal of own slices -/
theorem own_one {Z : Nat → Value} {M : Nat → Prop} {w : World} {i : Nat} {b : Blk} (h : held Z M w i b) : (Z i).oneCell' = true ∧ (Z i).cells = #[Z i] := by
  cases b with
  | row T sz es => obtain ⟨A, c, e⟩ := held_len h; rw [e]; exact ⟨rfl, rfl⟩
  | full T sz es => obtain ⟨g, us, fr, e, _⟩ := h; rw [e]; exact ⟨rfl, rfl⟩
  | var T cs => obtain ⟨g, us, e, _⟩ := h; rw [e]; exact ⟨rfl, rfl⟩
  | rowk T sz es n c => obtain ⟨g, us, e, _⟩ := h; rw [e]; exact ⟨rfl, rfl⟩
section
variable {P : Program} {env : Nat → AV} {ty : TypeId} {pos : String} {af : Array Edge} {g : Option (Nat × Bool)} {t : TypeId} {o : Option Tmp} {HF : Nat → Option Blk} {k : Nat} {E : List (Nat × AV)}
/-- []T{x, y}: two own slices. -/
theorem m_bslice2 {e b i j : Nat} [hT : SlT P t e 1 b] {x y : Operand} {bi bj : Blk} (hx : evA (get E) x = .ow i) (hy : evA (get E) y = .ow j) (hi : HF i = some bi) (hj : HF j = some bj) :
    MakeOk P ⟨o, .buildSlice t 2 #[(0, x), (1, y)], ty, pos, af, g⟩ (get E) HF [(i, bi), (j, bj)] k (.sv k 2) (.var e [.ow i, .ow j]) := by
  refine ⟨fun i' b' h => ?_, by simp [AV.ids], fun i' hi' => ?_, fun a w Z M hM hr hh => ?_⟩
  · simp only [List.mem_cons, List.not_mem_nil, or_false, Prod.mk.injEq] at h
    rcases h with ⟨rfl, rfl⟩ | ⟨rfl, rfl⟩
    · exact hi
    · exact hj
  · simp only [Blk.ids, AV.idss, AV.ids, List.append_nil, List.cons_append, List.nil_append, List.mem_cons, List.not_mem_nil, or_false] at hi'
    rcases hi' with rfl | rfl
    · rcases ids_ev hx i' (by simp [AV.ids]) with h | ⟨_, _, h, _⟩
      · exact .inl h
      · exact mem_nil h
    · rcases ids_ev hy i' (by simp [AV.ids]) with h | ⟨_, _, h, _⟩
      · exact .inl h
      · exact mem_nil h
  · have h1 := hr x (by simp [Op.operands])
    have h2 := hr y (by simp [Op.operands])
    rw [hx, AV.rep] at h1
    rw [hy, AV.rep] at h2
    obtain ⟨o1, c1⟩ := own_one (hh i bi (by simp))
    obtain ⟨o2, c2⟩ := own_one (hh j bj (by simp))
    obtain ⟨ti, z, t1, t2, t3, t4, t5⟩ := SlT.inf (P := P) (t := t) (e := e) (sz := 1) (b := b)
    have tu := SlT.und (P := P) (t := t) (e := e) (sz := 1) (b := b)
    have hrun : (Instr.buildSlice t 2 #[(0, Z i), (1, Z j)]).run P w = .ok (.slice (some ⟨w.heap.size, 0, none⟩) 2 2) (w.alloc (.cells #[Z i, Z j] e)) := by
      refine run_buildSlice w t e 2 _ _ ti z tu t1 t2 (by rw [t3]; omega) (by rw [t3]; decide) ?_
      rw [t3]
      have := Great.fill_whole (s := 1) (by decide) [Z i, Z j] (Array.map (fun x => z.cells[x % z.cells.size]!) (Array.range 2)) (by intro v hv; simp at hv; rcases hv with rfl | rfl; (rw [c1]; rfl); (rw [c2]; rfl)) (by simp)
      simpa [c1, c2] using this
    have hex : (execOp a.eval ⟨o, .buildSlice t 2 #[(0, x), (1, y)], ty, pos, af, g⟩).run P w = .ok (.value (.slice (some ⟨w.heap.size, 0, none⟩) 2 2)) (w.alloc (.cells #[Z i, Z j] e)) := by
      simp only [execOp, List.map_toArray, List.map_cons, List.map_nil, h1, h2, Sem.run_bind, hrun, Result.andThen_ok, Sem.run_pure]
    refine ⟨_, .pointer (some ⟨w.heap.size, 0, none⟩), _, hex, (Below.refl _ _).alloc (Nat.le_refl _) _, fun q hq => by simp [blk] at hq; omega, fun Z' hz' hzo => ⟨by rw [AV.rep, hz']; exact ⟨_, rfl, rfl⟩, fun hids => ?_⟩⟩
    have hzi : Z' i = Z i := hzo i (hids i (by simp [Blk.ids, AV.idss, AV.ids]))
    have hzj : Z' j = Z j := hzo j (hids j (by simp [Blk.ids, AV.idss, AV.ids]))
    refine ⟨w.heap.size, #[Z i, Z j], hz', heap_new _ _, ?_, by simp [o1, o2]⟩
    simp only [AV.reps, AV.rep, hzi, hzj]
    exact ⟨_, _, rfl, rfl, _, _, rfl, rfl, rfl⟩
end
section
variable {H : Nat → Option Blk} {ρ : Nat → Nat} {G : List Nat} {cs ds : List AV} {S : St} {l : List (Nat × AV)} {t : Nat}
theorem cfl_ow {i j : Nat} (h : CfL H ρ G cs ds) (e : ρ i = j) : CfL H ρ G (.ow j :: cs) (.ow i :: ds) := by subst e; exact .cons _ _ _ _ (.ow _) h
theorem le_sv {i j n : Nat} (h : eLe S ρ G l) (e : ρ i = j) (hx : get S.env t = .sv j n) : eLe S ρ G ((t, .sv i n) :: l) := by
  subst e; refine ⟨?_, h⟩; rw [show S.envF t = .sv (ρ i) n from hx]; exact .sv _ _
theorem le_ol {i j n : Nat} (h : eLe S ρ G l) (e : ρ i = j) (hx : get S.env t = .ol j n) : eLe S ρ G ((t, .ol i n) :: l) := by
  subst e; refine ⟨?_, h⟩; rw [show S.envF t = .ol (ρ i) n from hx]; exact .ol _ _
end
end Go.Ab
