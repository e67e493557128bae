/- Texts of the second layer in one: Aw Ab13 Ab14 Ab15 Ab16 Ab17 Ab18 Ab19 Ab20 Ab21 Ab22 Ab23 Ab24 Ab25 Ab26. -/
import Derived.Maps.AppendAt
import Derived.Deep.DeepAppendWide
import Derived.ArgAppend
import Derived.Test.YtbndknhljkpijaaDoorGA
import Derived.OwnWalk
import Derived.Laws.BytesArg
import Derived.Laws.Strings
import Derived.Laws.StructEq
import Derived.Laws.Small
import Derived.ChangeKeysEq
import Derived.Laws.CopyRow
import Derived.Laws.Slices
/- An append's laws in the kit, with the wider bound, and with the word where the new slice lies. No conditions. -/
namespace Go.Ab
open Go
set_option linter.unusedVariables false
theorem wide_bound {k b : Nat} (h : k * b ≤ 211106232532992) (hb : b ≤ 4096) : (k + k / 4 + 192) * b ≤ 281474976710656 := by
  have h1 : k / 4 * b * 4 ≤ k * b := by
    rw [Nat.mul_right_comm]; exact Nat.mul_le_mul_right _ (Nat.div_mul_le_self k 4)
  rw [Nat.add_mul, Nat.add_mul]
  have h2 : 192 * b ≤ 192 * 4096 := Nat.mul_le_mul_left _ hb
  omega
variable {P : Program} (w : World)
theorem run_append_wide_at (base : Nat) (t ty e : TypeId) (i : TypeInfo) (z : Value) (size bytes : Nat) (ht : P.underlying t = some (.slice e)) (hi : P.info? e = some i) (hz : i.zero = some z)
    (hsize : i.size = size) (hby : i.bytes = bytes) (hzs : z.cells.size = size) (hsz : 0 < size)
    (v : Value) (n : Nat) (xs : List Value) (hown : w.ownsRow base e size v n xs)
    (a : Addr) (m c : Nat) (news : List Value) (hl : news.length = m * size) (hnews : ∀ j u, news[j]? = some u → w.cell? (a.add j) = some u) (h1 : ∀ u ∈ news, u.oneCell' = true)
    (h63 : n + m ≤ maxLen) (hbytes : ((n + m) + (n + m) / 4 + 192) * bytes ≤ 281474976710656) (hbase : base ≤ w.heap.size) :
    ∃ v' w', (Builtin.append_ #[t, t] ty #[v, .slice (some a) m c]).run P w = .ok v' w' ∧ w'.ownsRow base e size v' (n + m) (xs ++ news) ∧ w.grownBy w' v.ownBlock ∧
      (v' = .slice none 0 0 ↔ v = .slice none 0 0 ∧ m = 0) ∧ (v'.ownBlock = v.ownBlock ∨ v'.ownBlock = some w.heap.size) := by
  obtain ⟨v', w', hr, h2, h3, h4⟩ := run_append_own_wide (P := P) w base t ty e i z size bytes ht hi hz hsize hby hzs hsz v n xs hown a m c news hl hnews h1 h63 hbytes hbase
  refine ⟨v', w', hr, h2, h3, h4, ?_⟩
  subst hsize
  subst hby
  have h6 : n + m ≤ 9223372036854775807 := by simp only [maxLen] at h63; omega
  rcases hown.2 with ⟨rfl, rfl⟩ | ⟨g, cap, cur, rfl, hbg, hg, hnc, hcm, hcs, htake⟩
  · by_cases hm : m = 0
    · rw [h4.2 ⟨rfl, hm⟩]; exact .inl rfl
    · have hk := run_append_nil (P := P) w t ty e i z ht hi hz a m c news hl hnews (by omega) (by omega) (by
        refine Nat.le_trans (Nat.mul_le_mul_right _ ?_) hbytes
        omega)
      have he := hr.symm.trans hk
      injection he with e1 e2
      rw [e1]
      exact .inr rfl
  · by_cases hroom : n + m ≤ cap
    · have hfit : n * i.size + news.length ≤ cur.size := by rw [hl, hcs, ← Nat.add_mul]; exact Nat.mul_le_mul_right _ hroom
      have he := hr.symm.trans (run_append_room (P := P) w t ty e i ht hi g n cap cur hg a m c news hl hnews h1 hroom hfit)
      injection he with e1 e2
      rw [e1]
      exact .inl rfl
    · have holds : ∀ j u, xs[j]? = some u → w.cell? ((⟨g, 0, none⟩ : Addr).add j) = some u := hown.cells (g := g) rfl
      have he := hr.symm.trans (run_append_grow (P := P) w t ty e i z ht hi hz ⟨g, 0, none⟩ n cap xs hown.1 holds a m c news hl hnews (by omega) (by omega) (growslice_fits_wide (by omega) hbytes))
      injection he with e1 e2
      rw [e1]
      exact .inr rfl
theorem run_append_arg_wide (t ty e : TypeId) (i : TypeInfo) (z : Value) (size bytes : Nat) (ht : P.underlying t = some (.slice e)) (hi : P.info? e = some i) (hz : i.zero = some z)
    (hsize : i.size = size) (hby : i.bytes = bytes) (hzs : z.cells.size = size) (hsz : 0 < size)
    (b : Addr) (n cap : Nat) (olds : List Value) (hlo : olds.length = n * size) (holds : ∀ j u, olds[j]? = some u → w.cell? (b.add j) = some u)
    (a : Addr) (m c : Nat) (news : List Value) (hl : news.length = m * size) (hnews : ∀ j u, news[j]? = some u → w.cell? (a.add j) = some u)
    (hg : cap < n + m) (h63 : n + m ≤ maxLen) (hbytes : ((n + m) + (n + m) / 4 + 192) * bytes ≤ 281474976710656) :
    ∃ v' w', (Builtin.append_ #[t, t] ty #[.slice (some b) n cap, .slice (some a) m c]).run P w = .ok v' w' ∧ w'.ownsRow w.heap.size e size v' (n + m) (olds ++ news) ∧ w.grownBy w' none := by
  subst hsize
  subst hby
  have h6 : n + m ≤ 9223372036854775807 := by simp only [maxLen] at h63; omega
  have hnl : (olds ++ news).length = (n + m) * i.size := by rw [List.length_append, hlo, hl, Nat.add_mul]
  refine ⟨_, _, run_append_grow (P := P) w t ty e i z ht hi hz b n cap olds hlo holds a m c news hl hnews hg (by omega) (growslice_fits_wide hg hbytes), ⟨hnl, .inr ⟨w.heap.size, _, _, rfl, Nat.le_refl _, heap_alloc_new w.drew _, grownCap_ge w (n + m) cap e, grownCap_le_maxLen w (n + m) cap e h63, ?_, ?_⟩⟩, ⟨rfl, rfl, rfl, by simp, fun k hk _ => heap_alloc_old w.drew _ k hk⟩⟩
  · have := grownCap_ge w (n + m) cap e
    simp only [Array.size_append, List.size_toArray, size_zeroCells, hzs, hlo, hl, ← Nat.add_mul]
    congr 1
    omega
  · simp only [Array.toList_append, List.append_assoc]
    rw [← List.append_assoc, ← hnl]
    exact List.take_left
end Go.Ab

/- The second layer: slice literals, appends, cuts, struct literals. No conditions. -/
namespace Go.Ab
open Go.RowKit
set_option linter.unusedVariables false
set_option linter.unusedSimpArgs false

/-- The cells of a value that an element may be. -/
def rvs : AV → Option (List RV)
  | .r c => some [c]
  | .ag cs => cs.mapM fun c => match c with | .r c => some c | _ => none
  | _ => none
def rvOk : RV → Bool
  | .v x => x.oneCell'
  | .sl _ _ => true
theorem rv_one {B : Nat → Prop} {w : World} {c : RV} {u : Value} (h : RV.rep B w c u) (hc : rvOk c = true) : u.oneCell' = true ∧ u.cells = #[u] := by
  cases c with
  | v x => rw [RV.rep] at h; subst h; refine ⟨hc, ?_⟩; simp only [rvOk] at hc; cases u <;> first | rfl | (simp [Value.oneCell'] at hc)
  | sl sz es => rw [RV.rep] at h; obtain ⟨A, c, rfl, _⟩ := h; exact ⟨rfl, rfl⟩
theorem rvs_ag {Z : Nat → Value} {B : Nat → Prop} {w : World} : ∀ (cs : List AV) (e : List RV) (us : List Value), (cs.mapM fun c => match c with | .r c => some c | _ => none) = some e → e.all rvOk = true → AV.reps Z B w cs us → RVs B w e us
  | [], e, us, h, _, hr => by rw [AV.reps] at hr; subst hr; simp at h; subst h; exact .nil
  | c :: cs, e, us, h, ho, hr => by
    rw [AV.reps] at hr
    obtain ⟨u, us', rfl, h1, h2⟩ := hr
    rw [List.mapM_cons] at h
    cases c with
    | r c =>
      cases hm : (cs.mapM fun c => match c with | .r c => some c | _ => none) with
      | none => rw [hm] at h; simp at h
      | some e' =>
        rw [hm] at h
        simp at h
        subst h
        rw [List.all_cons, Bool.and_eq_true] at ho
        rw [AV.rep] at h1
        exact .cons (rv_one h1 ho.1).1 h1 (rvs_ag cs e' us' hm ho.2 h2)
    | _ => simp at h
theorem rvs_rep {Z : Nat → Value} {B : Nat → Prop} {w : World} {a : AV} {e : List RV} {u : Value} (h : rvs a = some e) (ho : e.all rvOk = true) (hr : a.rep Z B w u) : RVs B w e u.cells.toList := by
  cases a with
  | r c =>
    simp only [rvs, Option.some.injEq] at h
    subst h
    rw [AV.rep] at hr
    simp only [List.all_cons, List.all_nil, Bool.and_true] at ho
    obtain ⟨h1, h2⟩ := rv_one hr ho
    rw [h2]
    exact .cons h1 hr .nil
  | ag cs => rw [AV.rep] at hr; obtain ⟨us, rfl, h2⟩ := hr; exact rvs_ag cs e _ h ho h2
  | _ => simp [rvs] at h

section
variable {P : Program} {L : Ln} {N : Nat} {ops : Array Oper} {chk : List (Nat × Sp) → Bool} {Q : St → Prop} {l : List Oper} {E : List (Nat × AV)} {H : List (Nat × Option Blk)} {n : Nat} {tr : List (Nat × Sp)}
variable {d : Nat} {ty : TypeId} {pos : String} {af : Array Edge} {g : Option (Nat × Bool)} {t : TypeId} {x y : Operand}

def elsB (sz : Nat) (es : List (List RV)) : Bool := es.all fun e => Nat.beq e.length sz && e.all rvOk
theorem bslice_core {e sz b : Nat} [hT : SlT P t e sz b] {o : Option Tmp} {m : Nat} (xs : List Operand) {parts : Array (Nat × Operand)} {es : List (List RV)} (hp : parts.toList = xs.zipIdx.map fun p => (p.2, p.1)) (hm : m = xs.length)
    (hes : xs.map (fun x => rvs (evA (get E) x)) = es.map some) (hok : elsB sz es = true) (hsm : Nat.ble (m * sz) 16777216 = true) : ∀ (a : Act) (w : World) (Z : Nat → Value) (M : Nat → Prop), (∀ x ∈ (Op.buildSlice t m parts).operands.toList, (evA (get E) x).rep Z M w (a.eval x)) →
      ∃ us : List Value, (execOp a.eval ⟨o, .buildSlice t m parts, ty, pos, af, g⟩).run P w = .ok (.value (.slice (some ⟨w.heap.size, 0, none⟩) m m)) (w.alloc (.cells us.toArray e)) ∧ RVs M w es.flatten us ∧ us.length = m * sz ∧ es.length = m ∧ (∀ e ∈ es, e.length = sz) ∧ m ≤ m * sz ∧ m * sz ≤ 16777216 := by
  intro a w Z M hr
  have hlen : es.length = xs.length := by have := congrArg List.length hes; simpa using this.symm
  have hr' : ∀ x ∈ xs, (evA (get E) x).rep Z M w (a.eval x) := fun x hx => hr x (by
    show x ∈ ((parts.toList.map (·.2)).toArray).toList
    rw [hp]
    simp only [List.map_map, List.toList_toArray]
    refine List.mem_map.2 ?_
    obtain ⟨i, hi, e⟩ := List.getElem_of_mem hx
    exact ⟨(x, i), by rw [List.mem_iff_getElem?]; exact ⟨i, by simp [hi, e]⟩, rfl⟩)
  unfold elsB at hok
  rw [List.all_eq_true] at hok
  -- each part's cells
  have key : ∀ (xs : List Operand) (es : List (List RV)), (∀ x ∈ xs, (evA (get E) x).rep Z M w (a.eval x)) → xs.map (fun x => rvs (evA (get E) x)) = es.map some → (∀ e ∈ es, (Nat.beq e.length sz && e.all rvOk) = true) →
      RVs M w es.flatten ((xs.map a.eval).flatMap fun v => v.cells.toList) ∧ ∀ v ∈ xs.map a.eval, v.cells.size = sz := by
    intro xs
    induction xs with
    | nil =>
      intro es _ h _
      have : es = [] := by cases es with | nil => rfl | cons e es => simp at h
      subst this
      exact ⟨.nil, by simp⟩
    | cons x xs ih =>
      intro es hx h ho
      cases es with
      | nil => simp at h
      | cons e es =>
        simp only [List.map_cons, List.cons.injEq] at h
        obtain ⟨i1, i2⟩ := ih es (fun y hy => hx y (by simp [hy])) h.2 (fun e he => ho e (by simp [he]))
        have h3 := ho e (by simp)
        rw [Bool.and_eq_true] at h3
        have h4 := rvs_rep h.1 h3.2 (hx x (by simp))
        refine ⟨?_, ?_⟩
        · rw [List.flatten_cons, List.map_cons, List.flatMap_cons]
          exact h4.append i1
        · intro v hv
          rw [List.map_cons, List.mem_cons] at hv
          rcases hv with rfl | hv
          · have := h4.len
            rw [Nat.eq_of_beq_eq_true h3.1] at this
            simpa using this.symm
          · exact i2 v hv
  obtain ⟨k1, k2⟩ := key xs es hr' hes hok
  obtain ⟨i, z, t1, t2, t3, t4, t5⟩ := SlT.inf (P := P) (t := t) (e := e) (sz := sz) (b := b)
  have tu := SlT.und (P := P) (t := t) (e := e) (sz := sz) (b := b)
  have tp := SlT.pos (P := P) (t := t) (e := e) (sz := sz) (b := b)
  have hsm := ble_t.1 hsm
  have hev : (parts.map fun p => (p.1, a.eval p.2)).toList = ((xs.map a.eval).zipIdx 0).map fun x => (x.2, x.1) := by
    rw [Array.toList_map, hp, List.zipIdx_map, List.map_map, List.map_map]
    rfl
  have hcl : ((xs.map a.eval).flatMap fun v => v.cells.toList).length = m * sz := by
    rw [← k1.len, flatten_len sz es (fun e he => by have := hok e he; rw [Bool.and_eq_true] at this; exact Nat.eq_of_beq_eq_true this.1), hlen, hm]
  have hrun : (Instr.buildSlice t m (parts.map fun p => (p.1, a.eval p.2))).run P w = .ok (.slice (some ⟨w.heap.size, 0, none⟩) m m) (w.alloc (.cells ((xs.map a.eval).flatMap fun v => v.cells.toList).toArray e)) := by
    by_cases h0 : m = 0
    · subst h0
      have : xs = [] := List.eq_nil_of_length_eq_zero hm.symm
      subst this
      have hp' : parts = #[] := by apply Array.ext'; simpa using hp
      subst hp'
      have hz : Array.map (fun _ => (default : Value)) (Array.range 0) = #[] := by apply Array.ext'; simp
      simp [Instr.buildSlice, run_underlying tu, sizeOf, typeInfo, t1, Instr.fill, newRow]
      rw [hz]
    · refine run_buildSlice w t e m _ _ i z tu t1 t2 (by rw [t3]; omega) (by rw [t3]; exact Nat.mul_ne_zero h0 (by omega)) ?_
      rw [hev, t3]
      exact Great.fill_whole tp _ _ k2 (by simp [hm])
  have hexec : (execOp a.eval ⟨o, .buildSlice t m parts, ty, pos, af, g⟩).run P w = .ok (.value (.slice (some ⟨w.heap.size, 0, none⟩) m m)) (w.alloc (.cells ((xs.map a.eval).flatMap fun v => v.cells.toList).toArray e)) := by
    have : (parts.map fun (i, x) => (i, a.eval x)) = parts.map fun p => (p.1, a.eval p.2) := rfl
    simp only [execOp, this, Sem.run_bind, hrun, Result.andThen_ok, Sem.run_pure]
  exact ⟨_, hexec, k1, hcl, by rw [hlen, hm], fun e he => by have := hok e he; rw [Bool.and_eq_true] at this; exact Nat.eq_of_beq_eq_true this.1, Nat.le_mul_of_pos_right _ tp, hsm⟩
/-- A slice literal. -/
theorem m_bslice {e sz b : Nat} [hT : SlT P t e sz b] {o : Option Tmp} {HF : Nat → Option Blk} {k m : Nat} (xs : List Operand) {parts : Array (Nat × Operand)} {es : List (List RV)} (hp : parts.toList = xs.zipIdx.map fun p => (p.2, p.1)) (hm : m = xs.length)
    (hes : xs.map (fun x => rvs (evA (get E) x)) = es.map some) (hok : elsB sz es = true) (hsm : Nat.ble (m * sz) 16777216 = true) : MakeOk P ⟨o, .buildSlice t m parts, ty, pos, af, g⟩ (get E) HF [] k (.ow k) (.row e sz es) := by
  refine ⟨fun i b h => mem_nil h, rfl, fun i hi => by simp [Blk.ids] at hi, fun a w Z M hM hr _ => ?_⟩
  obtain ⟨us, h1, h2, h3, h4, h5, h6, h7⟩ := bslice_core (P := P) (t := t) (o := o) (ty := ty) (pos := pos) (af := af) (g := g) xs hp hm hes hok hsm a w Z M hr
  refine ⟨_, .slice (some ⟨w.heap.size, 0, none⟩) m m, _, h1, (Below.refl _ _).alloc (Nat.le_refl _) _, fun q hq => by simp [blk] at hq; omega, fun Z' hz' hzo => ⟨by rw [AV.rep, hz'], fun _ => ?_⟩⟩
  refine ⟨us, ⟨by rw [h3, h4], .inr ⟨w.heap.size, m, _, by rw [hz', h4], Nat.zero_le _, heap_new _ _, by omega, by unfold maxLen; omega, by simpa using h3, ?_⟩⟩, ?_, h5⟩
  · rw [List.take_of_length_le (by simp only [h3, h4]; exact Nat.le_refl _)]
  · exact h2.mono (Upto.alloc (M := M) w _) (fun q hq hb => by
      rcases hb with hb | hb
      · exact hb
      · simp [blk] at hb; omega)
theorem m_bfull {e sz b : Nat} [hT : SlT P t e sz b] {o : Option Tmp} {HF : Nat → Option Blk} {k m : Nat} (xs : List Operand) {parts : Array (Nat × Operand)} {es : List (List RV)} (hp : parts.toList = xs.zipIdx.map fun p => (p.2, p.1)) (hm : m = xs.length)
    (hes : xs.map (fun x => rvs (evA (get E) x)) = es.map some) (hok : elsB sz es = true) (hsm : Nat.ble (m * sz) 16777216 = true) : MakeOk P ⟨o, .buildSlice t m parts, ty, pos, af, g⟩ (get E) HF [] k (.ow k) (.full e sz es) := by
  refine ⟨fun i b h => mem_nil h, rfl, fun i hi => by simp [Blk.ids] at hi, fun a w Z M hM hr _ => ?_⟩
  obtain ⟨us, h1, h2, h3, h4, h5, h6, h7⟩ := bslice_core (P := P) (t := t) (o := o) (ty := ty) (pos := pos) (af := af) (g := g) xs hp hm hes hok hsm a w Z M hr
  refine ⟨_, .slice (some ⟨w.heap.size, 0, none⟩) m m, _, h1, (Below.refl _ _).alloc (Nat.le_refl _) _, fun q hq => by simp [blk] at hq; omega, fun Z' hz' hzo => ⟨by rw [AV.rep, hz'], fun _ => ?_⟩⟩
  refine ⟨w.heap.size, us.toArray, (0, 0), by rw [hz', h4], heap_new _ _, by unfold maxLen; omega, ?_, h5⟩
  exact h2.mono (Upto.alloc (M := M) w _) (fun q hq hb => by
      rcases hb with hb | hb
      · exact hb
      · simp [blk] at hb; omega)

/-- An append onto a row of the call's own. -/
theorem run_append_gen {e sz b : Nat} [hT : SlT P t e sz b] (w : World) (ty : TypeId) (v : Value) (n m c : Nat) (xs news : List Value) (hown : w.ownsRow 0 e sz v n xs) (A : Option Addr) (hl : news.length = m * sz) (hA : m ≠ 0 → ∃ ad, A = some ad ∧ ∀ j u, news[j]? = some u → w.cell? (ad.add j) = some u) (h1 : ∀ u ∈ news, u.oneCell' = true)
    (hb : (n + m) * b ≤ 211106232532992) (h63 : n + m ≤ maxLen) :
    ∃ v' w', (Builtin.append_ #[t, t] ty #[v, .slice A m c]).run P w = .ok v' w' ∧ w'.ownsRow 0 e sz v' (n + m) (xs ++ news) ∧ w.grownBy w' v.ownBlock ∧ (v'.ownBlock = v.ownBlock ∨ v'.ownBlock = some w.heap.size) := by
  obtain ⟨i, z, t1, t2, t3, t4, t5⟩ := SlT.inf (P := P) (t := t) (e := e) (sz := sz) (b := b)
  have tu := SlT.und (P := P) (t := t) (e := e) (sz := sz) (b := b)
  have tp := SlT.pos (P := P) (t := t) (e := e) (sz := sz) (b := b)
  rcases A with _ | ad
  · have hm : m = 0 := by
      rcases Nat.eq_zero_or_pos m with h | h
      · exact h
      · obtain ⟨ad, h2, _⟩ := hA (by omega); cases h2
    subst hm
    have hn : news = [] := List.eq_nil_of_length_eq_zero (by omega)
    subst hn
    refine ⟨v, w, ?_, by simpa using hown, World.grownBy.refl w _, .inl rfl⟩
    rcases hown.2 with ⟨rfl, rfl⟩ | ⟨g, cap, cur, rfl, _, _, hnc, _⟩
    · simp [Builtin.append_, run_underlying tu, sizeOf, typeInfo, t1, Builtin.lenOf, Builtin.firstCells]
    · simp [Builtin.append_, run_underlying tu, sizeOf, typeInfo, t1, Builtin.lenOf, Builtin.firstCells, hnc, storeCells]
  · by_cases hm : m = 0
    · subst hm
      have hn : news = [] := List.eq_nil_of_length_eq_zero (by omega)
      subst hn
      obtain ⟨v', w', h2, h3, h4, _, h5⟩ := run_append_wide_at (P := P) w 0 t ty e i z sz b tu t1 t2 t3 t4 t5 tp v n xs hown ad 0 c [] (by simp) (fun j u h => by simp at h) h1 (by omega) (wide_bound hb (SlT.small (P := P) (t := t) (e := e) (sz := sz))) (Nat.zero_le _)
      exact ⟨v', w', h2, h3, h4, h5⟩
    · obtain ⟨ad', e1, hc⟩ := hA hm
      injection e1 with e1
      subst e1
      obtain ⟨v', w', h2, h3, h4, _, h5⟩ := run_append_wide_at (P := P) w 0 t ty e i z sz b tu t1 t2 t3 t4 t5 tp v n xs hown ad m c news hl hc h1 h63 (wide_bound hb (SlT.small (P := P) (t := t) (e := e) (sz := sz))) (Nat.zero_le _)
      exact ⟨v', w', h2, h3, h4, h5⟩
theorem own_blk {w : World} {T sz n : Nat} {v : Value} {us : List Value} (h : w.ownsRow 0 T sz v n us) : v.ownBlock = blk v ∧ ∃ A c, v = .slice A n c := by
  rcases h.2 with ⟨rfl, rfl⟩ | ⟨g, cap, cur, rfl, _⟩
  · exact ⟨rfl, _, _, rfl⟩
  · exact ⟨rfl, _, _, rfl⟩

/-- What an append's second operand may be: a slice that is only read, or an own one. -/
inductive Src (env : Nat → AV) (H : Nat → Option Blk) (T sz : Nat) (x : Operand) : List (List RV) → List (Nat × Blk) → Prop
  | sl (es) : evA env x = .r (.sl sz es) → Src env H T sz x es []
  | ow (j) (es) : evA env x = .ow j → H j = some (.row T sz es) → Src env H T sz x es [(j, .row T sz es)]
  | nl : evA env x = .r (.v (.slice none 0 0)) → Src env H T sz x [] []
  | so (j o n c T') (cs) (es) : evA env x = .so j o n c → H j = some (.var T' cs) → es.length = n → (cs.drop o).take n = es.flatten.map .r → (∀ e ∈ es, e.length = sz) → sz = 1 → Src env H T sz x es [(j, .var T' cs)]
theorem reps_drop' {Z : Nat → Value} {B : Nat → Prop} {w : World} : ∀ (k : Nat) {cs : List AV} {us : List Value}, AV.reps Z B w cs us → AV.reps Z B w (cs.drop k) (us.drop k)
  | 0, cs, us, h => by simpa using h
  | k + 1, [], us, h => by rw [AV.reps] at h; subst h; simp [AV.reps]
  | k + 1, c :: cs, us, h => by
    rw [AV.reps] at h
    obtain ⟨u, us', rfl, _, h⟩ := h
    simpa using reps_drop' k h
theorem reps_take' {Z : Nat → Value} {B : Nat → Prop} {w : World} : ∀ (k : Nat) {cs : List AV} {us : List Value}, AV.reps Z B w cs us → AV.reps Z B w (cs.take k) (us.take k)
  | 0, cs, us, h => by simp [AV.reps]
  | k + 1, [], us, h => by rw [AV.reps] at h; subst h; simp [AV.reps]
  | k + 1, c :: cs, us, h => by
    rw [AV.reps] at h
    obtain ⟨u, us', rfl, h1, h⟩ := h
    rw [List.take_succ_cons, List.take_succ_cons, AV.reps]
    exact ⟨u, _, rfl, h1, reps_take' k h⟩
theorem rvs_of_reps {Z : Nat → Value} {B : Nat → Prop} {w : World} : ∀ {cs : List RV} {us : List Value}, AV.reps Z B w (cs.map .r) us → (∀ u ∈ us, u.oneCell' = true) → RVs B w cs us
  | [], us, h, _ => by rw [List.map_nil, AV.reps] at h; subst h; exact .nil
  | c :: cs, us, h, ho => by
    rw [List.map_cons, AV.reps] at h
    obtain ⟨u, us', rfl, h1, h⟩ := h
    rw [AV.rep] at h1
    exact .cons (ho u (by simp)) h1 (rvs_of_reps h (fun x hx => ho x (by simp [hx])))
theorem Src.val {env : Nat → AV} {HF : Nat → Option Blk} {T sz : Nat} {x : Operand} {es : List (List RV)} {rd : List (Nat × Blk)} (h : Src env HF T sz x es rd) {Z : Nat → Value} {M : Nat → Prop} {w : World} {u : Value} (hr : (evA env x).rep Z M w u) (hh : ∀ i b, (i, b) ∈ rd → held Z M w i b) :
    ∃ A c news, u = .slice A es.length c ∧ news.length = es.length * sz ∧ (es.length ≠ 0 → ∃ ad, A = some ad ∧ ∀ j v, news[j]? = some v → w.cell? (ad.add j) = some v) ∧ RVs M w es.flatten news ∧ (∀ e ∈ es, e.length = sz) := by
  cases h with
  | sl es hx =>
    rw [hx, AV.rep, RV.rep] at hr
    obtain ⟨A, c, rfl, _, _, h4, h5⟩ := hr
    by_cases he : es = []
    · subst he; exact ⟨A, c, [], rfl, by simp, fun h => absurd rfl h, .nil, by simp⟩
    · obtain ⟨ad, rfl, _, _, h6⟩ := h5 he
      rw [RV.rows_flat, RV.row_vals] at h6
      obtain ⟨news, h7, h8⟩ := h6
      exact ⟨_, c, news, rfl, by rw [← h7.len, flatten_len sz es h4], fun _ => ⟨ad, rfl, fun j v hj => by have := h8 j v hj; rwa [Nat.zero_add] at this⟩, h7, h4⟩
  | ow j es hx hj =>
    rw [hx, AV.rep] at hr
    subst hr
    obtain ⟨us, h1, h2, h3⟩ := hh j (.row T sz es) (by simp)
    rcases h1.2 with ⟨h4, h5⟩ | ⟨g, cap, cur, h4, _, hg, h6, _, _, h7⟩
    · have : es = [] := List.eq_nil_of_length_eq_zero h5
      subst this
      exact ⟨none, 0, [], h4, by simp, fun h => absurd rfl h, .nil, by simp⟩
    · refine ⟨_, cap, us, h4, h1.1, fun _ => ⟨_, rfl, fun k v hk => ?_⟩, h2, h3⟩
      rw [add_mid, Nat.zero_add, cell_of_row w g k cur T (0, 0) hg]
      rw [← h7, List.getElem?_take] at hk
      split at hk
      · simpa using hk
      · cases hk
  | nl hx =>
    rw [hx, AV.rep, RV.rep] at hr
    exact ⟨none, 0, [], hr, by simp, fun h => absurd rfl h, .nil, by simp⟩
  | so j o n c T' cs es hx hj hl hcs h1 hs1 =>
    subst hs1 hl
    rw [hx, AV.rep] at hr
    obtain ⟨b, hb, rfl⟩ := hr
    obtain ⟨b', us, h2, h3, h4, h5⟩ := hh j (.var T' cs) (by simp)
    rw [h2] at hb
    simp only [blk, Option.some.injEq] at hb
    subst hb
    have h6 := reps_take' es.length (reps_drop' o h4)
    rw [hcs] at h6
    have h7 : RVs M w es.flatten ((us.toList.drop o).take es.length) := rvs_of_reps h6 (fun u hu => by
      have := List.mem_of_mem_drop (List.mem_of_mem_take hu)
      rw [Array.all_eq_true_iff_forall_mem] at h5
      exact h5 u (by simpa using this))
    refine ⟨some ⟨b', o, none⟩, c, _, rfl, ?_, fun _ => ⟨_, rfl, fun k v hk => ?_⟩, h7, h1⟩
    · rw [← h7.len, flatten_len 1 es h1]
    · rw [add_mid, cell_of_row w b' _ us T' (0, 0) h3]
      rw [List.getElem?_take] at hk
      split at hk
      · rw [List.getElem?_drop] at hk; simpa using hk
      · cases hk
theorem Src.rdH {env : Nat → AV} {HF : Nat → Option Blk} {T sz : Nat} {x : Operand} {es : List (List RV)} {rd : List (Nat × Blk)} (h : Src env HF T sz x es rd) : ∀ i b, (i, b) ∈ rd → HF i = some b := by
  cases h with
  | sl es hx => intro i b h; cases h
  | nl hx => intro i b h; cases h
  | so j o n c T' cs es hx hj _ _ _ _ => intro i b h; simp only [List.mem_cons, List.not_mem_nil, or_false, Prod.mk.injEq] at h; obtain ⟨rfl, rfl⟩ := h; exact hj
  | ow j es hx hj => intro i b h; simp only [List.mem_cons, List.not_mem_nil, or_false, Prod.mk.injEq] at h; obtain ⟨rfl, rfl⟩ := h; exact hj
theorem mem_one {α : Type} {x y : α} (h : x ∈ [y]) : x = y := by simpa using h
/-- An append onto an own slice; onto nothing. -/
theorem w_append {e sz b i : Nat} [hT : SlT P t e sz b] {es es' : List (List RV)} {rd : List (Nat × Blk)} (hx : evA (get E) x = .ow i) (hi : getH H i = some (.row e sz es)) (hs : Src (get E) (getH H) e sz y es' rd) (hne : (rd.all fun p => !Nat.beq p.1 i) = true)
    (hlen : (es.length + es'.length) * b ≤ 211106232532992 ∧ es.length + es'.length ≤ 211106232532992) (hloc : (Nat.blt i L.m || Nat.ble L.n i) = true)
    (hd : Nat.blt d N = true) (hg : Wanted ops (get E) ⟨some d, .call { callee := .builtin .append, args := #[x, y], argTypes := #[t, t] }, ty, pos, af, g⟩ true)
    (h : wpA P L N ops chk Q l ⟨(d, .ow n) :: E, (n, some (.row e sz (es ++ es'))) :: (i, none) :: H, n + 1⟩ ((n, ⟨true, (i, .row e sz es) :: rd, .ow n, [(i, none)], [.row e sz (es ++ es')]⟩) :: tr)) :
    wpA P L N ops chk Q (⟨some d, .call { callee := .builtin .append, args := #[x, y], argTypes := #[t, t] }, ty, pos, af, g⟩ :: l) ⟨E, H, n⟩ tr := by
  refine ⟨⟨true, (i, .row e sz es) :: rd, .ow n, [(i, none)], [.row e sz (es ++ es')]⟩, ⟨fun x hx => ?_, hg, fun _ a w Z M hM hr hh hdist => ?_, (fun h => by cases h), fun D hD hDH hf => ?_⟩, h⟩
  · injection hx with hx; subst hx; exact blt_t.1 hd
  · have hxr : (evA (get E) x).rep Z M w (a.eval x) := hr x (by simp [Op.operands, Call.operands])
    have hyr : (evA (get E) y).rep Z M w (a.eval y) := hr y (by simp [Op.operands, Call.operands])
    rw [hx, AV.rep] at hxr
    obtain ⟨⟨us, h1, h2, h3⟩, hMi⟩ := hh i (.row e sz es) (by simp)
    obtain ⟨A, c, news, h4, h5, h6, h7, h8⟩ := hs.val hyr (fun j b hj => (hh j b (List.mem_cons_of_mem _ hj)).1)
    obtain ⟨v', w', h9, h10, h11, h12⟩ := run_append_gen (P := P) (t := t) w ty (Z i) es.length es'.length c us news h1 A h5 h6 h7.one hlen.1 (by unfold maxLen; omega)
    have hex : (execOp a.eval ⟨some d, .call { callee := .builtin .append, args := #[x, y], argTypes := #[t, t] }, ty, pos, af, g⟩).run P w = .ok (.value v') w' := by
      simp only [execOp, resolve, invoke, builtin, Sem.run_bind, Sem.run_pure, Result.andThen_ok, List.map_toArray, List.map_cons, List.map_nil, hxr, h4, h9]
    obtain ⟨b1, A1, c1, b2⟩ := own_blk h1
    obtain ⟨b3, A2, c2, b4⟩ := own_blk h10
    have hU : Upto (fun q => blk (Z i) = some q) w w' := ⟨h11.os, h11.tape, h11.output, h11.size, fun q hq hne => h11.block q hq (fun e => hne (by rw [← b1]; exact e.symm))⟩
    have hU' : Upto M w w' := hU.mono fun q _ hq => hMi q hq
    have hz1 : (fun j => if j = n then v' else Z j) n = v' := by simp
    refine exec_value hex ⟨fun j => if j = n then v' else Z j, fun j hj => ?_, by rw [AV.rep]; simp, fun j c hj => ?_, fun j c hj => ?_, fun j j' q hj hj' hne => ?_, fun j q hj hq => ?_, hU.mono fun q _ hq => ⟨i, none, by simp, hq⟩⟩
    · have : j ≠ n := by simp at hj; omega
      simp [this]
    · have := mem_one hj; cases this
    · have hj0 : j = 0 := by
        cases j with
        | zero => rfl
        | succ j => simp at hj
      subst hj0
      have : c = .row e sz (es ++ es') := by simpa using hj.symm
      subst this
      have hB : ∀ q, q < w.heap.size → New n ⟨true, (i, .row e sz es) :: rd, .ow n, [(i, none)], [.row e sz (es ++ es')]⟩ (fun j => if j = n then v' else Z j) M q → M q := by
        rintro q hq (h0 | ⟨j, hj, hjq⟩)
        · exact h0
        · have : j = 0 := by simpa using hj
          subst this
          simp only [Nat.add_zero, if_pos] at hjq
          rw [b3, b1] at h12
          rcases h12 with h12 | h12
          · exact hMi q (by rw [← h12]; exact hjq)
          · rw [h12] at hjq; injection hjq with hjq; omega
      refine ⟨us ++ news, ?_, ?_, fun e he => ?_⟩
      · simp only [Nat.add_zero, if_pos, List.length_append]
        exact h10
      · rw [List.flatten_append]
        exact (h2.mono hU' hB).append (h7.mono hU' hB)
      · rcases List.mem_append.1 he with he | he
        · exact h3 e he
        · exact h8 e he
    · simp at hj hj'; omega
    · have : j = 0 := by simpa using hj
      subst this
      have hq' : blk v' = some q := by simpa using hq
      rw [b3, b1] at h12
      rcases h12 with h12 | h12
      · exact .inr ⟨i, by simp, by rw [← h12]; exact hq'⟩
      · rw [h12] at hq'; injection hq' with hq'; exact .inl (by omega)
  · refine ⟨fun j b hj => ?_, fun j o ho => ?_, fun j o ho => ?_, fun j ho => ?_, hf, fun j hj => .inr ?_, fun b hb j hj => ?_, fun j b hb => ?_⟩
    · rcases List.mem_cons.1 hj with e1 | e1
      · injection e1 with e1 e2; subst e1 e2; exact hi
      · exact hs.rdH j b e1
    · have := mem_one ho
      injection this with e1 e2
      subst e1
      exact ⟨.row e sz es, by simp⟩
    · have := mem_one ho
      injection this with e1 e2
      subst e1 e2
      simp [List.lookup_cons]
    · have := mem_one ho
      injection this with e1 e2
      subst e1
      rw [Bool.or_eq_true, blt_t, ble_t] at hloc
      exact hloc
    · have : j = n := by simpa [AV.ids] using hj
      subst this
      simp
    · have := mem_one hb
      subst this
      simp [Blk.ids] at hj
    · have := mem_one hb; cases this
theorem w_append0 {e sz b : Nat} [hT : SlT P t e sz b] {es' : List (List RV)} {rd : List (Nat × Blk)} (hx : evA (get E) x = .r (.v (.slice none 0 0))) (hs : Src (get E) (getH H) e sz y es' rd)
    (hlen : es'.length * b ≤ 211106232532992 ∧ es'.length ≤ 211106232532992)
    (hd : Nat.blt d N = true) (hg : Wanted ops (get E) ⟨some d, .call { callee := .builtin .append, args := #[x, y], argTypes := #[t, t] }, ty, pos, af, g⟩ true)
    (h : wpA P L N ops chk Q l ⟨(d, .ow n) :: E, (n, some (.row e sz es')) :: H, n + 1⟩ ((n, ⟨true, rd, .ow n, [], [.row e sz es']⟩) :: tr)) :
    wpA P L N ops chk Q (⟨some d, .call { callee := .builtin .append, args := #[x, y], argTypes := #[t, t] }, ty, pos, af, g⟩ :: l) ⟨E, H, n⟩ tr := by
  refine w_make hd hg (out := .ow n) (b := .row e sz es') (rd := rd) ⟨hs.rdH, rfl, fun i hi => by simp [Blk.ids] at hi, fun a w Z M hM hr hh => ?_⟩ rfl h
  have hxr := ev_v hx (hr x (by simp [Op.operands, Call.operands]))
  obtain ⟨A, c, news, h4, h5, h6, h7, h8⟩ := hs.val (hr y (by simp [Op.operands, Call.operands])) hh
  have h1 : w.ownsRow 0 e sz (.slice none 0 0) 0 [] := World.ownsRow_nil w 0 e sz
  obtain ⟨v', w', h9, h10, h11, h12⟩ := run_append_gen (P := P) (t := t) w ty (.slice none 0 0) 0 es'.length c [] news h1 A h5 h6 h7.one (by simpa using hlen.1) (by unfold maxLen; omega)
  obtain ⟨b3, A2, c2, b4⟩ := own_blk h10
  have hb : Below w.heap.size w w' := ⟨h11.os, h11.tape, h11.output, h11.size, fun q hq => h11.block q hq (fun e => by cases e)⟩
  refine ⟨v', v', w', ?_, hb, fun q hq => ?_, fun Z' hz' hzo => ⟨by rw [AV.rep, hz'], fun _ => ⟨news, ?_, ?_, h8⟩⟩⟩
  · simp only [execOp, resolve, invoke, builtin, Sem.run_bind, Sem.run_pure, Result.andThen_ok, List.map_toArray, List.map_cons, List.map_nil, hxr, h4, h9]
  · rw [b3] at h12
    rcases h12 with h12 | h12
    · rw [hq] at h12; cases h12
    · rw [hq] at h12; injection h12 with h12; omega
  · rw [hz']
    simpa using h10
  · refine h7.mono (Upto.of_below hb) fun q hq hqb => ?_
    rcases hqb with h | h
    · exact h
    · rw [b3] at h12
      rcases h12 with h12 | h12
      · rw [h] at h12; cases h12
      · rw [h] at h12; injection h12 with h12; omega
end

/-! ## Cuts of slices that are only read -/
section
variable {P : Program} {env : Nat → AV} {H : Nat → Option Blk} {d : Option Tmp} {ty : TypeId} {pos : String} {af : Array Edge} {g : Option (Nat × Bool)}
variable {t : TypeId} {x y z : Operand} {sz : Nat} {es : List (List RV)}
theorem run_bound {k : IntKind} (j m : Nat) (c : BoundsCode) (h : j ≤ m) (w : World) : (Instr.sliceBound (.int k (j : Int)) m c).run P w = .ok j w := by
  simp [Instr.sliceBound, asIntOf, h]
theorem cut_rep {e b : Nat} [hT : SlT P t e sz b] {Z : Nat → Value} {M : Nat → Prop} {w : World} {u : Value} {j m : Nat} (hr : (AV.r (.sl sz es)).rep Z M w u) (hj : j ≤ m) (hm : m ≤ es.length) :
    ∃ A n c, u = .slice A n c ∧ n = es.length ∧ n ≤ c ∧ ((AV.r (.sl sz ((es.drop j).take (m - j)))).rep Z M w (.slice (if c = j then A else A.map (·.add (j * sz))) (m - j) (c - j))) := by
  rw [AV.rep, RV.rep] at hr
  obtain ⟨A, c, rfl, h2, h3, h4, h5⟩ := hr
  refine ⟨A, _, c, rfl, rfl, h2, ?_⟩
  rw [AV.rep, RV.rep]
  have hl : ((es.drop j).take (m - j)).length = m - j := by rw [List.length_take, List.length_drop]; omega
  refine ⟨_, c - j, by rw [hl], by omega, by omega, fun e he => h4 e (List.mem_of_mem_drop (List.mem_of_mem_take he)), fun hne => ?_⟩
  have hjm : j < m := by
    rcases Nat.lt_or_ge j m with h | h
    · exact h
    · exact absurd (List.eq_nil_of_length_eq_zero (by omega)) hne
  obtain ⟨ad, rfl, h6, h7, h8⟩ := h5 (by rintro rfl; simp at hm; omega)
  rw [if_neg (by omega)]
  refine ⟨ad.add (j * sz), rfl, by rw [add_block]; exact h6, by rw [add_block]; exact h7, ?_⟩
  rw [RV.rows_flat] at h8 ⊢
  rw [RV.row_add]
  have f1 := (flatten_drop_take sz es h4 j).1
  have f2 := (flatten_drop_take sz (es.drop j) (fun e he => h4 e (List.mem_of_mem_drop he)) (m - j)).2
  rw [f2, f1]
  have := RV.row_take (RV.row_drop h8 (j * sz)) ((m - j) * sz)
  rwa [Nat.zero_add] at this
theorem run_cut {e b : Nat} [hT : SlT P t e sz b] (A : Option Addr) (n c j m : Nat) (lo hi : Option Value) (hlo : (lo = none ∧ j = 0) ∨ ∃ k, lo = some (.int k (j : Int))) (hhi : (hi = none ∧ m = n) ∨ ∃ k, hi = some (.int k (m : Int))) (hj : j ≤ m) (hm : m ≤ n) (hc : n ≤ c) (w : World) :
    (Instr.sliceAt t (.slice A n c) lo hi none).run P w = .ok (.slice (if c = j then A else A.map (·.add (j * sz))) (m - j) (c - j)) w := by
  obtain ⟨i, z, t1, t2, t3, t4, t5⟩ := SlT.inf (P := P) (t := t) (e := e) (sz := sz) (b := b)
  have tu := SlT.und (P := P) (t := t) (e := e) (sz := sz) (b := b)
  have hs : (sizeOf e).run P w = .ok sz w := by simp [sizeOf, typeInfo, t1, t3]
  have hbd : (Instr.sliceBounds true n c lo hi none).run P w = .ok (j, m, c) w := by
    rcases hlo with ⟨rfl, rfl⟩ | ⟨k, rfl⟩ <;> rcases hhi with ⟨rfl, rfl⟩ | ⟨k', rfl⟩
    · simp [Instr.sliceBounds]
    · simp [Instr.sliceBounds, run_bound _ _ _ (show m ≤ c by omega)]
    · simp [Instr.sliceBounds, run_bound _ _ _ hj]
    · simp [Instr.sliceBounds, run_bound _ _ _ hj, run_bound _ _ _ (show m ≤ c by omega)]
  simp only [Instr.sliceAt, Sem.run_bind, run_underlying tu, Result.andThen_ok, Instr.slice, hbd, hs, Sem.run_pure]
theorem p_cut2 {e b : Nat} [hT : SlT P t e sz b] {k k' : IntKind} {a c : Int} {j m : Nat} (hx : evA env x = .r (.sl sz es)) (hy : evA env y = .r (.v (.int k a))) (hz : evA env z = .r (.v (.int k' c))) (ha : a = (j : Int)) (hc : c = (m : Int)) (hj : j ≤ m) (hm : m ≤ es.length) :
    ReadOk P ⟨d, .slice t x (some y) (some z) none, ty, pos, af, g⟩ env H [] (.r (.sl sz ((es.drop j).take (m - j)))) := by
  subst ha hc
  refine ⟨fun i b h => mem_nil h, fun i hi => by simp [AV.ids] at hi, fun ac w Z M hr _ => ?_⟩
  have h1 := hr x (by simp [Op.operands])
  have h2 := ev_v hy (hr y (by simp [Op.operands]))
  have h3 := ev_v hz (hr z (by simp [Op.operands]))
  rw [hx] at h1
  obtain ⟨A, n, cc, h4, h5, h6, h7⟩ := cut_rep (P := P) (t := t) h1 hj hm
  refine ⟨_, ?_, h7⟩
  simp only [execOp, h4, Option.map_some, Option.map_none, h2, h3, Sem.run_bind, run_cut (P := P) (t := t) A n cc j m _ _ (.inr ⟨k, rfl⟩) (.inr ⟨k', rfl⟩) hj (by omega) h6, Result.andThen_ok, Sem.run_pure]
theorem p_cutl {e b : Nat} [hT : SlT P t e sz b] {k : IntKind} {a : Int} {j : Nat} (hx : evA env x = .r (.sl sz es)) (hy : evA env y = .r (.v (.int k a))) (ha : a = (j : Int)) (hj : j ≤ es.length) :
    ReadOk P ⟨d, .slice t x (some y) none none, ty, pos, af, g⟩ env H [] (.r (.sl sz (es.drop j))) := by
  subst ha
  refine ⟨fun i b h => mem_nil h, fun i hi => by simp [AV.ids] at hi, fun ac w Z M hr _ => ?_⟩
  have h1 := hr x (by simp [Op.operands])
  have h2 := ev_v hy (hr y (by simp [Op.operands]))
  rw [hx] at h1
  obtain ⟨A, n, cc, h4, h5, h6, h7⟩ := cut_rep (P := P) (t := t) h1 hj (Nat.le_refl _)
  have e : (es.drop j).take (es.length - j) = es.drop j := List.take_of_length_le (by rw [List.length_drop]; exact Nat.le_refl _)
  rw [e] at h7
  refine ⟨_, ?_, h7⟩
  simp only [execOp, h4, Option.map_some, Option.map_none, h2, Sem.run_bind, run_cut (P := P) (t := t) A n cc j es.length _ _ (.inr ⟨k, rfl⟩) (.inl ⟨rfl, h5.symm⟩) hj (by omega) h6, Result.andThen_ok, Sem.run_pure]
theorem p_cuth {e b : Nat} [hT : SlT P t e sz b] {k : IntKind} {a : Int} {m : Nat} (hx : evA env x = .r (.sl sz es)) (hy : evA env y = .r (.v (.int k a))) (ha : a = (m : Int)) (hm : m ≤ es.length) :
    ReadOk P ⟨d, .slice t x none (some y) none, ty, pos, af, g⟩ env H [] (.r (.sl sz (es.take m))) := by
  subst ha
  refine ⟨fun i b h => mem_nil h, fun i hi => by simp [AV.ids] at hi, fun ac w Z M hr _ => ?_⟩
  have h1 := hr x (by simp [Op.operands])
  have h2 := ev_v hy (hr y (by simp [Op.operands]))
  rw [hx] at h1
  obtain ⟨A, n, cc, h4, h5, h6, h7⟩ := cut_rep (P := P) (t := t) h1 (Nat.zero_le m) hm
  rw [List.drop_zero, Nat.sub_zero] at h7
  refine ⟨_, ?_, h7⟩
  have := run_cut (P := P) (t := t) A n cc 0 m none (some (.int k (m : Int))) (.inl ⟨rfl, rfl⟩) (.inr ⟨k, rfl⟩) (Nat.zero_le _) (by omega) h6
  rw [Nat.sub_zero] at this
  simp only [execOp, h4, Option.map_some, Option.map_none, h2, Sem.run_bind, this, Result.andThen_ok, Sem.run_pure]
end

/-! ## Struct literals -/
def plTB (P : Program) (t : Nat) (pl : List (Nat × Nat)) : Bool := match P.underlying t with | some (.struct fs) => decide ((fs.toList.mapM fun f => (P.info? f.type).map fun i => (f.offset, i.size)) = some pl) | _ => false
class PlT (P : Program) (t : Nat) (pl : outParam (List (Nat × Nat))) : Prop where ok : plTB P t pl = true
def fillA (pl : List (Nat × Nat)) : List AV → List (Nat × AV) → Option (List AV)
  | cs, [] => some cs
  | cs, (i, a) :: rest => match pl[i]? with
    | none => none
    | some (off, sz) => bif Nat.beq (cellsA a).length sz && Nat.ble (off + sz) cs.length then fillA pl (setA cs off (cellsA a)) rest else none
def okPart (rd : List (Nat × Blk)) : AV → Bool
  | .ow i => rd.any fun p => Nat.beq p.1 i && (match p.2 with | .row _ _ _ => true | _ => false)
  | a => valB a
theorem part_rep {Z : Nat → Value} {B : Nat → Prop} {w : World} {rd : List (Nat × Blk)} {a : AV} {v : Value} (ho : okPart rd a = true) (hh : ∀ i b, (i, b) ∈ rd → held Z B w i b) (hr : a.rep Z B w v) : AV.reps Z B w (cellsA a) v.cells.toList := by
  cases a with
  | ow i =>
    simp only [okPart, List.any_eq_true, Bool.and_eq_true] at ho
    obtain ⟨⟨j, b⟩, h1, h2, h3⟩ := ho
    have := Nat.eq_of_beq_eq_true h2
    simp only at this
    subst this
    cases b with
    | var T cs => simp at h3
    | rowk T sz es n c => simp at h3
    | full T sz es => simp at h3
    | row T sz es =>
      obtain ⟨us, h4, _⟩ := hh _ _ h1
      obtain ⟨_, A, c, h5⟩ := own_blk h4
      have hr' := hr
      rw [AV.rep] at hr
      rw [h5] at hr
      subst hr
      simp only [cellsA, Value.cells]
      rw [AV.reps]
      exact ⟨_, [], rfl, hr', by rw [AV.reps]⟩
  | _ => exact (cells_rep hr (by simpa only [okPart] using ho)).1
theorem foldl_setA (off : Nat) (vs : List Value) (cells : Array Value) (h : off + vs.length ≤ cells.size) : ((vs.zipIdx 0).foldl (fun cs (x : Value × Nat) => cs.setIfInBounds (off + x.2) x.1) cells).toList = setA cells.toList off vs := by
  obtain ⟨h1, h2⟩ := Great.foldl_set off vs 0 cells
  apply List.ext_getElem?
  intro k
  have h3 := h2 k
  rw [show ∀ a : Array Value, a.toList[k]? = a[k]? from fun a => by simp, h3]
  unfold setA
  by_cases hk : off ≤ k ∧ k < off + vs.length
  · rw [if_pos (by omega)]
    rw [List.getElem?_append_left (by simp; omega), List.getElem?_append_right (by simp; omega)]
    simp
    congr 1
    omega
  · rw [if_neg (by omega)]
    rcases Nat.lt_or_ge k off with h4 | h4
    · rw [List.getElem?_append_left (by simp; omega), List.getElem?_append_left (by simp; omega), List.getElem?_take, if_pos h4]
      simp
    · rw [List.getElem?_append_right (by simp; omega), List.getElem?_drop]
      simp
      congr 1
      omega
theorem fill_rep {Z : Nat → Value} {B : Nat → Prop} {w : World} (pl : List (Nat × Nat)) : ∀ (ps : List (Nat × AV)) (vs : List (Nat × Value)) (cs cs' : List AV) (us : Array Value), ps.length = vs.length → (∀ (k : Nat) (p : Nat × AV) (v : Nat × Value), ps[k]? = some p → vs[k]? = some v → v.1 = p.1 ∧ AV.reps Z B w (cellsA p.2) v.2.cells.toList) → AV.reps Z B w cs us.toList → fillA pl cs ps = some cs' →
    ∃ us', Instr.fill (pl.toArray[·]?) us vs = some us' ∧ AV.reps Z B w cs' us'.toList
  | [], vs, cs, cs', us, hl, _, hr, hf => by
    have : vs = [] := List.eq_nil_of_length_eq_zero hl.symm
    subst this
    simp only [fillA, Option.some.injEq] at hf
    subst hf
    exact ⟨us, rfl, hr⟩
  | (i, a) :: ps, [], cs, cs', us, hl, _, hr, hf => by simp at hl
  | (i, a) :: ps, (j, v) :: vs, cs, cs', us, hl, hp, hr, hf => by
    obtain ⟨e, hv⟩ := hp 0 (i, a) (j, v) rfl rfl
    simp only at e hv
    subst e
    simp only [fillA] at hf
    cases hpl : pl[j]? with
    | none => rw [hpl] at hf; cases hf
    | some os =>
      obtain ⟨off, sz⟩ := os
      rw [hpl] at hf
      simp only at hf
      cases hc : (Nat.beq (cellsA a).length sz && Nat.ble (off + sz) cs.length) with
      | false => rw [hc] at hf; cases hf
      | true =>
        rw [hc] at hf
        simp only [cond_true] at hf
        rw [Bool.and_eq_true, ble_t] at hc
        have h1 := Nat.eq_of_beq_eq_true hc.1
        have h2 := AV.reps_len hv
        have h3 := AV.reps_len hr
        simp only [Array.length_toList] at h2 h3
        have hset := foldl_setA off v.cells.toList us (by simp; omega)
        have hr2 : AV.reps Z B w (setA cs off (cellsA a)) (((v.cells.toList.zipIdx 0).foldl (fun cs (x : Value × Nat) => cs.setIfInBounds (off + x.2) x.1) us)).toList := by
          rw [hset]
          unfold setA
          rw [show v.cells.toList.length = (cellsA a).length by simp; omega]
          exact reps_append (reps_append (reps_take _ hr) hv) (reps_drop _ hr)
        obtain ⟨us', h4, h5⟩ := fill_rep pl ps vs _ cs' _ (by simpa using hl) (fun k p v hk hk' => hp (k + 1) p v (by simpa using hk) (by simpa using hk')) hr2 hf
        refine ⟨us', ?_, h5⟩
        have hpl' : (pl.toArray[j]? : Option (Nat × Nat)) = some (off, sz) := by simpa using hpl
        rw [Instr.fill]
        simp only [hpl']
        rw [if_neg (by simp; omega)]
        rw [← h4]
        congr 1
        rw [← Array.foldl_toList, Array.toList_zipIdx]
theorem fillA_ids (pl : List (Nat × Nat)) (D : Nat → Prop) : ∀ (ps : List (Nat × AV)) (cs cs' : List AV), (∀ i ∈ AV.idss cs, D i) → (∀ p ∈ ps, ∀ i ∈ p.2.ids, D i) → fillA pl cs ps = some cs' → ∀ i ∈ AV.idss cs', D i
  | [], cs, cs', h1, _, hf => by simp only [fillA, Option.some.injEq] at hf; subst hf; exact h1
  | (j, a) :: ps, cs, cs', h1, h2, hf => by
    simp only [fillA] at hf
    cases hpl : pl[j]? with
    | none => rw [hpl] at hf; cases hf
    | some os =>
      rw [hpl] at hf
      simp only at hf
      cases hc : (Nat.beq (cellsA a).length os.2 && Nat.ble (os.1 + os.2) cs.length) with
      | false => rw [hc] at hf; cases hf
      | true =>
        rw [hc] at hf
        simp only [cond_true] at hf
        refine fillA_ids pl D ps _ cs' (fun i hi => ?_) (fun p hp => h2 p (by simp [hp])) hf
        rw [setA, idss_mem_iff] at hi
        obtain ⟨c, hc, hci⟩ := hi
        rw [List.mem_append, List.mem_append] at hc
        rcases hc with (hc | hc) | hc
        · exact h1 i (idss_mem (List.mem_of_mem_take hc) hci)
        · exact h2 (j, a) (by simp) i (idss_cells i (idss_mem hc hci))
        · exact h1 i (idss_mem (List.mem_of_mem_drop hc) hci)
theorem p_build {P : Program} {E : List (Nat × AV)} {H : Nat → Option Blk} {d : Option Tmp} {ty : TypeId} {pos : String} {af : Array Edge} {g : Option (Nat × Bool)} {t : TypeId} {pl : List (Nat × Nat)} {zs : List Value} [hp : PlT P t pl] [hz : ZrT P t zs]
    {parts : Array (Nat × Operand)} {cs : List AV} (rd : List (Nat × Blk)) (hf : fillA pl (zs.map fun u => .r (.v u)) (parts.toList.map fun p => (p.1, evA (get E) p.2)) = some cs) (ho : (parts.toList.all fun p => okPart rd (evA (get E) p.2)) = true) (hrd : ∀ i b, (i, b) ∈ rd → H i = some b) :
    ReadOk P ⟨d, .build t parts, ty, pos, af, g⟩ (get E) H rd (.ag cs) := by
  refine ⟨hrd, fun i hi => .inl ?_, fun a w Z M hr hh => ?_⟩
  · rw [AV.ids] at hi
    refine fillA_ids pl (fun i => ∃ t, i ∈ (get E t).ids) _ _ _ (fun i hi => by rw [idss_exact] at hi; cases hi) (fun p hp i hi => ?_) hf i hi
    obtain ⟨q, hq, rfl⟩ := List.mem_map.1 hp
    rcases ids_ev rfl i hi with h | ⟨_, _, h, _⟩
    · exact h
    · cases h
  · have h1 := hz.ok
    have h2 := hp.ok
    unfold plTB at h2
    cases hu : P.underlying t with
    | none => rw [hu] at h2; cases h2
    | some D =>
      rw [hu] at h2
      cases D with
      | struct fs =>
        have h2 := of_decide_eq_true h2
        cases hi : P.info? t with
        | none => rw [hi] at h1; cases h1
        | some it =>
          rw [hi] at h1
          simp only [Option.map_some, Option.some.injEq] at h1
          cases hzz : it.zero with
          | none => rw [hzz] at h1; cases h1
          | some z =>
            rw [hzz] at h1
            simp only [Option.map_some, Option.some.injEq] at h1
            obtain ⟨us', h3, h4⟩ := fill_rep (Z := Z) (B := M) (w := w) pl _ (parts.toList.map fun p => (p.1, a.eval p.2)) _ cs z.cells (by simp) (fun k p v hk hv => by
              rw [List.getElem?_map] at hk hv
              cases hq : parts.toList[k]? with
              | none => rw [hq] at hk; cases hk
              | some q =>
                rw [hq] at hk hv
                simp only [Option.map_some, Option.some.injEq] at hk hv
                subst hk hv
                have hmem := List.mem_of_getElem? hq
                refine ⟨rfl, part_rep (List.all_eq_true.1 ho q hmem) hh (hr q.2 ?_)⟩
                show q.2 ∈ ((parts.toList.map (·.2)).toArray).toList
                simp only [List.toList_toArray]
                exact List.mem_map.2 ⟨q, hmem, rfl⟩) (by rw [h1]; exact reps_exact zs) hf
            have hb : P.built t (parts.map fun p => (p.1, a.eval p.2)).toList = some us' := by
              unfold Program.built
              rw [hi, hu]
              simp only [hzz]
              rw [h2]
              simp only [Array.toList_map]
              exact h3
            refine ⟨.agg us', ?_, by rw [AV.rep]; exact ⟨us', rfl, h4⟩⟩
            have he : (parts.map fun (i, x) => (i, a.eval x)) = parts.map fun p => (p.1, a.eval p.2) := rfl
            simp only [execOp, he, Sem.run_bind, run_build w t _ us' hb, Result.andThen_ok, Sem.run_pure]
      | _ => cases h2
end Go.Ab

/- The second layer: slices that are full, strings. No conditions. -/
namespace Go.Ab
open Go.RowKit
set_option linter.unusedVariables false
set_option linter.unusedSimpArgs false

section
variable {P : Program} {L : Ln} {N : Nat} {ops : Array Oper} {chk : List (Nat × Sp) → Bool} {Q : St → Prop} {l : List Oper} {E : List (Nat × AV)} {H : List (Nat × Option Blk)} {n : Nat} {tr : List (Nat × Sp)}
variable {d : Nat} {ty : TypeId} {pos : String} {af : Array Edge} {g : Option (Nat × Bool)} {t : TypeId} {x y : Operand}

/-- A slice literal that is turned into bytes at once: '[]byte("..")'. -/
theorem is_bsconv {t : TypeId} {m : Nat} {ps : Array (Nat × Operand)} {s t' : TypeId} {x' : Operand} {o o' : Option Tmp} {ty' : TypeId} {pos' : String} {af' : Array Edge} {g' : Option (Nat × Bool)} {S : St}
    (h : wpA P L N ops chk Q (⟨o, .buildSlice t m ps, ty, pos, af, g⟩ :: ⟨o', .convert s t' x', ty', pos', af', g'⟩ :: l) S tr) : wpA P L N ops chk Q (⟨o, .buildSlice t m ps, ty, pos, af, g⟩ :: ⟨o', .convert s t' x', ty', pos', af', g'⟩ :: l) S tr := h
/-- The conversion: the slice stays what it is. -/
theorem w_strb {e i : Nat} {es : List (List RV)} (hx : evA (get E) x = .ow i) (hi : getH H i = some (.full e 1 es)) (hu : P.underlying t = some (.slice (P.elem t))) (he : P.underlying (P.elem t) = some (.int .u8))
    (hd : Nat.blt d N = true) (hg : Wanted ops (get E) ⟨some d, .convert t t x, ty, pos, af, g⟩ true)
    (h : wpA P L N ops chk Q l ⟨(d, .ow i) :: E, (i, some (.full e 1 es)) :: H, n⟩ ((n, ⟨true, [(i, .full e 1 es)], .ow i, [(i, some (.full e 1 es))], []⟩) :: tr)) :
    wpA P L N ops chk Q (⟨some d, .convert t t x, ty, pos, af, g⟩ :: l) ⟨E, H, n⟩ tr := by
  refine ⟨⟨true, [(i, .full e 1 es)], .ow i, [(i, some (.full e 1 es))], []⟩, ⟨fun x hx => ?_, hg, fun _ a w Z M hM hr hh hdist => ?_, (fun h => by cases h), fun D hD hDH hf => ?_⟩, h⟩
  · injection hx with hx; subst hx; exact blt_t.1 hd
  · have hxr : (evA (get E) x).rep Z M w (a.eval x) := hr x (by simp [Op.operands])
    rw [hx, AV.rep] at hxr
    obtain ⟨⟨q, us, fr, h1, h2, h3, h4, h5⟩, hMi⟩ := hh i (.full e 1 es) (by simp)
    have hsh : w.shape? q = some (e, us.size) := by unfold World.shape?; rw [h2]
    have hfr : ∃ fr', (w.freeze ⟨q, us.size, none⟩ 1).heap[q]? = some (.cells us e fr') := by
      unfold World.freeze
      rw [if_neg (by omega)]
      obtain ⟨lo, hi⟩ := fr
      refine ⟨if lo == hi then (us.size, us.size + 1) else (min lo us.size, max hi (us.size + 1)), ?_⟩
      simp only [Array.getElem?_modify]
      rw [if_pos trivial, h2]
      rfl
    obtain ⟨fr', hfr⟩ := hfr
    have hoth : ∀ k, k ≠ q → (w.freeze ⟨q, us.size, none⟩ 1).heap[k]? = w.heap[k]? := fun k hk => by
      unfold World.freeze
      rw [if_neg (by omega)]
      simp only [Array.getElem?_modify]
      rw [if_neg (Ne.symm hk)]
    have hU : Upto (fun k => k = q) w (w.freeze ⟨q, us.size, none⟩ 1) := by
      refine ⟨?_, ?_, ?_, ?_, fun k _ hk => hoth k hk⟩
      · unfold World.freeze; rw [if_neg (by omega)]
      · unfold World.freeze; rw [if_neg (by omega)]
      · unfold World.freeze; rw [if_neg (by omega)]
      · unfold World.freeze; rw [if_neg (by omega)]; simp
    have hblk : blk (Z i) = some q := by rw [h1]; rfl
    have hex : (execOp a.eval ⟨some d, .convert t t x, ty, pos, af, g⟩).run P w = .ok (.value (Z i)) (w.freeze ⟨q, us.size, none⟩ 1) := by
      have hev : a.eval x = .slice (some ⟨q, 0, none⟩) es.length es.length := by rw [hxr, h1]
      simp only [execOp, hev, h1]
      have : (convert t t (.slice (some ⟨q, 0, none⟩) es.length es.length)).run P w = .ok (.slice (some ⟨q, 0, none⟩) es.length es.length) (w.freeze ⟨q, us.size, none⟩ 1) := by
        simp [convert, run_underlying hu, run_underlying he, markStringish, shape, freeze, Sem.run, hsh]
      simp only [Sem.run_bind, this, Result.andThen_ok, Sem.run_pure]
    have hUM : Upto M w (w.freeze ⟨q, us.size, none⟩ 1) := hU.mono fun k _ hk => by subst hk; exact hMi _ hblk
    refine exec_value hex ⟨Z, fun _ _ => rfl, by rw [AV.rep], fun j c hj => ?_, fun j b h => by simp at h, fun j j' x h => by simp at h, fun j x h => by simp at h, hU.mono fun k _ hk => by subst hk; exact ⟨i, some (.full e 1 es), by simp, hblk⟩⟩
    have := mem_one hj
    injection this with e1 e2
    injection e2 with e2
    subst e1 e2
    exact ⟨q, us, fr', h1, hfr, h3, h4.mono hUM fun k _ hk => new_nil rfl hk, h5⟩
  · refine ⟨fun j b hj => ?_, fun j o ho => ?_, fun j o ho => ?_, fun j ho => ?_, hf, fun j hj => .inl ?_, fun b hb j hj => by simp at hb, fun j b hb j' hj' => ?_⟩
    · have := mem_one hj
      injection this with e1 e2
      subst e1 e2
      exact hi
    · have := mem_one ho
      injection this with e1 e2
      subst e1
      exact ⟨.full e 1 es, by simp⟩
    · have := mem_one ho
      injection this with e1 e2
      subst e1 e2
      simp [List.lookup_cons]
    · have := mem_one ho; cases this
    · have : j = i := by simpa [AV.ids] using hj
      subst this
      exact (hDH _ _ hi).1
    · have := mem_one hb
      injection this with e1 e2
      injection e2 with e2
      subst e2
      simp [Blk.ids] at hj'
/-- An append onto a full slice. -/
theorem w_appendF {e sz b i : Nat} [hT : SlT P t e sz b] {es es' : List (List RV)} {rd : List (Nat × Blk)} (hx : evA (get E) x = .ow i) (hi : getH H i = some (.full e sz es)) (hs : Src (get E) (getH H) e sz y es' rd) (h0 : 0 < es'.length)
    (hlen : (es.length + es'.length) * b ≤ 211106232532992 ∧ es.length + es'.length ≤ 211106232532992)
    (hd : Nat.blt d N = true) (hg : Wanted ops (get E) ⟨some d, .call { callee := .builtin .append, args := #[x, y], argTypes := #[t, t] }, ty, pos, af, g⟩ true)
    (h : wpA P L N ops chk Q l ⟨(d, .ow n) :: E, (n, some (.row e sz (es ++ es'))) :: H, n + 1⟩ ((n, ⟨true, (i, .full e sz es) :: rd, .ow n, [], [.row e sz (es ++ es')]⟩) :: tr)) :
    wpA P L N ops chk Q (⟨some d, .call { callee := .builtin .append, args := #[x, y], argTypes := #[t, t] }, ty, pos, af, g⟩ :: l) ⟨E, H, n⟩ tr := by
  refine w_make hd hg (out := .ow n) (b := .row e sz (es ++ es')) (rd := (i, .full e sz es) :: rd) ⟨fun j c hj => ?_, rfl, fun i hi => by simp [Blk.ids] at hi, fun a w Z M hM hr hh => ?_⟩ rfl h
  · rcases List.mem_cons.1 hj with e1 | e1
    · injection e1 with e1 e2; subst e1 e2; exact hi
    · exact hs.rdH j c e1
  have hxr : (evA (get E) x).rep Z M w (a.eval x) := hr x (by simp [Op.operands, Call.operands])
  rw [hx, AV.rep] at hxr
  obtain ⟨q, us, fr, f1, f2, f3, f4, f5⟩ := hh i (.full e sz es) (by simp)
  obtain ⟨A, c, news, h4, h5, h6, h7, h8⟩ := hs.val (hr y (by simp [Op.operands, Call.operands])) (fun j c hj => hh j c (List.mem_cons_of_mem _ hj))
  obtain ⟨ad, rfl, hc⟩ := h6 (by omega)
  obtain ⟨ti, z, t1, t2, t3, t4, t5⟩ := SlT.inf (P := P) (t := t) (e := e) (sz := sz) (b := b)
  have tu := SlT.und (P := P) (t := t) (e := e) (sz := sz) (b := b)
  have tp := SlT.pos (P := P) (t := t) (e := e) (sz := sz) (b := b)
  have hul : us.toList.length = es.length * sz := by rw [← f4.len, flatten_len sz es f5]
  obtain ⟨v', w', h9, h10, h11⟩ := run_append_arg_wide (P := P) w t ty e ti z sz b tu t1 t2 t3 t4 t5 tp ⟨q, 0, none⟩ es.length es.length us.toList hul (fun j u hj => by
    rw [add_mid, Nat.zero_add, cell_of_row w q j us e fr f2]; simpa using hj) ad es'.length c news h5 hc (by omega) (by unfold maxLen; omega) (wide_bound hlen.1 (SlT.small (P := P) (t := t) (e := e) (sz := sz)))
  obtain ⟨b3, A2, c2, b4⟩ := own_blk (show w'.ownsRow 0 e sz v' (es.length + es'.length) (us.toList ++ news) from ⟨h10.1, h10.2.imp id fun ⟨g, cap, cur, e1, _, r⟩ => ⟨g, cap, cur, e1, Nat.zero_le _, r⟩⟩)
  have hb : Below w.heap.size w w' := ⟨h11.os, h11.tape, h11.output, h11.size, fun q hq => h11.block q hq (fun e => by cases e)⟩
  have hnew : ∀ q, blk v' = some q → w.heap.size ≤ q := fun q hq => by
    rcases h10.2 with ⟨e1, _⟩ | ⟨g, cap, cur, e1, hge, _⟩
    · rw [e1] at hq; cases hq
    · rw [e1] at hq; simp [blk] at hq; omega
  have hB : ∀ q, q < w.heap.size → (M q ∨ blk v' = some q) → M q := fun q hq h => by
    rcases h with h | h
    · exact h
    · have := hnew q h; omega
  refine ⟨v', v', w', ?_, hb, hnew, fun Z' hz' hzo => ⟨by rw [AV.rep, hz'], fun _ => ⟨us.toList ++ news, ?_, ?_, fun e he => ?_⟩⟩⟩
  · simp only [execOp, resolve, invoke, builtin, Sem.run_bind, Sem.run_pure, Result.andThen_ok, List.map_toArray, List.map_cons, List.map_nil, hxr, f1, h4, h9]
  · rw [hz', List.length_append]
    exact ⟨h10.1, h10.2.imp id fun ⟨g, cap, cur, e1, _, r⟩ => ⟨g, cap, cur, e1, Nat.zero_le _, r⟩⟩
  · rw [List.flatten_append]
    exact (f4.mono (Upto.of_below hb) hB).append (h7.mono (Upto.of_below hb) hB)
  · rcases List.mem_append.1 he with he | he
    · exact f5 e he
    · exact h8 e he
end

/-! ## Strings -/
section
variable {P : Program} {env : Nat → AV} {H : Nat → Option Blk} {d : Option Tmp} {ty : TypeId} {pos : String} {af : Array Edge} {g : Option (Nat × Bool)}
variable {t u : TypeId} {x y : Operand}
theorem p_len_str {s : ByteArray} (hx : evA env x = .r (.v (.string s))) (ht : P.underlying t = some .string) : ReadOk P ⟨d, .call { callee := .builtin .len, args := #[x], argTypes := #[t] }, ty, pos, af, g⟩ env H [] (.r (.v (.int .i64 s.size))) := by
  refine ⟨fun i b h => mem_nil h, fun i hi => by simp [AV.ids] at hi, fun a w Z M hr _ => ?_⟩
  have h2 := ev_v hx (hr x (by simp [Op.operands, Call.operands]))
  refine ⟨.int .i64 s.size, ?_, by rw [AV.rep, RV.rep]⟩
  have : (Builtin.len_ #[t] ty #[.string s]).run P w = .ok (goInt s.size) w := by simp [Builtin.len_, run_underlying ht]
  simp [execOp, resolve, h2, invoke, builtin, this, goInt]
theorem bys_vals {B : Nat → Prop} {w : World} : ∀ (l : List UInt8) (us : List Value), RVs B w (bys l).flatten us → us = (l.map fun b => (b.toNat : Int)).map (Value.int .u8)
  | [], us, h => by cases h; rfl
  | b :: l, us, h => by
    rw [bys, List.map_cons, List.flatten_cons] at h
    cases h with
    | cons q1 q2 q3 =>
      rw [RV.rep] at q2
      rw [List.map_cons, List.map_cons, q2, bys_vals l _ q3]
theorem p_tostr {l : List UInt8} (hx : evA env x = .r (.sl 1 (bys l))) (ht : P.underlying t = some (.slice (P.elem t))) (he : P.underlying (P.elem t) = some (.int .u8)) (hu : P.underlying u = some .string) : ReadOk P ⟨d, .convert t u x, ty, pos, af, g⟩ env H [] (.r (.v (.string ⟨l.toArray⟩))) := by
  refine ⟨fun i b h => mem_nil h, fun i hi => by simp [AV.ids] at hi, fun a w Z M hr _ => ?_⟩
  have h1 := hr x (by simp [Op.operands])
  rw [hx, AV.rep, RV.rep, bys_len] at h1
  obtain ⟨A, c, h2, h3, h4, h5, h6⟩ := h1
  refine ⟨.string ⟨l.toArray⟩, ?_, by rw [AV.rep, RV.rep]⟩
  have key : (convert t u (.slice A l.length c)).run P w = .ok (.string ⟨l.toArray⟩) w := by
    rw [run_convert_bytes_string w t u _ A l.length c ht he hu]
    rcases A with _ | ad
    · have : l = [] := by
        cases l with
        | nil => rfl
        | cons b l => obtain ⟨ad, e, _⟩ := h6 (by simp [bys]); cases e
      subst this
      rfl
    · have hl : (loadCells ad l.length).run P w = .ok ((l.map fun b => (b.toNat : Int)).map (Value.int .u8)).toArray w := by
        by_cases hn : l = []
        · subst hn; rfl
        · obtain ⟨ad', e1, _, _, h7⟩ := h6 (by simpa [bys] using hn)
          injection e1 with e1
          subst e1
          rw [RV.rows_flat, RV.row_vals] at h7
          obtain ⟨us, h8, h9⟩ := h7
          have hus := bys_vals l us h8
          have := run_loadCells_list (P := P) w ad us (fun j v hj => by have := h9 j v hj; rwa [Nat.zero_add] at this)
          rw [hus] at this
          simpa using this
      rw [run_bytesToString w ad l.length c _ hl, foldl_push_bytes]
      simp [ByteArray.empty, ByteArray.emptyWithCapacity]
      congr 1
      have : l.map ((fun n : Int => UInt8.ofNat n.toNat) ∘ fun b : UInt8 => (b.toNat : Int)) = l := by
        conv => rhs; rw [← List.map_id l]
        apply List.map_congr_left
        intro b _
        simp
      first | exact this | (rw [this]) | simpa using this
  simp only [execOp, h2, Sem.run_bind, key, Result.andThen_ok, Sem.run_pure]
theorem p_seql {a b : ByteArray} (hx : evA env x = .r (.v (.string a))) (hy : evA env y = .r (.v (.string b))) : ReadOk P ⟨d, .binOp .eql t x y u, ty, pos, af, g⟩ env H [] (.r (.v (.bool (decide (a.toList = b.toList))))) :=
  p_exact2 rfl hx hy fun ρ w h1 h2 => by simp [execOp, h1, h2, go_sem]; rw [Bool.eq_iff_iff]; simp
theorem p_sneq {a b : ByteArray} (hx : evA env x = .r (.v (.string a))) (hy : evA env y = .r (.v (.string b))) : ReadOk P ⟨d, .binOp .neq t x y u, ty, pos, af, g⟩ env H [] (.r (.v (.bool (decide (¬ a.toList = b.toList))))) :=
  p_exact2 rfl hx hy fun ρ w h1 h2 => by simp [execOp, h1, h2, go_sem]; rw [Bool.eq_iff_iff]; simp
end
end Go.Ab

/- The second layer: a nil check; a function that hands back a new variable. No conditions. -/
namespace Go.Ab
open Go.RowKit
set_option linter.unusedVariables false
set_option linter.unusedSimpArgs false
section
variable {P : Program} {L : Ln} {N : Nat} {ops : Array Oper} {chk : List (Nat × Sp) → Bool} {Q : St → Prop} {l : List Oper} {E : List (Nat × AV)} {H : List (Nat × Option Blk)} {n : Nat} {tr : List (Nat × Sp)}
variable {d' : Option Tmp} {env : Nat → AV} {HF : Nat → Option Blk}
variable {d : Nat} {ty : TypeId} {pos : String} {af : Array Edge} {g : Option (Nat × Bool)} {t u : TypeId} {x y : Operand}

theorem p_nilck_pt {i o : Nat} (hx : evA env x = .pt i o) : ReadOk P ⟨d', .nilCheck x, ty, pos, af, g⟩ env HF [] (.pt i o) := by
  refine ⟨fun i b h => mem_nil h, fun i hi => ids_ev hx i (by simpa [AV.ids] using hi), fun a w Z M hr _ => ?_⟩
  have h1 := hr x (by simp [Op.operands])
  rw [hx] at h1
  have h2 := h1
  rw [AV.rep] at h1
  obtain ⟨b, _, h3⟩ := h1
  refine ⟨a.eval x, ?_, h2⟩
  simp only [execOp, h3, Sem.run_pure]
theorem p_nilck_pe {i sz k f : Nat} (hx : evA env x = .pe i sz k f) : ReadOk P ⟨d', .nilCheck x, ty, pos, af, g⟩ env HF [] (.pe i sz k f) := by
  refine ⟨fun i b h => mem_nil h, fun i hi => ids_ev hx i (by simpa [AV.ids] using hi), fun a w Z M hr _ => ?_⟩
  have h1 := hr x (by simp [Op.operands])
  rw [hx] at h1
  have h2 := h1
  rw [AV.rep] at h1
  obtain ⟨b, _, h3⟩ := h1
  refine ⟨a.eval x, ?_, h2⟩
  simp only [execOp, h3, Sem.run_pure]
theorem p_nilck_rp {cs : List RV} (hx : evA env x = .rp cs) : ReadOk P ⟨d', .nilCheck x, ty, pos, af, g⟩ env HF [] (.rp cs) := by
  refine ⟨fun i b h => mem_nil h, fun i hi => ids_ev hx i (by simp [AV.ids] at hi), fun a w Z M hr _ => ?_⟩
  have h1 := hr x (by simp [Op.operands])
  rw [hx] at h1
  have h2 := h1
  rw [AV.rep] at h1
  obtain ⟨b, h3, _⟩ := h1
  refine ⟨a.eval x, ?_, h2⟩
  simp only [execOp, h3, Sem.run_pure]

theorem p_cuth_b {e b : Nat} [hT : SlT P t e 1 b] {k : IntKind} {a : Int} {m : Nat} {bs : List UInt8} (hx : evA env x = .r (.sl 1 (bys bs))) (hy : evA env y = .r (.v (.int k a))) (ha : a = (m : Int)) (hm : m ≤ bs.length) :
    ReadOk P ⟨d', .slice t x none (some y) none, ty, pos, af, g⟩ env HF [] (.r (.sl 1 (bys (bs.take m)))) := by
  rw [bys_take]; exact p_cuth hx hy ha (by rw [bys_len]; exact hm)
theorem p_cutl_b {e b : Nat} [hT : SlT P t e 1 b] {k : IntKind} {a : Int} {j : Nat} {bs : List UInt8} (hx : evA env x = .r (.sl 1 (bys bs))) (hy : evA env y = .r (.v (.int k a))) (ha : a = (j : Int)) (hj : j ≤ bs.length) :
    ReadOk P ⟨d', .slice t x (some y) none none, ty, pos, af, g⟩ env HF [] (.r (.sl 1 (bys (bs.drop j)))) := by
  rw [bys_drop]; exact p_cutl hx hy ha (by rw [bys_len]; exact hj)
theorem p_cut2_b {e b : Nat} [hT : SlT P t e 1 b] {k k' : IntKind} {a c : Int} {j m : Nat} {z : Operand} {bs : List UInt8} (hx : evA env x = .r (.sl 1 (bys bs))) (hy : evA env y = .r (.v (.int k a))) (hz : evA env z = .r (.v (.int k' c))) (ha : a = (j : Int)) (hc : c = (m : Int)) (hj : j ≤ m) (hm : m ≤ bs.length) :
    ReadOk P ⟨d', .slice t x (some y) (some z) none, ty, pos, af, g⟩ env HF [] (.r (.sl 1 (bys ((bs.drop j).take (m - j))))) := by
  rw [bys_take, bys_drop]; exact p_cut2 hx hy hz ha hc hj (by rw [bys_len]; exact hm)
theorem str_toList (l : List UInt8) : ByteArray.toList ⟨l.toArray⟩ = l := by simp
/-- The contract of a function that hands back a pointer to a new variable. -/
def Makes (P : Program) (f : FuncId) (ds : List AV) (T : TypeId) (cs : List RV) : Prop :=
  ∀ (w : World) (Z : Nat → Value) (M : Nat → Prop) (us : List Value), (∀ x, M x → x < w.heap.size) → AV.reps Z M w ds us →
    Calls P f us.toArray w fun e w' => ∃ p vs, e = .returned (.pointer (some ⟨p, 0, none⟩)) ∧ w.heap.size ≤ p ∧ w'.heap[p]? = some (.cells vs T (0, 0)) ∧ RVs (fun q => M q ∨ w.heap.size ≤ q) w' cs vs.toList ∧ Below w.heap.size w w'
theorem w_new {f : FuncId} {xs : Array Operand} {ats : Array TypeId} {ds : List AV} {T : TypeId} {cs : List RV} (hm : Makes P f ds T cs) (hargs : CfL (getH H) (fun i => i) [] (xs.toList.map (evA (get E))) ds) (hf : callB P f = true) (hds : AV.idss ds = [])
    (hd : Nat.blt d N = true) (hg : Wanted ops (get E) ⟨some d, .call { callee := .value (.func f), args := xs, argTypes := ats }, ty, pos, af, g⟩ true)
    (h : wpA P L N ops chk Q l ⟨(d, .pt n 0) :: E, (n, some (.var T (cs.map .r))) :: H, n + 1⟩ ((n, ⟨true, [], .pt n 0, [], [.var T (cs.map .r)]⟩) :: tr)) :
    wpA P L N ops chk Q (⟨some d, .call { callee := .value (.func f), args := xs, argTypes := ats }, ty, pos, af, g⟩ :: l) ⟨E, H, n⟩ tr := by
  have hid : ∀ cs : List RV, AV.idss (cs.map .r) = [] := fun cs => by induction cs with | nil => rfl | cons c cs ih => rw [List.map_cons, AV.idss, ih]; rfl
  refine ⟨⟨true, [], .pt n 0, [], [.var T (cs.map .r)]⟩, ⟨fun x hx => ?_, hg, fun _ a w Z M hM hr hh hdist => ?_, (fun h => by cases h), fun D hD hDH hfree => ?_⟩, h⟩
  · injection hx with hx; subst hx; exact blt_t.1 hd
  · have hr' : ∀ x ∈ xs.toList, (evA (get E) x).rep Z M w (a.eval x) := fun x hx => hr x (by show x ∈ (#[Operand.func f] ++ xs).toList; rw [Array.toList_append]; exact List.mem_append_right _ hx)
    have hreps : AV.reps Z M w (xs.toList.map (evA (get E))) (xs.toList.map a.eval) := by
      revert hr'
      generalize xs.toList = ys
      intro hr'
      induction ys with
      | nil => rw [List.map_nil, AV.reps]; rfl
      | cons y ys ih => rw [List.map_cons, List.map_cons, AV.reps]; exact ⟨_, _, rfl, hr' y (by simp), ih fun x hx => hr' x (by simp [hx])⟩
    have hargs' := CfL.reps (Z := Z) (Z' := Z) (B := M) (B' := M) (w := w) (fun _ _ h => h) (fun j b hj hb => by cases hj) hargs (fun _ _ => rfl) _ hreps
    have hc := hm w Z M (xs.toList.map a.eval) hM hargs'
    refine exec_enter (exec_call hf a w) ?_
    have he : (xs.toList.map a.eval).toArray = xs.map a.eval := by rw [← Array.toList_map]
    rw [he] at hc
    refine hc.mono fun e w' ⟨p, vs, h1, h2, h3, h4, h5⟩ => ⟨_, h1, fun i => if i = n then .pointer (some ⟨p, 0, none⟩) else Z i, fun i hi => ?_, ?_, fun i b h => mem_nil h, fun j c hj => ?_, fun j j' q hj hj' hne => ?_, fun j q hj hq => .inl ?_, (Upto.of_below h5)⟩
    · have : i ≠ n := by simp at hi; omega
      simp [this]
    · simp only [AV.rep]
      exact ⟨p, by simp [blk], rfl⟩
    · have hj0 : j = 0 := by
        cases j with
        | zero => rfl
        | succ j => simp at hj
      subst hj0
      have : c = .var T (cs.map .r) := by simpa using hj.symm
      subst this
      have hr2 : ∀ (cs : List RV) (vs : List Value) (B : Nat → Prop), (∀ q, q < w'.heap.size → B q → M q ∨ w.heap.size ≤ q) → RVs (fun q => M q ∨ w.heap.size ≤ q) w' cs vs → AV.reps (fun i => if i = n then .pointer (some ⟨p, 0, none⟩) else Z i) B w' (cs.map .r) vs := by
        intro cs vs B hB h
        have h' := RVs.mono (Upto.refl _) hB h
        clear h
        induction h' with
        | nil => rw [List.map_nil, AV.reps]
        | cons h1 h2 _ ih => rw [List.map_cons, AV.reps]; exact ⟨_, _, rfl, by rw [AV.rep]; exact h2, ih⟩
      refine ⟨p, vs, by simp, h3, hr2 cs _ _ (fun q _ hq => ?_) h4, ?_⟩
      · rcases hq with h0 | ⟨j, hj, hq⟩
        · exact .inl h0
        · have : j = 0 := by simpa using hj
          subst this
          simp [blk] at hq
          exact .inr (by omega)
      · have := h4.one
        rw [Array.all_eq_true]
        intro i hi
        exact this _ (by simp)
    · simp at hj hj'; omega
    · have : j = 0 := by simpa using hj
      subst this
      simp [blk] at hq
      omega
  · refine ⟨fun i b h => mem_nil h, fun i o h => mem_nil h, fun i o h => mem_nil h, fun i h => mem_nil h, hfree, fun i hi => .inr ?_, fun c hc i hi => .inl ?_, fun i b h => mem_nil h⟩
    · have : i = n := by simpa [AV.ids] using hi
      subst this; simp
    · have : c = .var T (cs.map .r) := by simpa using hc
      subst this
      rw [Blk.ids, hid] at hi
      cases hi
end

theorem thenA_ret {K : St → Prop} {Q : Exit → St → Prop} {S : St} (h : Q .ret S) : thenA K Q .ret S := h
theorem blockA_ret {i : Nat} {Q : Exit → St → Prop} {S : St} (h : Q .ret S) : blockA i Q .ret S := h
/-! ## A fresh slice that is only read from then on -/
theorem row_read {Z : Nat → Value} {B B' : Nat → Prop} {w : World} {j T sz : Nat} {es : List (List RV)} (h : held Z B w j (.row T sz es)) (hB : ∀ q, q < w.heap.size → B' q → B q) (hn : ∀ x, blk (Z j) = some x → ¬ B' x) : RV.rep B' w (.sl sz es) (Z j) := by
  obtain ⟨us, h1, h2, h3⟩ := h
  exact rows_of_own (n := 0) h1 h2 h3 hB hn
theorem Meets.freeze {P : Program} {f : FuncId} {args : List AV} {T sz : Nat} {es : List (List RV)} (h : Meets P f args [] (.fr T sz es) []) : Meets P f args [] (.r (.sl sz es)) [] := by
  intro w Z M k us hM hk hargs hpre hd
  refine (h w Z M k us hM hk hargs hpre hd).mono fun e w' ⟨v, he, Z', A⟩ => ⟨v, he, Z, fun _ _ => rfl, ?_, fun i b h => by simp [callSp, numdP] at h, fun j b h => by simp [callSp, AV.unfr] at h, fun j j' x h => by simp [callSp, AV.unfr] at h, fun j x h => by simp [callSp, AV.unfr] at h, A.upto⟩
  have h1 := A.out
  have h2 := A.fr 0 (.row T sz es) (by simp [callSp, AV.unfr])
  have h3 := A.fresh 0
  simp only [callSp, AV.unfr, AV.rep, Nat.add_zero] at h1 h2 h3 ⊢
  rw [h1]
  refine row_read h2 (fun q _ hq => hq.imp (fun h => h) (fun ⟨j, hj, _⟩ => by simp at hj)) fun x hx hn => ?_
  have h4 := h3 x (by simp) hx
  rcases hn with h0 | ⟨j, hj, _⟩
  · rcases h4 with h4 | ⟨i, hi, _⟩
    · have := hM x h0; omega
    · simp [numdP] at hi
  · simp at hj
theorem Meets.freeze2 {P : Program} {f : FuncId} {args : List AV} {T sz : Nat} {es : List (List RV)} {y : Value} (h : Meets P f args [] (.tu [.fr T sz es, .r (.v y)]) []) : Meets P f args [] (.tu [.r (.sl sz es), .r (.v y)]) [] := by
  intro w Z M k us hM hk hargs hpre hd
  refine (h w Z M k us hM hk hargs hpre hd).mono fun e w' ⟨v, he, Z', A⟩ => ⟨v, he, Z, fun _ _ => rfl, ?_, fun i b h => by simp [callSp, numdP] at h, fun j b h => by simp [callSp, AV.unfr, AV.unfrs] at h, fun j j' x h => by simp [callSp, AV.unfr, AV.unfrs] at h, fun j x h => by simp [callSp, AV.unfr, AV.unfrs] at h, A.upto⟩
  have h1 := A.out
  have h2 := A.fr 0 (.row T sz es) (by simp [callSp, AV.unfr, AV.unfrs])
  have h3 := A.fresh 0
  simp only [callSp, AV.unfr, AV.unfrs, AV.rep, AV.reps, Nat.add_zero] at h1 h2 h3 ⊢
  obtain ⟨us', e1, u, us2, e2, h5, e3⟩ := h1
  refine ⟨us', e1, u, us2, e2, ?_, ?_⟩
  · rw [h5]
    refine row_read h2 (fun q _ hq => hq.imp (fun h => h) (fun ⟨j, hj, _⟩ => by simp at hj)) fun x hx hn => ?_
    have h4 := h3 x (by simp) hx
    rcases hn with h0 | ⟨j, hj, _⟩
    · rcases h4 with h4 | ⟨i, hi, _⟩
      · have := hM x h0; omega
      · simp [numdP] at hi
    · simp at hj
  · obtain ⟨u', us3, e4, h6, e5⟩ := e3
    refine ⟨u', us3, e4, ?_, e5⟩
    rw [RV.rep] at h6 ⊢; exact h6

/-! ## What bears no slice -/
theorem vals_bys {T : Nat} (l : List UInt8) : (AV.fr T 1 (bys l)).vals := by
  simp only [AV.vals, bys, List.mem_map]
  rintro e ⟨b, _, rfl⟩ c hc
  simp only [List.mem_singleton] at hc
  exact ⟨_, hc⟩
theorem vals_v (x : Value) : (AV.r (.v x)).vals := by simp only [AV.vals]; exact ⟨x, rfl⟩
theorem vals_nil : AV.valss [] := by simp only [AV.valss]
theorem vals_cons {c : AV} {cs : List AV} (h : c.vals) (h' : AV.valss cs) : AV.valss (c :: cs) := by simp only [AV.valss]; exact ⟨h, h'⟩
theorem vals_tu {cs : List AV} (h : AV.valss cs) : (AV.tu cs).vals := by simp only [AV.vals]; exact h
theorem vals_ag {cs : List AV} (h : AV.valss cs) : (AV.ag cs).vals := by simp only [AV.vals]; exact h
end Go.Ab

/- The second layer: structs as arguments and results. No conditions. -/
namespace Go.Ab
open Go.RowKit
set_option linter.unusedVariables false
section
variable {H : Nat → Option Blk} {ρ : Nat → Nat} {G : List Nat} {as ds cs cs' : List AV} {env : Nat → AV} {x : Operand}
theorem cfl_r {c c' : RV} (h : CfL H ρ G cs cs') (e : c = c') : CfL H ρ G (.r c :: cs) (.r c' :: cs') := by subst e; exact .cons _ _ _ _ (.r _) h
theorem cfl_int {k : IntKind} {m p : Int} (h : CfL H ρ G cs cs') (e : m = p) : CfL H ρ G (.r (.v (.int k m)) :: cs) (.r (.v (.int k p)) :: cs') := cfl_r h (by rw [e])
theorem cl_ag (h : CfL H ρ G as ds) (hc : CfL H ρ G cs cs') (hx : evA env x = .ag cs) : CfL H ρ G (evA env x :: as) (.ag cs' :: ds) := by rw [hx]; exact .cons _ _ _ _ (.ag _ _ hc) h
end
theorem Rt.ag3 {H : Nat → Option Blk} {L : Nat} {G : List Nat} {k k' k'' : IntKind} {a b c a' b' c' : Int} (h : a = a') (h' : b = b') (h'' : c = c') : Rt H L G (.ag [.r (.v (.int k a)), .r (.v (.int k' b)), .r (.v (.int k'' c))]) (.ag [.r (.v (.int k a')), .r (.v (.int k' b')), .r (.v (.int k'' c'))]) [] := by
  subst h h' h''
  exact .ag _ _ _ (.cons _ _ _ _ [] [] (.r _) (.cons _ _ _ _ [] [] (.r _) (.cons _ _ _ _ [] [] (.r _) .nil)))
/-- Nothing appended to a full slice. -/
theorem p_append_e {P : Program} {env : Nat → AV} {HF : Nat → Option Blk} {d' : Option Tmp} {ty : TypeId} {pos : String} {af : Array Edge} {g : Option (Nat × Bool)} {t : TypeId} {x y : Operand} {e sz b i : Nat} [hT : SlT P t e sz b] {es : List (List RV)} (hx : evA env x = .ow i) (hi : HF i = some (.full e sz es)) (hy : evA env y = .r (.sl sz [])) :
    ReadOk P ⟨d', .call { callee := .builtin .append, args := #[x, y], argTypes := #[t, t] }, ty, pos, af, g⟩ env HF [(i, .full e sz es)] (.ow i) := by
  refine ⟨fun j c hj => ?_, fun j hj => .inl ((ids_ev hx j (by simpa [AV.ids] using hj)).resolve_right fun ⟨_, _, h, _⟩ => by cases h), fun a w Z M hr hh => ?_⟩
  · have : j = i ∧ c = .full e sz es := by simpa using hj
    obtain ⟨rfl, rfl⟩ := this
    exact hi
  have h1 := hr x (by simp [Op.operands, Call.operands])
  have h2 := hr y (by simp [Op.operands, Call.operands])
  rw [hx, AV.rep] at h1
  rw [hy, AV.rep, RV.rep] at h2
  obtain ⟨A, c, h3, _, _, _, _⟩ := h2
  obtain ⟨q, us, fr, f1, f2, f3, f4, f5⟩ := hh i (.full e sz es) (by simp)
  obtain ⟨ti, z, t1, t2, t3, t4, t5⟩ := SlT.inf (P := P) (t := t) (e := e) (sz := sz) (b := b)
  have tu := SlT.und (P := P) (t := t) (e := e) (sz := sz) (b := b)
  refine ⟨Z i, ?_, by rw [AV.rep]⟩
  have key : (Builtin.append_ #[t, t] ty #[.slice (some ⟨q, 0, none⟩) es.length es.length, .slice A 0 c]).run P w = .ok (.slice (some ⟨q, 0, none⟩) es.length es.length) w := by
    cases A <;> simp [Builtin.append_, run_underlying tu, sizeOf, typeInfo, t1, Builtin.lenOf, Builtin.firstCells, storeCells, loadCells, loadCellsFrom]
  simp only [List.length_nil] at h3
  simp only [execOp, resolve, invoke, builtin, Sem.run_bind, Sem.run_pure, Result.andThen_ok, List.map_toArray, List.map_cons, List.map_nil, h1, f1, h3, key]
/-- Two results, the first of which is a struct in a variable. -/
theorem ret2c {post : List (Option Blk)} {P : Program} {L : Ln} {fn : Func} {S : St} {r s y : AV} {cs : List AV} {p u ty i n : Nat} {T : TypeId} {F F' : List Nat} [hT : AgT P ty n] (G : List Nat) (hrt : Rt (getH S.H) L.n G (.ag cs) r F) (hrs : Rt (getH S.H) L.n G y s F') (hres : fn.results = #[.cell p ty, .tmp u]) (hp : get S.env p = .pt i 0) (hi : getH S.H i = some (.var T cs)) (hl : cs.length = n) (hy : get S.env u = y)
    (hpo : ∀ i b, (i, some b) ∈ numdP 0 post → getH S.H i = some b ∧ b.ids = []) (hn : retNums L (F ++ (F' ++ [])) G = true) : (Exit.ret = .normal ∨ Exit.ret = .ret) ∧ RetOk P L fn S (.tu [r, s]) post := by
  obtain ⟨d, h1, h2⟩ := hT.und
  refine ⟨.inr rfl, ⟨⟨.tu [.ag cs, y], _, G, .two _ _ _ _ hres (.agg _ _ _ _ _ _ hp hi h1 h2 ?_) (.tmp _ _ hy), .tu _ _ _ (.cons _ _ _ _ _ _ hrt (.cons _ _ _ _ _ _ hrs .nil)), hn⟩, hpo⟩⟩
  rw [hT.size, hl]
section
variable {S : St} {ρ : Nat → Nat} {G : List Nat} {l : List (Nat × AV)} {t : Nat} {lh : List (Nat × Option Blk)}
theorem le_fz {j T sz : Nat} {es es' : List (List RV)} (h : eLe S ρ G l) (e : es = es') (hg : j ∈ G) (hx : get S.env t = .ow j) (hj : getH S.H j = some (.row T sz es)) : eLe S ρ G ((t, .r (.sl sz es')) :: l) := by
  subst e; refine ⟨?_, h⟩; rw [show S.envF t = .ow j from hx]; exact .fz _ _ _ _ hj hg
theorem hl_var {i : Nat} {T : TypeId} {cs cs' : List AV} (h : hLe S ρ G lh) (hc : CfL S.HF ρ G cs cs') (hx : getH S.H (ρ i) = some (.var T cs)) : hLe S ρ G ((i, some (.var T cs')) :: lh) := ⟨⟨_, hx, .var _ _ _ hc⟩, h⟩
end
end Go.Ab

/- The second layer: structs of numbers that are compared; own rows with their room; cuts of own slices. No conditions. -/
namespace Go.Ab
open Go.RowKit
set_option linter.unusedVariables false
set_option linter.unusedSimpArgs false

/-! ## Structs of numbers, compared -/
def eqTB (P : Program) (t n : Nat) : Bool :=
  (match P.underlying t with
   | some (.struct fs) => Nat.beq fs.size n && (fs.toList.zipIdx.all fun p => !(p.1.name == "_") && Nat.beq p.1.offset p.2 && (match P.underlying p.1.type with | some (.int _) => true | _ => false))
   | _ => false) && !P.stoodInHeld t && !P.eqGuardType P.depth t
class EqT (P : Program) (t : Nat) (n : outParam Nat) : Prop where ok : eqTB P t n = true
/-- Whether two lists of numbers are equal. -/
def eqA : List AV → List AV → Bool
  | [], [] => true
  | .r (.v (.int _ a)) :: as, .r (.v (.int _ b)) :: bs => (a == b) && eqA as bs
  | _, _ => false
def okA : List AV → List AV → Bool
  | [], [] => true
  | .r (.v (.int k _)) :: as, .r (.v (.int k' _)) :: bs => decide (k = k') && okA as bs
  | _, _ => false
theorem fieldsOf_eq {P : Program} {t : Nat} {fs : Array Field} (h : P.underlying t = some (.struct fs)) : P.fieldsOf t = fs := by
  unfold Program.fieldsOf; rw [h]
theorem run_part_int {P : Program} {u : TypeId} {k : IntKind} {xs : Array Value} {off : Nat} {v : Value} (hu : P.underlying u = some (.int k)) (hx : xs[off]? = some v) (w : World) : (part u xs off).run P w = .ok v w := by
  simp only [part, Sem.run_bind, run_agg (b := false) hu rfl, Result.andThen_ok, Bool.false_eq_true, if_false, hx, Sem.run_pure]
theorem run_eqFields_ints {P : Program} {Z : Nat → Value} {B : Nat → Prop} {w : World} (d : Nat) (xs ys : Array Value) : ∀ (fs : List Field) (j : Nat) (as bs : List AV), okA as bs = true → as.length = fs.length → AV.reps Z B w as (xs.toList.drop j) → AV.reps Z B w bs (ys.toList.drop j) →
    ((fs.zipIdx j).all fun p => !(p.1.name == "_") && Nat.beq p.1.offset p.2 && (match P.underlying p.1.type with | some (.int _) => true | _ => false)) = true → (Op.eqFields (d + 1) xs ys fs).run P w = .ok (eqA as bs) w
  | [], j, as, bs, ho, hl, _, _, _ => by
    have : as = [] := List.eq_nil_of_length_eq_zero hl
    subst this
    cases bs with
    | nil => simp [Op.eqFields, eqA]
    | cons b bs => simp [okA] at ho
  | f :: fs, j, as, bs, ho, hl, hx, hy, hf => by
    cases as with
    | nil => simp at hl
    | cons a as =>
      cases bs with
      | nil => unfold okA at ho; split at ho <;> simp_all
      | cons b bs =>
        unfold okA at ho
        split at ho
        · simp_all
        · rename_i k m as' k' m' bs' e1 e2
          injection e1 with e1 e1'
          injection e2 with e2 e2'
          subst e1 e2 e1' e2'
          rw [AV.reps] at hx hy
          obtain ⟨u, us, g1, g2, g3⟩ := hx
          obtain ⟨v, vs, g4, g5, g6⟩ := hy
          rw [AV.rep, RV.rep] at g2 g5
          subst g2 g5
          have hd : ∀ (l : List Value) (x : Value) (xs : List Value), l.drop j = x :: xs → l[j]? = some x ∧ l.drop (j + 1) = xs := by
            intro l x xs h
            refine ⟨?_, ?_⟩
            · have := congrArg (fun l => l[0]?) h
              simpa using this
            · rw [← List.drop_drop, h]; rfl
          obtain ⟨hx1, hx2⟩ := hd _ _ _ g1
          obtain ⟨hy1, hy2⟩ := hd _ _ _ g4
          rw [List.zipIdx_cons, List.all_cons, Bool.and_eq_true] at hf
          obtain ⟨hf1, hf2⟩ := hf
          simp only [Bool.and_eq_true] at hf1
          obtain ⟨⟨hn, hoff⟩, hint⟩ := hf1
          have hoff := Nat.eq_of_beq_eq_true hoff
          have hoff : f.offset = j := hoff
          have hn' : f.name ≠ "_" := by simpa using hn
          cases hu : P.underlying f.type with
          | none => rw [hu] at hint; cases hint
          | some D =>
            rw [hu] at hint
            cases D <;> try (cases hint; done)
            rename_i kk
            rw [Bool.and_eq_true, decide_eq_true_eq] at ho
            obtain ⟨hk, ho⟩ := ho
            subst hk
            have ih := run_eqFields_ints (P := P) d xs ys fs (j + 1) as bs ho (by simpa using hl) (by rw [hx2]; exact g3) (by rw [hy2]; exact g6) hf2
            have p1 : (part f.type xs f.offset).run P w = .ok (.int k m) w := run_part_int hu (by rw [hoff, ← Array.getElem?_toList]; exact hx1) w
            have p2 : (part f.type ys f.offset).run P w = .ok (.int k m') w := run_part_int hu (by rw [hoff, ← Array.getElem?_toList]; exact hy1) w
            have p3 := run_equalIn_int w d f.type k kk m m' hu
            simp only [Op.eqFields, if_pos hn', Sem.run_bind, p1, p2, p3, Result.andThen_ok, Sem.run_ite, eqA]
            by_cases hmm : m = m'
            · subst hmm; simp [ih]
            · simp [hmm]
        · simp_all

section
variable {P : Program} {env : Nat → AV} {H : Nat → Option Blk} {d : Option Tmp} {ty : TypeId} {pos : String} {af : Array Edge} {g : Option (Nat × Bool)}
variable {t u : TypeId} {x y : Operand}
theorem eqT_all {n : Nat} [h : EqT P t n] : P.underlying t = some (.struct (P.fieldsOf t)) ∧ (P.fieldsOf t).size = n ∧ ((P.fieldsOf t).toList.zipIdx.all fun p => !(p.1.name == "_") && Nat.beq p.1.offset p.2 && (match P.underlying p.1.type with | some (.int _) => true | _ => false)) = true ∧ P.stoodInHeld t = false ∧ P.eqGuardType P.depth t = false := by
  have h0 := h.ok
  unfold eqTB at h0
  simp only [Bool.and_eq_true, Bool.not_eq_true'] at h0
  obtain ⟨⟨h1, h2⟩, h3⟩ := h0
  split at h1
  · rename_i fs hu
    rw [fieldsOf_eq hu]
    rw [Bool.and_eq_true] at h1
    exact ⟨hu, Nat.eq_of_beq_eq_true h1.1, h1.2, h2, h3⟩
  · cases h1
theorem p_eqag {n : Nat} [EqT P t n] {as bs : List AV} (hx : evA env x = .ag as) (hy : evA env y = .ag bs) (ho : okA as bs = true) (hl : as.length = n) : ReadOk P ⟨d, .binOp .eql t x y u, ty, pos, af, g⟩ env H [] (.r (.v (.bool (decide (eqA as bs = true))))) := by
  refine ⟨fun i b h => mem_nil h, fun i hi => by simp [AV.ids] at hi, fun a w Z M hr _ => ?_⟩
  have h1 := hr x (by simp [Op.operands])
  have h2 := hr y (by simp [Op.operands])
  rw [hx, AV.rep] at h1
  rw [hy, AV.rep] at h2
  obtain ⟨us, e1, h3⟩ := h1
  obtain ⟨vs, e2, h4⟩ := h2
  obtain ⟨t1, t2, t3, t4, t5⟩ := eqT_all (P := P) (t := t) (n := n)
  refine ⟨.bool (eqA as bs), ?_, by rw [AV.rep, RV.rep]; simp⟩
  have k1 : (eqGuard .eql t x y (.agg us) (.agg vs)).run P w = .ok () w := run_eqGuard_agg w .eql t x y us vs t5
  have k2 := run_eqFields_ints (P := P) (w := w) 9998 us vs (P.fieldsOf t).toList 0 as bs ho (by rw [hl, Array.length_toList, t2]) h3 h4 t3
  simp only [execOp, e1, e2, Sem.run_bind, k1, Result.andThen_ok, run_eql_struct, run_equalIn_struct w 9999 t us vs t1 t4, k2, Sem.run_pure]
theorem p_neqag {n : Nat} [EqT P t n] {as bs : List AV} (hx : evA env x = .ag as) (hy : evA env y = .ag bs) (ho : okA as bs = true) (hl : as.length = n) : ReadOk P ⟨d, .binOp .neq t x y u, ty, pos, af, g⟩ env H [] (.r (.v (.bool (decide (¬ eqA as bs = true))))) := by
  refine ⟨fun i b h => mem_nil h, fun i hi => by simp [AV.ids] at hi, fun a w Z M hr _ => ?_⟩
  have h1 := hr x (by simp [Op.operands])
  have h2 := hr y (by simp [Op.operands])
  rw [hx, AV.rep] at h1
  rw [hy, AV.rep] at h2
  obtain ⟨us, e1, h3⟩ := h1
  obtain ⟨vs, e2, h4⟩ := h2
  obtain ⟨t1, t2, t3, t4, t5⟩ := eqT_all (P := P) (t := t) (n := n)
  refine ⟨.bool (!eqA as bs), ?_, by rw [AV.rep, RV.rep]; simp⟩
  have k1 : (eqGuard .neq t x y (.agg us) (.agg vs)).run P w = .ok () w := run_eqGuard_agg w .neq t x y us vs t5
  have k2 := run_eqFields_ints (P := P) (w := w) 9998 us vs (P.fieldsOf t).toList 0 as bs ho (by rw [hl, Array.length_toList, t2]) h3 h4 t3
  simp only [execOp, e1, e2, Sem.run_bind, k1, Result.andThen_ok, run_neq_struct, run_equalIn_struct w 9999 t us vs t1 t4, k2, Sem.run_pure]
end
/-- One result, a struct in a variable. -/
theorem ret1c {post : List (Option Blk)} {P : Program} {L : Ln} {fn : Func} {S : St} {r : AV} {cs : List AV} {p ty i n : Nat} {T : TypeId} {F : List Nat} [hT : AgT P ty n] (G : List Nat) (hrt : Rt (getH S.H) L.n G (.ag cs) r F) (hres : fn.results = #[.cell p ty]) (hp : get S.env p = .pt i 0) (hi : getH S.H i = some (.var T cs)) (hl : cs.length = n)
    (hpo : ∀ i b, (i, some b) ∈ numdP 0 post → getH S.H i = some b ∧ b.ids = []) (hn : retNums L F G = true) : (Exit.ret = .normal ∨ Exit.ret = .ret) ∧ RetOk P L fn S r post := by
  obtain ⟨d, h1, h2⟩ := hT.und
  refine ⟨.inr rfl, ⟨⟨.ag cs, _, G, .one _ _ hres (.agg _ _ _ _ _ _ hp hi h1 h2 ?_), hrt, hn⟩, hpo⟩⟩
  rw [hT.size, hl]
end Go.Ab

/- The second layer: own rows with their room: an append within the room, one beyond it. No conditions. -/
namespace Go.Ab
open Go.RowKit
set_option linter.unusedVariables false
set_option linter.unusedSimpArgs false

theorem getH_cons (i j : Nat) (b : Option Blk) (H : List (Nat × Option Blk)) : getH ((i, b) :: H) j = if i = j then b else getH H j := by
  rw [getH]
  by_cases hij : i = j
  · subst hij; simp
  · have : Nat.beq i j = false := by cases hb : Nat.beq i j with
      | false => rfl
      | true => exact absurd (Nat.eq_of_beq_eq_true hb) hij
    simp [this, hij]
/-- The room of an own row is named. -/
theorem awp_room {P : Program} {L : Ln} {N : Nat} {c : Code} {Q : Exit → St → Prop} {E : List (Nat × AV)} {H : List (Nat × Option Blk)} {n i T sz : Nat} {es : List (List RV)} (hi : getH H i = some (.row T sz es)) (hne : es ≠ [])
    (h : ∀ cap, es.length ≤ cap → awp P L N c Q ⟨E, (i, some (.rowk T sz es es.length cap)) :: H, n⟩) : awp P L N c Q ⟨E, H, n⟩ := by
  intro C h1 h2 h3 a w ⟨Z, S⟩
  obtain ⟨⟨us, g1, g2, g3⟩, g4, g5⟩ := S.holds i _ hi
  have hx : ∃ g cap, Z i = .slice (some ⟨g, 0, none⟩) es.length cap ∧ es.length ≤ cap := by
    rcases g1.2 with ⟨e, h0⟩ | ⟨g, cap, cur, e, _, _, hc, _⟩
    · exact absurd (List.eq_nil_of_length_eq_zero h0) hne
    · exact ⟨g, cap, e, hc⟩
  obtain ⟨g, cap, hz, hcap⟩ := hx
  refine h cap hcap C h1 h2 h3 a w ⟨Z, ?_⟩
  have hH : ∀ j, St.HF ⟨E, (i, some (.rowk T sz es es.length cap)) :: H, n⟩ j = if i = j then some (.rowk T sz es es.length cap) else getH H j := fun j => getH_cons i j _ _
  have hold : ∀ j b, St.HF ⟨E, (i, some (.rowk T sz es es.length cap)) :: H, n⟩ j = some b → ∃ b', getH H j = some b' := by
    intro j b hj
    rw [hH] at hj
    split at hj
    · rename_i e; subst e; exact ⟨_, hi⟩
    · exact ⟨b, hj⟩
  have hO : Own C (St.HF ⟨E, (i, some (.rowk T sz es es.length cap)) :: H, n⟩) Z = Own C (St.HF ⟨E, H, n⟩) Z := by
    funext x
    apply propext
    constructor
    · rintro (h0 | ⟨j, b, hj, hjx⟩)
      · exact .inl h0
      · obtain ⟨b', hb'⟩ := hold j b hj
        exact .inr ⟨j, b', hb', hjx⟩
    · rintro (h0 | ⟨j, b, hj, hjx⟩)
      · exact .inl h0
      · by_cases e : i = j
        · exact .inr ⟨j, _, by rw [hH, if_pos e], hjx⟩
        · exact .inr ⟨j, b, by rw [hH, if_neg e]; exact hj, hjx⟩
  refine ⟨S.size, S.defers, S.frame, S.m0, fun t => ?_, S.ids, fun j b hj => ?_, fun j j' b c hj hj' => ?_, fun j b x hj => ?_, S.lm, S.zl⟩
  · rw [hO]; exact S.slots t
  · rw [hO]
    rw [hH] at hj
    split at hj
    · rename_i e
      subst e
      injection hj with hj
      subst hj
      exact ⟨⟨g, us, hz, by rw [← hz]; exact g1, Nat.le_refl _, g2, g3⟩, g4, fun q hq => by simp [Blk.ids] at hq⟩
    · exact S.holds j b hj
  · obtain ⟨b', hb'⟩ := hold j b hj
    obtain ⟨c', hc'⟩ := hold j' c hj'
    exact S.dist j j' b' c' hb' hc'
  · obtain ⟨b', hb'⟩ := hold j b hj
    exact S.fresh j b' x hb'

/-- The same, ahead of a region that is told. -/
theorem awp_roomR (r i : Nat) {P : Program} {L : Ln} {N : Nat} {ops : Array Oper} {b : Bool} {y : Code} {Q : Exit → St → Prop} {S : St} {T sz : Nat} {es : List (List RV)} (hi : getH S.H i = some (.row T sz es)) (hne : es ≠ [])
    (h : ∀ cap, es.length ≤ cap → awp P L N (.seq (.region r ops b) y) Q ⟨S.env, (i, some (.rowk T sz es es.length cap)) :: S.H, S.nx⟩) : awp P L N (.seq (.region r ops b) y) Q S := awp_room hi hne h
/-- A statement that begins with the region r is walked by itself: behind it no more is known than T a. -/
theorem awp_cutR (r : Nat) {P : Program} {L : Ln} {N : Nat} {Q : Exit → St → Prop} {S : St} {α : Type} {ops : Array Oper} {b : Bool} {x y : Code} (T : α → St) (I : α → Prop)
    (h1 : awp P L N (.seq (.region r ops b) x) (thenA (fun S => ∃ a, I a ∧ Le L S (T a)) Q) S) (h2 : ∀ a, I a → awp P L N y Q (T a)) : awp P L N (.seq (.seq (.region r ops b) x) y) Q S := by
  refine awp_seq (awp_mono h1 fun e S' h => ?_)
  cases e with
  | normal => obtain ⟨a, ha, hL⟩ := h; exact awp_le hL (h2 a ha)
  | _ => exact h

/-- What an append's second operand may be, own rows with their room among them. -/
inductive SrcK (env : Nat → AV) (H : Nat → Option Blk) (T sz : Nat) (x : Operand) : List (List RV) → List (Nat × Blk) → Prop
  | src (es rd) : Src env H T sz x es rd → SrcK env H T sz x es rd
  | ok (j es n c) : evA env x = .ow j → H j = some (.rowk T sz es n c) → SrcK env H T sz x (es.take n) [(j, .rowk T sz es n c)]
  | ol (j m es n c) : evA env x = .ol j m → H j = some (.rowk T sz es n c) → m ≤ es.length → SrcK env H T sz x (es.take m) [(j, .rowk T sz es n c)]
  | full (j es) : evA env x = .ow j → H j = some (.full T sz es) → SrcK env H T sz x es [(j, .full T sz es)]
theorem slice_val {M : Nat → Prop} {w : World} {sz : Nat} {es : List (List RV)} {u : Value} (hr : RV.rep M w (.sl sz es) u) :
    ∃ A c news, u = .slice A es.length c ∧ news.length = es.length * sz ∧ (es.length ≠ 0 → ∃ ad, A = some ad ∧ ∀ j v, news[j]? = some v → w.cell? (ad.add j) = some v) ∧ RVs M w es.flatten news ∧ (∀ e ∈ es, e.length = sz) := by
  rw [RV.rep] at hr
  obtain ⟨A, c, rfl, _, _, h4, h5⟩ := hr
  by_cases he : es = []
  · subst he; exact ⟨A, c, [], rfl, by simp, fun h => absurd rfl h, .nil, by simp⟩
  · obtain ⟨ad, rfl, _, _, h6⟩ := h5 he
    rw [RV.rows_flat, RV.row_vals] at h6
    obtain ⟨news, h7, h8⟩ := h6
    exact ⟨_, c, news, rfl, by rw [← h7.len, flatten_len sz es h4], fun _ => ⟨ad, rfl, fun j v hj => by have := h8 j v hj; rwa [Nat.zero_add] at this⟩, h7, h4⟩
theorem SrcK.val {env : Nat → AV} {HF : Nat → Option Blk} {T sz : Nat} {x : Operand} {es : List (List RV)} {rd : List (Nat × Blk)} (h : SrcK env HF T sz x es rd) {Z : Nat → Value} {M : Nat → Prop} {w : World} {u : Value} (hr : (evA env x).rep Z M w u) (hh : ∀ i b, (i, b) ∈ rd → held Z M w i b) :
    ∃ A c news, u = .slice A es.length c ∧ news.length = es.length * sz ∧ (es.length ≠ 0 → ∃ ad, A = some ad ∧ ∀ j v, news[j]? = some v → w.cell? (ad.add j) = some v) ∧ RVs M w es.flatten news ∧ (∀ e ∈ es, e.length = sz) := by
  have key : ∀ (es : List (List RV)) (n m c : Nat) (g : Nat) (us : List Value), w.ownsRow 0 T sz (.slice (some ⟨g, 0, none⟩) es.length c) es.length us → m ≤ es.length → RVs M w es.flatten us → (∀ e ∈ es, e.length = sz) →
      ∃ A c' news, (Value.slice (some ⟨g, 0, none⟩) m c) = .slice A (es.take m).length c' ∧ news.length = (es.take m).length * sz ∧ ((es.take m).length ≠ 0 → ∃ ad, A = some ad ∧ ∀ j v, news[j]? = some v → w.cell? (ad.add j) = some v) ∧ RVs M w (es.take m).flatten news ∧ (∀ e ∈ es.take m, e.length = sz) := by
    intro es n m c g us h1 hm h2 h3
    refine ⟨_, _, us.take (m * sz), by rw [List.length_take, Nat.min_eq_left hm], ?_, fun _ => ⟨_, rfl, fun k v hk => ?_⟩, ?_, fun e he => h3 e (List.mem_of_mem_take he)⟩
    · rw [List.length_take, List.length_take, h1.1, Nat.min_eq_left hm, Nat.min_eq_left (Nat.mul_le_mul_right _ hm)]
    · rcases h1.2 with ⟨e, _⟩ | ⟨g', cap, cur, e, _, hg, h6, _, _, h7⟩
      · cases e
      · have hg' : g = g' := by injection e with e1; injection e1 with e1; injection e1 with e1
        subst hg'
        rw [add_mid, Nat.zero_add, cell_of_row w g k cur T (0, 0) hg]
        rw [← h7, List.take_take, List.getElem?_take] at hk
        split at hk
        · simpa using hk
        · cases hk
    · rw [(flatten_drop_take sz es h3 m).2]
      exact h2.take _
  cases h with
  | src _ _ h => exact h.val hr hh
  | ok j es n c hx hj =>
    rw [hx, AV.rep] at hr
    subst hr
    obtain ⟨g, us, e, h1, h2, h3, h4⟩ := hh j (.rowk T sz es n c) (by simp)
    rw [e]
    exact key es n n c g us h1 h2 h3 h4
  | ol j m es n c hx hj hm =>
    rw [hx, AV.rep] at hr
    obtain ⟨g', m', c', e', rfl⟩ := hr
    obtain ⟨g, us, e, h1, h2, h3, h4⟩ := hh j (.rowk T sz es n c) (by simp)
    rw [e] at e'
    injection e' with e1 e2 e3
    injection e1 with e1
    injection e1 with e1
    subst e1 e3
    exact key es n m c g us h1 hm h3 h4
  | full j es hx hj =>
    rw [hx, AV.rep] at hr
    subst hr
    obtain ⟨q, us, fr, h1, h2, h3, h4, h5⟩ := hh j (.full T sz es) (by simp)
    refine ⟨_, _, us.toList, h1, by rw [← h4.len, flatten_len sz es h5], fun _ => ⟨_, rfl, fun k v hk => ?_⟩, h4, h5⟩
    rw [add_mid, Nat.zero_add, cell_of_row w q k us T fr h2]
    simpa using hk
theorem SrcK.rdH {env : Nat → AV} {HF : Nat → Option Blk} {T sz : Nat} {x : Operand} {es : List (List RV)} {rd : List (Nat × Blk)} (h : SrcK env HF T sz x es rd) : ∀ i b, (i, b) ∈ rd → HF i = some b := by
  cases h with
  | src _ _ h => exact h.rdH
  | ok j es n c hx hj => intro i b h; have := mem_one h; injection this with e1 e2; subst e1 e2; exact hj
  | ol j m es n c hx hj hm => intro i b h; have := mem_one h; injection this with e1 e2; subst e1 e2; exact hj
  | full j es hx hj => intro i b h; have := mem_one h; injection this with e1 e2; subst e1 e2; exact hj

section
variable {P : Program} {L : Ln} {N : Nat} {ops : Array Oper} {chk : List (Nat × Sp) → Bool} {Q : St → Prop} {l : List Oper} {E : List (Nat × AV)} {H : List (Nat × Option Blk)} {n : Nat} {tr : List (Nat × Sp)}
variable {d : Nat} {ty : TypeId} {pos : String} {af : Array Edge} {g : Option (Nat × Bool)} {t : TypeId} {x y : Operand}

/-- An append within the room: the row grows behind the slice, which stays what it is. -/
theorem w_appendI {e sz b i m cap : Nat} [hT : SlT P t e sz b] {es es' : List (List RV)} {rd : List (Nat × Blk)} (hx : evA (get E) x = .ow i) (hi : getH H i = some (.rowk e sz es m cap)) (hs : SrcK (get E) (getH H) e sz y es' rd) (hne : (rd.all fun p => !Nat.beq p.1 i) = true) (hm : m = es.length) (hroom : m + es'.length ≤ cap)
    (hd : Nat.blt d N = true) (hg : Wanted ops (get E) ⟨some d, .call { callee := .builtin .append, args := #[x, y], argTypes := #[t, t] }, ty, pos, af, g⟩ true)
    (h : wpA P L N ops chk Q l ⟨(d, .ol i (m + es'.length)) :: E, (i, some (.rowk e sz (es ++ es') m cap)) :: H, n⟩ ((n, ⟨true, (i, .rowk e sz es m cap) :: rd, .ol i (m + es'.length), [(i, some (.rowk e sz (es ++ es') m cap))], []⟩) :: tr)) :
    wpA P L N ops chk Q (⟨some d, .call { callee := .builtin .append, args := #[x, y], argTypes := #[t, t] }, ty, pos, af, g⟩ :: l) ⟨E, H, n⟩ tr := by
  refine ⟨⟨true, (i, .rowk e sz es m cap) :: rd, .ol i (m + es'.length), [(i, some (.rowk e sz (es ++ es') m cap))], []⟩, ⟨fun x hx => ?_, hg, fun _ a w Z M hM hr hh hdist => ?_, (fun h => by cases h), fun D hD hDH hf => ?_⟩, h⟩
  · injection hx with hx; subst hx; exact blt_t.1 hd
  · have hxr : (evA (get E) x).rep Z M w (a.eval x) := hr x (by simp [Op.operands, Call.operands])
    have hyr : (evA (get E) y).rep Z M w (a.eval y) := hr y (by simp [Op.operands, Call.operands])
    rw [hx, AV.rep] at hxr
    obtain ⟨⟨q, us, hz, h1, hmn, h2, h3⟩, hMi⟩ := hh i (.rowk e sz es m cap) (by simp)
    obtain ⟨A, c, news, h4, h5, h6, h7, h8⟩ := hs.val hyr (fun j b hj => (hh j b (List.mem_cons_of_mem _ hj)).1)
    obtain ⟨ti, z, t1, t2, t3, t4, t5⟩ := SlT.inf (P := P) (t := t) (e := e) (sz := sz) (b := b)
    have tu := SlT.und (P := P) (t := t) (e := e) (sz := sz) (b := b)
    subst hm
    have hcur : ∃ cur : Array Value, w.heap[q]? = some (.cells cur e (0, 0)) ∧ es.length ≤ cap ∧ cap ≤ maxLen ∧ cur.size = cap * sz ∧ cur.toList.take (es.length * sz) = us := by
      rcases h1.2 with ⟨e', _⟩ | ⟨q', cap', cur, e', _, k1, k2, k3, k4, k5⟩
      · cases e'
      · injection e' with e1 e2 e3
        injection e1 with e1
        injection e1 with e1
        subst e1 e3
        exact ⟨cur, k1, k2, k3, k4, k5⟩
    obtain ⟨cur, k1, k2, k3, k4, k5⟩ := hcur
    have hblk : blk (Z i) = some q := by rw [hz]; rfl
    have hrun : ∃ w' : World, (Builtin.append_ #[t, t] ty #[.slice (some ⟨q, 0, none⟩) es.length cap, .slice A es'.length c]).run P w = .ok (.slice (some ⟨q, 0, none⟩) (es.length + es'.length) cap) w' ∧ Upto (fun k => k = q) w w' ∧
        w'.ownsRow 0 e sz (.slice (some ⟨q, 0, none⟩) (es.length + es'.length) cap) (es.length + es'.length) (us ++ news) := by
      have hlen : (us ++ news).length = (es.length + es'.length) * sz := by rw [List.length_append, h1.1, h5, Nat.add_mul]
      by_cases h0 : es'.length = 0
      · have hn0 : news = [] := List.eq_nil_of_length_eq_zero (by rw [h5, h0, Nat.zero_mul])
        subst hn0
        rw [h0, Nat.add_zero, List.append_nil]
        refine ⟨w, ?_, Upto.refl _, h1⟩
        cases A <;> simp [Builtin.append_, run_underlying tu, sizeOf, typeInfo, t1, Builtin.lenOf, Builtin.firstCells, k2, storeCells, loadCells, loadCellsFrom]
      · obtain ⟨ad, rfl, hc⟩ := h6 h0
        have hfit : es.length * ti.size + news.length ≤ cur.size := by rw [h5, k4, t3, ← Nat.add_mul]; exact Nat.mul_le_mul_right _ hroom
        have hr := run_append_room (P := P) w t ty e ti tu t1 q es.length cap cur k1 ad es'.length c news (by rw [t3]; exact h5) hc h7.one hroom hfit
        refine ⟨_, hr, ⟨rfl, rfl, rfl, by simp, fun k _ hk => setRow_other w q k _ (fun e => hk e)⟩, hlen, .inr ⟨q, cap, _, rfl, Nat.zero_le _, setRow_heap w q cur _ e _ k1, hroom, k3, ?_, ?_⟩⟩
        · simp only [List.size_toArray, List.length_append, List.length_take, List.length_drop, Array.length_toList]
          omega
        · rw [t3, k5, ← hlen]
          exact List.take_left
    obtain ⟨w', h9, hU, h10⟩ := hrun
    have hex : (execOp a.eval ⟨some d, .call { callee := .builtin .append, args := #[x, y], argTypes := #[t, t] }, ty, pos, af, g⟩).run P w = .ok (.value (.slice (some ⟨q, 0, none⟩) (es.length + es'.length) cap)) w' := by
      simp only [execOp, resolve, invoke, builtin, Sem.run_bind, Sem.run_pure, Result.andThen_ok, List.map_toArray, List.map_cons, List.map_nil, hxr, hz, h4, h9]
    have hU' : Upto M w w' := hU.mono fun k _ hk => by subst hk; exact hMi _ hblk
    refine exec_value hex ⟨Z, fun _ _ => rfl, by rw [AV.rep]; exact ⟨q, _, _, hz, rfl⟩, fun j c hj => ?_, fun j b h => by simp at h, fun j j' x h => by simp at h, fun j x h => by simp at h, hU.mono fun k _ hk => by subst hk; exact ⟨i, some (.rowk e sz (es ++ es') es.length cap), by simp, hblk⟩⟩
    have := mem_one hj
    injection this with e1 e2
    injection e2 with e2
    subst e1 e2
    refine ⟨q, us ++ news, hz, by rw [List.length_append]; exact h10, by rw [List.length_append]; omega, ?_, fun e he => ?_⟩
    · rw [List.flatten_append]
      exact (h2.mono hU' fun k _ hk => new_nil rfl hk).append (h7.mono hU' fun k _ hk => new_nil rfl hk)
    · rcases List.mem_append.1 he with he | he
      · exact h3 e he
      · exact h8 e he
  · refine ⟨fun j b hj => ?_, fun j o ho => ?_, fun j o ho => ?_, fun j ho => ?_, hf, fun j hj => .inl ?_, fun b hb j hj => by simp at hb, fun j b hb j' hj' => ?_⟩
    · rcases List.mem_cons.1 hj with e1 | e1
      · injection e1 with e1 e2; subst e1 e2; exact hi
      · exact hs.rdH j b e1
    · have := mem_one ho
      injection this with e1 e2
      subst e1
      exact ⟨.rowk e sz es m cap, by simp⟩
    · have := mem_one ho
      injection this with e1 e2
      subst e1 e2
      simp [List.lookup_cons]
    · have := mem_one ho; cases this
    · have : j = i := by simpa [AV.ids] using hj
      subst this
      exact (hDH _ _ hi).1
    · have := mem_one hb
      injection this with e1 e2
      injection e2 with e2
      subst e2
      simp [Blk.ids] at hj'
/-- An append beyond the room: a new row. -/
theorem w_appendG {e sz b i m cap : Nat} [hT : SlT P t e sz b] {es es' : List (List RV)} {rd : List (Nat × Blk)} (hx : evA (get E) x = .ow i) (hi : getH H i = some (.rowk e sz es m cap)) (hs : SrcK (get E) (getH H) e sz y es' rd) (hroom : cap < m + es'.length)
    (hlen : (m + es'.length) * b ≤ 211106232532992 ∧ m + es'.length ≤ 211106232532992)
    (hd : Nat.blt d N = true) (hg : Wanted ops (get E) ⟨some d, .call { callee := .builtin .append, args := #[x, y], argTypes := #[t, t] }, ty, pos, af, g⟩ true)
    (h : wpA P L N ops chk Q l ⟨(d, .ow n) :: E, (n, some (.row e sz (es.take m ++ es'))) :: H, n + 1⟩ ((n, ⟨true, (i, .rowk e sz es m cap) :: rd, .ow n, [], [.row e sz (es.take m ++ es')]⟩) :: tr)) :
    wpA P L N ops chk Q (⟨some d, .call { callee := .builtin .append, args := #[x, y], argTypes := #[t, t] }, ty, pos, af, g⟩ :: l) ⟨E, H, n⟩ tr := by
  refine w_make hd hg (out := .ow n) (b := .row e sz (es.take m ++ es')) (rd := (i, .rowk e sz es m cap) :: rd) ⟨fun j c hj => ?_, rfl, fun i hi => by simp [Blk.ids] at hi, fun a w Z M hM hr hh => ?_⟩ rfl h
  · rcases List.mem_cons.1 hj with e1 | e1
    · injection e1 with e1 e2; subst e1 e2; exact hi
    · exact hs.rdH j c e1
  have hxr : (evA (get E) x).rep Z M w (a.eval x) := hr x (by simp [Op.operands, Call.operands])
  rw [hx, AV.rep] at hxr
  obtain ⟨q, us, f1, g1, f3, f4, f5⟩ := hh i (.rowk e sz es m cap) (by simp)
  obtain ⟨A, c, news, h4, h5, h6, h7, h8⟩ := hs.val (hr y (by simp [Op.operands, Call.operands])) (fun j c hj => hh j c (List.mem_cons_of_mem _ hj))
  obtain ⟨ti, z, t1, t2, t3, t4, t5⟩ := SlT.inf (P := P) (t := t) (e := e) (sz := sz) (b := b)
  have tu := SlT.und (P := P) (t := t) (e := e) (sz := sz) (b := b)
  have tp := SlT.pos (P := P) (t := t) (e := e) (sz := sz) (b := b)
  have hcur : ∃ cur : Array Value, w.heap[q]? = some (.cells cur e (0, 0)) ∧ es.length ≤ cap ∧ cur.toList.take (es.length * sz) = us := by
    rcases g1.2 with ⟨e', _⟩ | ⟨q', cap', cur, e', _, k1, k2, k3, k4, k5⟩
    · cases e'
    · injection e' with e1 e2 e3
      injection e1 with e1
      injection e1 with e1
      subst e1 e3
      exact ⟨cur, k1, k2, k5⟩
  obtain ⟨cur, k1, k2, k5⟩ := hcur
  obtain ⟨ad, rfl, hc⟩ := h6 (by omega)
  have hul : (us.take (m * sz)).length = m * sz := by rw [List.length_take, g1.1]; exact Nat.min_eq_left (Nat.mul_le_mul_right _ f3)
  obtain ⟨v', w', h9, h10, h11⟩ := run_append_arg_wide (P := P) w t ty e ti z sz b tu t1 t2 t3 t4 t5 tp ⟨q, 0, none⟩ m cap (us.take (m * sz)) hul (fun j u hj => by
    rw [add_mid, Nat.zero_add, cell_of_row w q j cur e (0, 0) k1]
    rw [← k5, List.take_take, List.getElem?_take] at hj
    split at hj
    · simpa using hj
    · cases hj) ad es'.length c news h5 hc hroom (by unfold maxLen; omega) (wide_bound hlen.1 (SlT.small (P := P) (t := t) (e := e) (sz := sz)))
  obtain ⟨b3, A2, c2, b4⟩ := own_blk (show w'.ownsRow 0 e sz v' (m + es'.length) (us.take (m * sz) ++ news) from ⟨h10.1, h10.2.imp id fun ⟨g, cap, cur, e1, _, r⟩ => ⟨g, cap, cur, e1, Nat.zero_le _, r⟩⟩)
  have hb : Below w.heap.size w w' := ⟨h11.os, h11.tape, h11.output, h11.size, fun q hq => h11.block q hq (fun e => by cases e)⟩
  have hnew : ∀ q, blk v' = some q → w.heap.size ≤ q := fun q hq => by
    rcases h10.2 with ⟨e1, _⟩ | ⟨g, cap, cur, e1, hge, _⟩
    · rw [e1] at hq; cases hq
    · rw [e1] at hq; simp [blk] at hq; omega
  have hB : ∀ q, q < w.heap.size → (M q ∨ blk v' = some q) → M q := fun q hq h => by
    rcases h with h | h
    · exact h
    · have := hnew q h; omega
  have hfl := (flatten_drop_take sz es f5 m).2
  refine ⟨v', v', w', ?_, hb, hnew, fun Z' hz' hzo => ⟨by rw [AV.rep, hz'], fun _ => ⟨us.take (m * sz) ++ news, ?_, ?_, fun e he => ?_⟩⟩⟩
  · simp only [execOp, resolve, invoke, builtin, Sem.run_bind, Sem.run_pure, Result.andThen_ok, List.map_toArray, List.map_cons, List.map_nil, hxr, f1, h4, h9]
  · rw [hz', List.length_append, List.length_take, Nat.min_eq_left f3]
    exact ⟨h10.1, h10.2.imp id fun ⟨g, cap, cur, e1, _, r⟩ => ⟨g, cap, cur, e1, Nat.zero_le _, r⟩⟩
  · rw [List.flatten_append, hfl]
    exact ((f4.take _).mono (Upto.of_below hb) hB).append (h7.mono (Upto.of_below hb) hB)
  · rcases List.mem_append.1 he with he | he
    · exact f5 e (List.mem_of_mem_take he)
    · exact h8 e he
end
section
variable {H : Nat → Option Blk} {ρ : Nat → Nat} {G : List Nat} {env : Nat → AV} {x : Operand} {as ds : List AV}
theorem cl_fzk {j T sz n c : Nat} {es es' : List (List RV)} (hx : evA env x = .ow j) (hj : H j = some (.rowk T sz es n c)) (h : CfL H ρ G as ds) (e : es.take n = es') (hg : j ∈ G) : CfL H ρ G (evA env x :: as) (.r (.sl sz es') :: ds) := by subst e; rw [hx]; exact .cons _ _ _ _ (.fzk _ _ _ _ _ _ hj hg) h
theorem cl_fzl {j T sz n c m : Nat} {es es' : List (List RV)} (hx : evA env x = .ol j m) (hj : H j = some (.rowk T sz es n c)) (h : CfL H ρ G as ds) (e : es.take m = es') (hg : j ∈ G) (hm : m ≤ es.length) : CfL H ρ G (evA env x :: as) (.r (.sl sz es') :: ds) := by subst e; rw [hx]; exact .cons _ _ _ _ (.fzl _ _ _ _ _ _ _ hj hg hm) h
theorem cl_fzo {j T sz m : Nat} {es es' : List (List RV)} (hx : evA env x = .ol j m) (hj : H j = some (.row T sz es)) (h : CfL H ρ G as ds) (e : es.take m = es') (hg : j ∈ G) (hm : m ≤ es.length) : CfL H ρ G (evA env x :: as) (.r (.sl sz es') :: ds) := by subst e; rw [hx]; exact .cons _ _ _ _ (.fzo _ _ _ _ _ hj hg hm) h
theorem cl_fzr {j T sz : Nat} {es es' : List (List RV)} (hx : evA env x = .ow j) (hj : H j = some (.row T sz es)) (h : CfL H ρ G as ds) (e : es = es') (hg : j ∈ G) : CfL H ρ G (evA env x :: as) (.r (.sl sz es') :: ds) := cl_fz h e hg hj hx
theorem cl_fzg {j T sz : Nat} {es es' : List (List RV)} (hx : evA env x = .ow j) (hj : H j = some (.full T sz es)) (h : CfL H ρ G as ds) (e : es = es') (hg : j ∈ G) : CfL H ρ G (evA env x :: as) (.r (.sl sz es') :: ds) := cl_fzf h e hg hj hx
end
section
variable {P : Program} {env : Nat → AV} {H : Nat → Option Blk} {d : Option Tmp} {ty : TypeId} {pos : String} {af : Array Edge} {g : Option (Nat × Bool)} {t : TypeId} {x : Operand} {cs : List RV} {c : RV}
theorem p_load1o [OnT P t] (hx : evA env x = .rp (c :: cs)) : ReadOk P ⟨d, .load t x, ty, pos, af, g⟩ env H [] (.r c) := by
  obtain ⟨D, h1, h2⟩ := OnT.und (P := P) (t := t)
  exact p_load1 hx (by rw [h1, Option.map_some, h2])
theorem p_loadNa {n : Nat} [AgT P t n] (hx : evA env x = .rp cs) (hl : cs.length = n) : ReadOk P ⟨d, .load t x, ty, pos, af, g⟩ env H [] (.ag (cs.map .r)) := by
  obtain ⟨D, h1, h2⟩ := AgT.und (P := P) (t := t) (n := n)
  exact p_loadN hx (by rw [h1, Option.map_some, h2]) (by rw [AgT.size, hl])
end
theorem hl_rowk {S : St} {ρ : Nat → Nat} {G : List Nat} {lh : List (Nat × Option Blk)} {i T sz n c : Nat} {es es' : List (List RV)} (h : hLe S ρ G lh) (e : es = es') (hx : getH S.H (ρ i) = some (.rowk T sz es n c)) : hLe S ρ G ((i, some (.rowk T sz es' n c)) :: lh) := by
  subst e; exact ⟨⟨_, hx, .rowk _ _ _ _ _⟩, h⟩
end Go.Ab

/- The second layer: own slices: their length, cuts, elements read and stored; slices of own slices. No conditions. -/
namespace Go.Ab
open Go.RowKit
set_option linter.unusedVariables false
set_option linter.unusedSimpArgs false

/-- What an own slice (grown row) is in memory. -/
theorem held_row {Z : Nat → Value} {M : Nat → Prop} {w : World} {i T sz : Nat} {es : List (List RV)} (h : held Z M w i (.row T sz es)) (hne : es ≠ []) :
    ∃ g cap cur us, Z i = .slice (some ⟨g, 0, none⟩) es.length cap ∧ w.heap[g]? = some (.cells cur T (0, 0)) ∧ es.length ≤ cap ∧ cap ≤ maxLen ∧ cur.size = cap * sz ∧ cur.toList.take (es.length * sz) = us ∧ us.length = es.length * sz ∧ RVs M w es.flatten us ∧ ∀ e ∈ es, e.length = sz := by
  obtain ⟨us, h1, h2, h3⟩ := h
  rcases h1.2 with ⟨e, h0⟩ | ⟨g, cap, cur, e, _, hg, k1, k2, k3, k4⟩
  · exact absurd (List.eq_nil_of_length_eq_zero h0) hne
  · exact ⟨g, cap, cur, us, e, hg, k1, k2, k3, k4, h1.1, h2, h3⟩
theorem held_len {Z : Nat → Value} {M : Nat → Prop} {w : World} {i T sz : Nat} {es : List (List RV)} (h : held Z M w i (.row T sz es)) : ∃ A c, Z i = .slice A es.length c := by
  obtain ⟨us, h1, h2, h3⟩ := h
  rcases h1.2 with ⟨e, h0⟩ | ⟨g, cap, cur, e, _, hg, k1, k2, k3, k4⟩
  · exact ⟨none, 0, by rw [e, h0]⟩
  · exact ⟨_, _, e⟩
theorem get_lt {α : Type} {es : List α} {j : Nat} {e : α} (he : es[j]? = some e) : j < es.length := by
  rcases Nat.lt_or_ge j es.length with h' | h'
  · exact h'
  · rw [List.getElem?_eq_none h'] at he; cases he
theorem flat_get {α : Type} {sz : Nat} : ∀ {es : List (List α)} (_ : ∀ e ∈ es, e.length = sz) {k f : Nat} {e : List α} {c : α}, es[k]? = some e → e[f]? = some c → es.flatten[k * sz + f]? = some c
  | [], _, k, f, e, c, h, _ => by simp at h
  | x :: es, hs, 0, f, e, c, h, hc => by
    simp at h; subst h
    rw [List.flatten_cons, Nat.zero_mul, Nat.zero_add, List.getElem?_append_left (get_lt hc)]; exact hc
  | x :: es, hs, k + 1, f, e, c, h, hc => by
    have hx := hs x (by simp)
    rw [List.flatten_cons, List.getElem?_append_right (by rw [hx, Nat.add_mul]; omega), hx, show (k + 1) * sz + f - sz = k * sz + f by rw [Nat.add_mul]; omega]
    exact flat_get (fun e he => hs e (by simp [he])) (by simpa using h) hc
theorem flat_set {α : Type} {sz : Nat} : ∀ {es : List (List α)} (_ : ∀ e ∈ es, e.length = sz) {k f : Nat} {e ds : List α}, es[k]? = some e → f + ds.length ≤ sz → (es.set k (setA e f ds)).flatten = setA es.flatten (k * sz + f) ds
  | [], _, k, f, e, ds, h, _ => by simp at h
  | x :: es, hs, 0, f, e, ds, h, hl => by
    simp at h; subst h
    have hx := hs x (by simp)
    rw [List.set_cons_zero, List.flatten_cons, List.flatten_cons, Nat.zero_mul, Nat.zero_add]
    unfold setA
    rw [List.take_append_of_le_length (by omega), List.drop_append_of_le_length (by omega)]
    simp
  | x :: es, hs, k + 1, f, e, ds, h, hl => by
    have hx := hs x (by simp)
    rw [List.set_cons_succ, List.flatten_cons, List.flatten_cons, flat_set (fun e he => hs e (by simp [he])) (by simpa using h) hl]
    have e1 : (k + 1) * sz + f = x.length + (k * sz + f) := by rw [hx, Nat.add_mul]; omega
    unfold setA
    rw [e1, List.take_append, List.take_of_length_le (l := x) (by omega), show x.length + (k * sz + f) - x.length = k * sz + f by omega, List.drop_append, List.drop_eq_nil_of_le (as := x) (by omega), show x.length + (k * sz + f) + ds.length - x.length = k * sz + f + ds.length by omega]
    simp
theorem RVs.drop {B : Nat → Prop} {w : World} {cs : List RV} {us : List Value} (h : RVs B w cs us) : ∀ k, RVs B w (cs.drop k) (us.drop k) := by
  induction h with
  | nil => intro k; simpa using RVs.nil
  | cons h1 h2 h3 ih =>
    intro k
    cases k with
    | zero => exact .cons h1 h2 h3
    | succ k => exact ih k
theorem RVs.setA {B : Nat → Prop} {w : World} {cs ds : List RV} {us vs : List Value} (h : RVs B w cs us) (k : RVs B w ds vs) (o : Nat) : RVs B w (Go.Ab.setA cs o ds) (Go.Ab.setA us o vs) := by
  unfold Go.Ab.setA
  rw [k.len]
  exact ((h.take o).append k).append (h.drop _)
theorem setA_take {α : Type} (l : List α) (o n : Nat) (ds : List α) (h : o + ds.length ≤ n) (hn : n ≤ l.length) : (setA l o ds).take n = setA (l.take n) o ds := by
  unfold setA
  rw [List.take_append, List.take_of_length_le (l := l.take o ++ ds) (by simp; omega), List.take_take, Nat.min_eq_left (by omega), List.drop_take]
  congr 2
  simp
  omega

section
variable {P : Program} {env : Nat → AV} {H : Nat → Option Blk} {d : Option Tmp} {ty : TypeId} {pos : String} {af : Array Edge} {g : Option (Nat × Bool)}
variable {t : TypeId} {x y : Operand} {sz : Nat} {es : List (List RV)}
theorem mem1 {i j : Nat} {b c : Blk} (h : (i, b) ∈ [(j, c)]) : i = j ∧ b = c := by simpa using h
theorem p_len_row {i T : Nat} (hx : evA env x = .ow i) (hH : H i = some (.row T sz es)) (ht : P.underlying t = some (.slice (P.elem t))) : ReadOk P ⟨d, .call { callee := .builtin .len, args := #[x], argTypes := #[t] }, ty, pos, af, g⟩ env H [(i, .row T sz es)] (.r (.v (.int .i64 es.length))) := by
  refine ⟨fun i b h => by obtain ⟨rfl, rfl⟩ := mem1 h; exact hH, fun i hi => by simp [AV.ids] at hi, fun a w Z M hr hh => ?_⟩
  have h1 := hr x (by simp [Op.operands, Call.operands])
  rw [hx, AV.rep] at h1
  obtain ⟨A, c, h2⟩ := held_len (hh i _ List.mem_cons_self)
  refine ⟨.int .i64 es.length, ?_, by rw [AV.rep, RV.rep]⟩
  have := run_len_slice (P := P) w t ty A es.length c ht
  simp [execOp, resolve, h1, h2, invoke, builtin, this, goInt]
theorem p_len_rowk {i T n c : Nat} (hx : evA env x = .ow i) (hH : H i = some (.rowk T sz es n c)) (ht : P.underlying t = some (.slice (P.elem t))) : ReadOk P ⟨d, .call { callee := .builtin .len, args := #[x], argTypes := #[t] }, ty, pos, af, g⟩ env H [(i, .rowk T sz es n c)] (.r (.v (.int .i64 n))) := by
  refine ⟨fun i b h => by obtain ⟨rfl, rfl⟩ := mem1 h; exact hH, fun i hi => by simp [AV.ids] at hi, fun a w Z M hr hh => ?_⟩
  have h1 := hr x (by simp [Op.operands, Call.operands])
  rw [hx, AV.rep] at h1
  obtain ⟨g, us, h2, _⟩ := hh i _ List.mem_cons_self
  refine ⟨.int .i64 n, ?_, by rw [AV.rep, RV.rep]⟩
  have := run_len_slice (P := P) w t ty (some ⟨g, 0, none⟩) n c ht
  simp [execOp, resolve, h1, h2, invoke, builtin, this, goInt]
theorem p_len_full {i T : Nat} (hx : evA env x = .ow i) (hH : H i = some (.full T sz es)) (ht : P.underlying t = some (.slice (P.elem t))) : ReadOk P ⟨d, .call { callee := .builtin .len, args := #[x], argTypes := #[t] }, ty, pos, af, g⟩ env H [(i, .full T sz es)] (.r (.v (.int .i64 es.length))) := by
  refine ⟨fun i b h => by obtain ⟨rfl, rfl⟩ := mem1 h; exact hH, fun i hi => by simp [AV.ids] at hi, fun a w Z M hr hh => ?_⟩
  have h1 := hr x (by simp [Op.operands, Call.operands])
  rw [hx, AV.rep] at h1
  obtain ⟨g, us, fr, h2, _⟩ := hh i _ List.mem_cons_self
  refine ⟨.int .i64 es.length, ?_, by rw [AV.rep, RV.rep]⟩
  have := run_len_slice (P := P) w t ty (some ⟨g, 0, none⟩) es.length es.length ht
  simp [execOp, resolve, h1, h2, invoke, builtin, this, goInt]
theorem p_len_ol {i n : Nat} (hx : evA env x = .ol i n) (ht : P.underlying t = some (.slice (P.elem t))) : ReadOk P ⟨d, .call { callee := .builtin .len, args := #[x], argTypes := #[t] }, ty, pos, af, g⟩ env H [] (.r (.v (.int .i64 n))) := by
  refine ⟨fun i b h => mem_nil h, fun i hi => by simp [AV.ids] at hi, fun a w Z M hr hh => ?_⟩
  have h1 := hr x (by simp [Op.operands, Call.operands])
  rw [hx, AV.rep] at h1
  obtain ⟨g, m, c, h2, h3⟩ := h1
  refine ⟨.int .i64 n, ?_, by rw [AV.rep, RV.rep]⟩
  have := run_len_slice (P := P) w t ty (some ⟨g, 0, none⟩) n c ht
  simp [execOp, resolve, h3, invoke, builtin, this, goInt]
theorem p_len_sv {i n : Nat} (hx : evA env x = .sv i n) (ht : P.underlying t = some (.slice (P.elem t))) : ReadOk P ⟨d, .call { callee := .builtin .len, args := #[x], argTypes := #[t] }, ty, pos, af, g⟩ env H [] (.r (.v (.int .i64 n))) := by
  refine ⟨fun i b h => mem_nil h, fun i hi => by simp [AV.ids] at hi, fun a w Z M hr hh => ?_⟩
  have h1 := hr x (by simp [Op.operands, Call.operands])
  rw [hx, AV.rep] at h1
  obtain ⟨b, h2, h3⟩ := h1
  refine ⟨.int .i64 n, ?_, by rw [AV.rep, RV.rep]⟩
  have := run_len_slice (P := P) w t ty (some ⟨b, 0, none⟩) n n ht
  simp [execOp, resolve, h3, invoke, builtin, this, goInt]
/-- x[:m] of an own slice. -/
theorem p_cuth_row {e b i T : Nat} [hT : SlT P t e sz b] {k : IntKind} {a : Int} {m : Nat} (hx : evA env x = .ow i) (hH : H i = some (.row T sz es)) (hy : evA env y = .r (.v (.int k a))) (ha : a = (m : Int)) (hm : m ≤ es.length) (hne : 0 < es.length) :
    ReadOk P ⟨d, .slice t x none (some y) none, ty, pos, af, g⟩ env H [(i, .row T sz es)] (.ol i m) := by
  subst ha
  refine ⟨fun i b h => by obtain ⟨rfl, rfl⟩ := mem1 h; exact hH, fun i hi => (ids_ev hx i (by simpa [AV.ids] using hi)).imp id fun ⟨_, _, h, _⟩ => mem_nil h, fun ac w Z M hr hh => ?_⟩
  have h1 := hr x (by simp [Op.operands])
  have h2 := ev_v hy (hr y (by simp [Op.operands]))
  rw [hx, AV.rep] at h1
  obtain ⟨g, cap, cur, us, e1, hg, k1, k2, _⟩ := held_row (hh i _ List.mem_cons_self) (by rintro rfl; simp at hne)
  have := run_cut (P := P) (t := t) (some ⟨g, 0, none⟩) es.length cap 0 m none (some (.int k (m : Int))) (.inl ⟨rfl, rfl⟩) (.inr ⟨k, rfl⟩) (Nat.zero_le _) hm k1 w
  have hz : (if cap = 0 then some (⟨g, 0, none⟩ : Addr) else (some ⟨g, 0, none⟩ : Option Addr).map (·.add (0 * sz))) = some ⟨g, 0, none⟩ := by
    split
    · rfl
    · simp [Addr.add]
  rw [hz, Nat.sub_zero, Nat.sub_zero] at this
  refine ⟨.slice (some ⟨g, 0, none⟩) m cap, ?_, by rw [AV.rep]; exact ⟨g, _, cap, e1, rfl⟩⟩
  simp only [execOp, h1, e1, Option.map_some, Option.map_none, h2, Sem.run_bind, this, Result.andThen_ok, Sem.run_pure]
/-- The address of an element of an own slice. -/
theorem p_index_row {e b i T : Nat} [hT : SlT P t e sz b] {k : IntKind} {a : Int} {j : Nat} {el : List RV} (hx : evA env x = .ow i) (hH : H i = some (.row T sz es)) (hy : evA env y = .r (.v (.int k a))) (ha : a = (j : Int)) (he : es[j]? = some el) :
    ReadOk P ⟨d, .indexAddr t x y, ty, pos, af, g⟩ env H [(i, .row T sz es)] (.pe i sz j 0) := by
  subst ha
  have hj := get_lt he
  refine ⟨fun i b h => by obtain ⟨rfl, rfl⟩ := mem1 h; exact hH, fun i hi => (ids_ev hx i (by simpa [AV.ids] using hi)).imp id fun ⟨_, _, h, _⟩ => mem_nil h, fun ac w Z M hr hh => ?_⟩
  have h1 := hr x (by simp [Op.operands])
  have h2 := ev_v hy (hr y (by simp [Op.operands]))
  rw [hx, AV.rep] at h1
  obtain ⟨g, cap, cur, us, e1, hg, k1, k2, _⟩ := held_row (hh i _ List.mem_cons_self) (by rintro rfl; simp at hj)
  obtain ⟨ti, z, t1, t2, t3, t4, t5⟩ := SlT.inf (P := P) (t := t) (e := e) (sz := sz) (b := b)
  have tu := SlT.und (P := P) (t := t) (e := e) (sz := sz) (b := b)
  have te : P.elem t = e := by simp [Program.elem, tu]
  have hs : (sizeOf (P.elem t)).run P w = .ok sz w := by rw [te]; simp [sizeOf, typeInfo, t1, t3]
  have := run_indexAt_slice (P := P) w t ⟨g, 0, none⟩ es.length cap k (j : Int) (by rw [te]; exact tu)
  rw [if_pos ⟨by omega, by omega⟩, hs] at this
  refine ⟨.pointer (some ⟨g, j * sz, none⟩), ?_, by rw [AV.rep]; exact ⟨g, by rw [e1]; rfl, by rw [Nat.add_zero]⟩⟩
  simp only [execOp, h2, h1, e1, Sem.run_bind, this, Result.andThen_ok, Int.toNat_natCast]
  simp [add_mid]
/-- The address of an element of a slice of own slices. -/
theorem p_index_sv {e b i n : Nat} [hT : SlT P t e 1 b] {k : IntKind} {a : Int} {j : Nat} (hx : evA env x = .sv i n) (hy : evA env y = .r (.v (.int k a))) (ha : a = (j : Int)) (hj : Nat.blt j n = true) :
    ReadOk P ⟨d, .indexAddr t x y, ty, pos, af, g⟩ env H [] (.pt i j) := by
  subst ha
  have hj := blt_t.1 hj
  refine ⟨fun i b h => mem_nil h, fun i hi => (ids_ev hx i (by simpa [AV.ids] using hi)).imp id fun ⟨_, _, h, _⟩ => mem_nil h, fun ac w Z M hr hh => ?_⟩
  have h1 := hr x (by simp [Op.operands])
  have h2 := ev_v hy (hr y (by simp [Op.operands]))
  rw [hx, AV.rep] at h1
  obtain ⟨g, e1, e2⟩ := h1
  obtain ⟨ti, z, t1, t2, t3, t4, t5⟩ := SlT.inf (P := P) (t := t) (e := e) (sz := 1) (b := b)
  have tu := SlT.und (P := P) (t := t) (e := e) (sz := 1) (b := b)
  have te : P.elem t = e := by simp [Program.elem, tu]
  have hs : (sizeOf (P.elem t)).run P w = .ok 1 w := by rw [te]; simp [sizeOf, typeInfo, t1, t3]
  have := run_indexAt_slice (P := P) w t ⟨g, 0, none⟩ n n k (j : Int) (by rw [te]; exact tu)
  rw [if_pos ⟨by omega, by omega⟩, hs] at this
  refine ⟨.pointer (some ⟨g, j, none⟩), ?_, by rw [AV.rep]; exact ⟨g, e1, rfl⟩⟩
  simp only [execOp, h2, e2, Sem.run_bind, this, Result.andThen_ok, Int.toNat_natCast]
  simp [add_mid]
/-- A cell of an element of an own slice is read. -/
theorem p_load_pe1 {i T k f : Nat} {e : List RV} {c : RV} [OnT P t] (hx : evA env x = .pe i sz k f) (hH : H i = some (.row T sz es)) (he : es[k]? = some e) (hc : e[f]? = some c) : ReadOk P ⟨d, .load t x, ty, pos, af, g⟩ env H [(i, .row T sz es)] (.r c) := by
  refine ⟨fun i b h => by obtain ⟨rfl, rfl⟩ := mem1 h; exact hH, fun i hi => by simp [AV.ids] at hi, fun a w Z M hr hh => ?_⟩
  have h1 := hr x (by simp [Op.operands])
  rw [hx, AV.rep] at h1
  have hj := get_lt he
  obtain ⟨g, cap, cur, us, e1, hg, k1, k2, k3, k4, k5, k6, k7⟩ := held_row (hh i _ List.mem_cons_self) (by rintro rfl; simp at hj)
  obtain ⟨b, e2, e3⟩ := h1
  have hb : b = g := by rw [e1] at e2; simpa [blk] using e2.symm
  subst hb
  obtain ⟨u, h7, h8, h9⟩ := k6.get (flat_get k7 he hc)
  obtain ⟨D, hu, hD⟩ := OnT.und (P := P) (t := t)
  refine ⟨u, ?_, by rw [AV.rep]; exact h9⟩
  have hcell : w.cell? ⟨b, k * sz + f, none⟩ = some u := by
    rw [cell_of_row w b _ cur T (0, 0) hg]
    rw [← k4, List.getElem?_take] at h7
    split at h7
    · simpa using h7
    · cases h7
  simp only [execOp, e3, Instr.loadAt, Instr.sureAddr, Sem.run_bind, Sem.run_pure, Result.andThen_ok, run_loadVar_one w _ t D u hu hD hcell]
/-- An element of an own slice (a struct) is read. -/
theorem p_load_peN {i T k : Nat} {e : List RV} [AgT P t sz] (hx : evA env x = .pe i sz k 0) (hH : H i = some (.row T sz es)) (he : es[k]? = some e) : ReadOk P ⟨d, .load t x, ty, pos, af, g⟩ env H [(i, .row T sz es)] (.ag (e.map .r)) := by
  refine ⟨fun i b h => by obtain ⟨rfl, rfl⟩ := mem1 h; exact hH, fun i hi => ?_, fun a w Z M hr hh => ?_⟩
  · rw [AV.ids, idss_mem_iff] at hi
    obtain ⟨c, hc, hci⟩ := hi
    obtain ⟨c', _, rfl⟩ := List.mem_map.1 hc
    simp [AV.ids] at hci
  have h1 := hr x (by simp [Op.operands])
  rw [hx, AV.rep] at h1
  have hj := get_lt he
  obtain ⟨g, cap, cur, us, e1, hg, k1, k2, k3, k4, k5, k6, k7⟩ := held_row (hh i _ List.mem_cons_self) (by rintro rfl; simp at hj)
  obtain ⟨b, e2, e3⟩ := h1
  have hb : b = g := by rw [e1] at e2; simpa [blk] using e2.symm
  subst hb
  obtain ⟨D, hu, hD⟩ := AgT.und (P := P) (t := t) (n := sz)
  have hel : e.length = sz := k7 e (List.mem_of_getElem? he)
  have hsub : (es.flatten.drop (k * sz)).take sz = e := by
    apply List.ext_getElem?
    intro f
    rw [List.getElem?_take]
    split
    · rename_i hf
      rw [List.getElem?_drop]
      have hc : e[f]? = some (e[f]'(by omega)) := List.getElem?_eq_getElem _
      rw [hc]
      exact flat_get k7 he hc
    · rw [List.getElem?_eq_none (by omega)]
  have hr2 := ((k6.drop (k * sz)).take sz)
  rw [hsub] at hr2
  refine ⟨.agg ((us.drop (k * sz)).take sz).toArray, ?_, by rw [AV.rep]; exact ⟨_, rfl, rvs_reps hr2⟩⟩
  have hl : (loadCells ⟨b, k * sz + 0, none⟩ sz).run P w = .ok ((us.drop (k * sz)).take sz).toArray w := by
    have := run_loadCells_list (P := P) w ⟨b, k * sz + 0, none⟩ ((us.drop (k * sz)).take sz) (fun q v hv => by
      rw [add_mid, cell_of_row w b _ cur T (0, 0) hg]
      rw [List.getElem?_take] at hv
      split at hv
      · rw [List.getElem?_drop, ← k4, List.getElem?_take] at hv
        split at hv
        · simpa using hv
        · cases hv
      · cases hv)
    rwa [show ((us.drop (k * sz)).take sz).length = sz by rw [← hr2.len, hel]] at this
  simp only [execOp, e3, Instr.loadAt, Instr.sureAddr, loadVar, Sem.run_bind, Sem.run_pure, Result.andThen_ok, run_agg hu hD, run_sizeOf AgT.size, if_true, hl]
end

section
variable {P : Program} {L : Ln} {N : Nat} {ops : Array Oper} {chk : List (Nat × Sp) → Bool} {Q : St → Prop} {l : List Oper} {E : List (Nat × AV)} {H : List (Nat × Option Blk)} {n : Nat} {tr : List (Nat × Sp)}
variable {d : Nat} {ty : TypeId} {pos : String} {af : Array Edge} {g : Option (Nat × Bool)} {t : TypeId} {x y : Operand}

/-- A store into an element of an own slice. -/
theorem w_store_pe {i T sz k f m : Nat} {es : List (List RV)} {e ds : List RV} (hx : evA (get E) x = .pe i sz k f) (hy : rvs (evA (get E) y) = some ds) (hok : ds.all rvOk = true) (hH : getH H i = some (.row T sz es)) (he : es[k]? = some e) (hs : (P.info? t).map (·.size) = some m) (hm : ds.length = m) (hf : Nat.ble (f + m) sz = true)
    (hg : Wanted ops (get E) ⟨none, .store t x y, ty, pos, af, g⟩ true)
    (h : wpA P L N ops chk Q l ⟨E, (i, some (.row T sz (es.set k (setA e f ds)))) :: H, n⟩ ((n, ⟨true, [(i, .row T sz es)], .r (.v undef), [(i, some (.row T sz (es.set k (setA e f ds))))], []⟩) :: tr)) :
    wpA P L N ops chk Q (⟨none, .store t x y, ty, pos, af, g⟩ :: l) ⟨E, H, n⟩ tr := by
  have hf := ble_t.1 hf
  have hkl := get_lt he
  refine ⟨⟨true, [(i, .row T sz es)], .r (.v undef), [(i, some (.row T sz (es.set k (setA e f ds))))], []⟩, ⟨(fun x hx => by cases hx), hg, fun _ ac w Z M hM hr hh hdist => ?_, (fun h => by cases h), fun D hD hDH hfr => ?_⟩, h⟩
  · have hxr : (evA (get E) x).rep Z M w (ac.eval x) := hr x (by simp [Op.operands])
    have hyr : (evA (get E) y).rep Z M w (ac.eval y) := hr y (by simp [Op.operands])
    rw [hx, AV.rep] at hxr
    obtain ⟨hheld, hMj⟩ := hh i (.row T sz es) (by simp)
    have hrv := rvs_rep hy hok hyr
    obtain ⟨q, cap, cur, us, e1, hq, k1, k2, k3, k4, k5, k6, k7⟩ := held_row hheld (by rintro rfl; simp at hkl)
    obtain ⟨b, e2, e3⟩ := hxr
    have hb : b = q := by rw [e1] at e2; simpa [blk] using e2.symm
    subst hb
    have hcl : (ac.eval y).cells.toList.length = ds.length := hrv.len.symm
    have hfit : k * sz + f + ds.length ≤ es.length * sz := by
      have : (k + 1) * sz ≤ es.length * sz := Nat.mul_le_mul_right _ hkl
      rw [Nat.add_mul] at this
      omega
    have hcapsz : es.length * sz ≤ cap * sz := Nat.mul_le_mul_right _ k1
    have hcs : cur.toList.length = cap * sz := by rw [Array.length_toList]; exact k3
    have hall : (ac.eval y).cells.toList.all (·.oneCell') = true := List.all_eq_true.2 hrv.one
    obtain ⟨w', us', h7, h8, h9, h10⟩ := run_stores (P := P) (b := b) (o := k * sz + f) (T := T) (ac.eval y).cells.toList 0 cur w hq (by rw [hcl]; omega) hall
    have hsz : (sizeOf t).run P w = .ok (ac.eval y).cells.size w := by rw [run_sizeOf hs]; congr 1; have : (ac.eval y).cells.size = (ac.eval y).cells.toList.length := by simp
                                                                       omega
    have hex : (execOp ac.eval ⟨none, .store t x y, ty, pos, af, g⟩).run P w = .ok .skip w' := by
      have : (storeVar t ⟨b, k * sz + f, none⟩ (ac.eval y)).run P w = .ok () w' := by
        simp only [storeVar, Sem.run_bind, hsz, Result.andThen_ok]
        simp [h7]
      simp only [execOp, e3, Instr.storeAt, Instr.sureAddr, Sem.run_bind, Sem.run_pure, Result.andThen_ok, this]
    have hU : Upto M w w' := h10.mono fun q _ hq => by subst hq; exact hMj _ e2
    have hNew : ∀ q, New n ⟨true, [(i, .row T sz es)], .r (.v undef), [(i, some (.row T sz (es.set k (setA e f ds))))], []⟩ Z M q → M q := fun q hq => new_nil rfl hq
    refine exec_skip hex ⟨Z, fun _ _ => rfl, by rw [AV.rep, RV.rep], fun i' c hi => ?_, fun j b h => by simp at h, fun j j' x h => by simp at h, fun j x h => by simp at h, ?_⟩
    · simp only [List.mem_cons, List.not_mem_nil, or_false, Prod.mk.injEq, Option.some.injEq] at hi
      obtain ⟨rfl, rfl⟩ := hi
      have hlen' : (setA us (k * sz + f) (ac.eval y).cells.toList).length = us.length := setA_len _ _ _ (by rw [hcl, k5]; exact hfit)
      refine ⟨setA us (k * sz + f) (ac.eval y).cells.toList, ⟨by rw [hlen', k5, List.length_set], .inr ⟨b, cap, us', by rw [e1, List.length_set], Nat.zero_le _, h8, by rw [List.length_set]; exact k1, k2, ?_, ?_⟩⟩, ?_, fun e' he' => ?_⟩
      · have : us'.size = us'.toList.length := by simp
        rw [this, h9, Nat.add_zero, setA_len _ _ _ (by rw [hcl, hcs]; omega), hcs]
      · rw [h9, Nat.add_zero, List.length_set, ← k4]
        exact setA_take _ _ _ _ (by rw [hcl]; exact hfit) (by rw [hcs]; exact hcapsz)
      · rw [flat_set k7 he (by omega)]
        exact (k6.mono hU fun q _ hq => hNew q hq).setA (hrv.mono hU fun q _ hq => hNew q hq) _
      · rcases List.mem_or_eq_of_mem_set he' with h | h
        · exact k7 e' h
        · subst h
          have hel := k7 e (List.mem_of_getElem? he)
          rw [setA_len _ _ _ (by omega)]; exact hel
    · refine h10.mono fun q _ hq => ?_
      subst hq
      exact ⟨i, some (.row T sz (es.set k (setA e f ds))), by simp, e2⟩
  · refine ⟨fun i' b hb => ?_, fun i' o' ho => ?_, fun i' o' ho => ?_, fun i' ho => ?_, hfr, fun i' hi => by simp [AV.ids] at hi, fun b h => by simp at h, fun i' b hb i'' hi' => ?_⟩
    · simp only [List.mem_cons, List.not_mem_nil, or_false, Prod.mk.injEq] at hb
      obtain ⟨rfl, rfl⟩ := hb
      exact hH
    · simp only [List.mem_cons, List.not_mem_nil, or_false, Prod.mk.injEq] at ho
      obtain ⟨rfl, rfl⟩ := ho
      exact ⟨.row T sz es, by simp⟩
    · simp only [List.mem_cons, List.not_mem_nil, or_false, Prod.mk.injEq] at ho
      obtain ⟨rfl, rfl⟩ := ho
      exact by simp [List.lookup_cons]
    · simp at ho
    · simp only [List.mem_cons, List.not_mem_nil, or_false, Prod.mk.injEq, Option.some.injEq] at hb
      obtain ⟨rfl, rfl⟩ := hb
      simp [Blk.ids] at hi'
/-- The same for elements of one cell. -/
theorem w_store_p1 {i T k : Nat} {es : List (List RV)} {e : List RV} {c : RV} (hx : evA (get E) x = .pe i 1 k 0) (hy : evA (get E) y = .r c) (hok : rvOk c = true) (hH : getH H i = some (.row T 1 es)) (he : es[k]? = some e) (hs : (P.info? t).map (·.size) = some 1) (hl : e.length = 1)
    (hg : Wanted ops (get E) ⟨none, .store t x y, ty, pos, af, g⟩ true)
    (h : wpA P L N ops chk Q l ⟨E, (i, some (.row T 1 (es.set k [c]))) :: H, n⟩ ((n, ⟨true, [(i, .row T 1 es)], .r (.v undef), [(i, some (.row T 1 (es.set k [c])))], []⟩) :: tr)) :
    wpA P L N ops chk Q (⟨none, .store t x y, ty, pos, af, g⟩ :: l) ⟨E, H, n⟩ tr := by
  refine w_store_pe (ds := [c]) (f := 0) hx (by rw [hy]; rfl) (by simp [hok]) hH he hs rfl rfl hg ?_
  have : setA e 0 [c] = [c] := by
    cases e with
    | nil => cases hl
    | cons a e => cases e with | nil => rfl | cons b e => simp at hl
  rw [this]
  exact h
end

/-! ## A literal of own slices -/
theorem own_one {Z : Nat → Value} {M : Nat → Prop} {w : World} {i : Nat} {b : Blk} (h : held Z M w i b) : (Z i).oneCell' = true ∧ (Z i).cells = #[Z i] := by
  cases b with
  | row T sz es => obtain ⟨A, c, e⟩ := held_len h; rw [e]; exact ⟨rfl, rfl⟩
  | full T sz es => obtain ⟨g, us, fr, e, _⟩ := h; rw [e]; exact ⟨rfl, rfl⟩
  | var T cs => obtain ⟨g, us, e, _⟩ := h; rw [e]; exact ⟨rfl, rfl⟩
  | rowk T sz es n c => obtain ⟨g, us, e, _⟩ := h; rw [e]; exact ⟨rfl, rfl⟩
section
variable {P : Program} {env : Nat → AV} {ty : TypeId} {pos : String} {af : Array Edge} {g : Option (Nat × Bool)} {t : TypeId} {o : Option Tmp} {HF : Nat → Option Blk} {k : Nat} {E : List (Nat × AV)}
/-- []T{x, y}: two own slices. -/
theorem m_bslice2 {e b i j : Nat} [hT : SlT P t e 1 b] {x y : Operand} {bi bj : Blk} (hx : evA (get E) x = .ow i) (hy : evA (get E) y = .ow j) (hi : HF i = some bi) (hj : HF j = some bj) :
    MakeOk P ⟨o, .buildSlice t 2 #[(0, x), (1, y)], ty, pos, af, g⟩ (get E) HF [(i, bi), (j, bj)] k (.sv k 2) (.var e [.ow i, .ow j]) := by
  refine ⟨fun i' b' h => ?_, by simp [AV.ids], fun i' hi' => ?_, fun a w Z M hM hr hh => ?_⟩
  · simp only [List.mem_cons, List.not_mem_nil, or_false, Prod.mk.injEq] at h
    rcases h with ⟨rfl, rfl⟩ | ⟨rfl, rfl⟩
    · exact hi
    · exact hj
  · simp only [Blk.ids, AV.idss, AV.ids, List.append_nil, List.cons_append, List.nil_append, List.mem_cons, List.not_mem_nil, or_false] at hi'
    rcases hi' with rfl | rfl
    · rcases ids_ev hx i' (by simp [AV.ids]) with h | ⟨_, _, h, _⟩
      · exact .inl h
      · exact mem_nil h
    · rcases ids_ev hy i' (by simp [AV.ids]) with h | ⟨_, _, h, _⟩
      · exact .inl h
      · exact mem_nil h
  · have h1 := hr x (by simp [Op.operands])
    have h2 := hr y (by simp [Op.operands])
    rw [hx, AV.rep] at h1
    rw [hy, AV.rep] at h2
    obtain ⟨o1, c1⟩ := own_one (hh i bi (by simp))
    obtain ⟨o2, c2⟩ := own_one (hh j bj (by simp))
    obtain ⟨ti, z, t1, t2, t3, t4, t5⟩ := SlT.inf (P := P) (t := t) (e := e) (sz := 1) (b := b)
    have tu := SlT.und (P := P) (t := t) (e := e) (sz := 1) (b := b)
    have hrun : (Instr.buildSlice t 2 #[(0, Z i), (1, Z j)]).run P w = .ok (.slice (some ⟨w.heap.size, 0, none⟩) 2 2) (w.alloc (.cells #[Z i, Z j] e)) := by
      refine run_buildSlice w t e 2 _ _ ti z tu t1 t2 (by rw [t3]; omega) (by rw [t3]; decide) ?_
      rw [t3]
      have := Great.fill_whole (s := 1) (by decide) [Z i, Z j] (Array.map (fun x => z.cells[x % z.cells.size]!) (Array.range 2)) (by intro v hv; simp at hv; rcases hv with rfl | rfl; (rw [c1]; rfl); (rw [c2]; rfl)) (by simp)
      simpa [c1, c2] using this
    have hex : (execOp a.eval ⟨o, .buildSlice t 2 #[(0, x), (1, y)], ty, pos, af, g⟩).run P w = .ok (.value (.slice (some ⟨w.heap.size, 0, none⟩) 2 2)) (w.alloc (.cells #[Z i, Z j] e)) := by
      simp only [execOp, List.map_toArray, List.map_cons, List.map_nil, h1, h2, Sem.run_bind, hrun, Result.andThen_ok, Sem.run_pure]
    refine ⟨_, .pointer (some ⟨w.heap.size, 0, none⟩), _, hex, (Below.refl _ _).alloc (Nat.le_refl _) _, fun q hq => by simp [blk] at hq; omega, fun Z' hz' hzo => ⟨by rw [AV.rep, hz']; exact ⟨_, rfl, rfl⟩, fun hids => ?_⟩⟩
    have hzi : Z' i = Z i := hzo i (hids i (by simp [Blk.ids, AV.idss, AV.ids]))
    have hzj : Z' j = Z j := hzo j (hids j (by simp [Blk.ids, AV.idss, AV.ids]))
    refine ⟨w.heap.size, #[Z i, Z j], hz', heap_new _ _, ?_, by simp [o1, o2]⟩
    simp only [AV.reps, AV.rep, hzi, hzj]
    exact ⟨_, _, rfl, rfl, _, _, rfl, rfl, rfl⟩
end
section
variable {H : Nat → Option Blk} {ρ : Nat → Nat} {G : List Nat} {cs ds : List AV} {S : St} {l : List (Nat × AV)} {t : Nat}
theorem cfl_ow {i j : Nat} (h : CfL H ρ G cs ds) (e : ρ i = j) : CfL H ρ G (.ow j :: cs) (.ow i :: ds) := by subst e; exact .cons _ _ _ _ (.ow _) h
theorem le_sv {i j n : Nat} (h : eLe S ρ G l) (e : ρ i = j) (hx : get S.env t = .sv j n) : eLe S ρ G ((t, .sv i n) :: l) := by
  subst e; refine ⟨?_, h⟩; rw [show S.envF t = .sv (ρ i) n from hx]; exact .sv _ _
theorem le_ol {i j n : Nat} (h : eLe S ρ G l) (e : ρ i = j) (hx : get S.env t = .ol j n) : eLe S ρ G ((t, .ol i n) :: l) := by
  subst e; refine ⟨?_, h⟩; rw [show S.envF t = .ol (ρ i) n from hx]; exact .ol _ _
end
end Go.Ab

/- The second layer: an append of an own row whose room is known. No conditions. -/
namespace Go.Ab
open Go.RowKit
set_option linter.unusedVariables false
set_option linter.unusedSimpArgs false
section
variable {P : Program} {L : Ln} {N : Nat} {ops : Array Oper} {chk : List (Nat × Sp) → Bool} {Q : St → Prop} {l : List Oper} {E : List (Nat × AV)} {H : List (Nat × Option Blk)} {n : Nat} {tr : List (Nat × Sp)}
variable {d : Nat} {ty : TypeId} {pos : String} {af : Array Edge} {g : Option (Nat × Bool)} {t : TypeId} {x y : Operand}
/-- An append onto an own slice; onto nothing. -/
theorem w_appendK {e sz b i : Nat} [hT : SlT P t e sz b] {es es' : List (List RV)} {rd : List (Nat × Blk)} (hx : evA (get E) x = .ow i) (hi : getH H i = some (.row e sz es)) (hs : SrcK (get E) (getH H) e sz y es' rd) (hne : (rd.all fun p => !Nat.beq p.1 i) = true)
    (hlen : (es.length + es'.length) * b ≤ 211106232532992 ∧ es.length + es'.length ≤ 211106232532992) (hloc : (Nat.blt i L.m || Nat.ble L.n i) = true)
    (hd : Nat.blt d N = true) (hg : Wanted ops (get E) ⟨some d, .call { callee := .builtin .append, args := #[x, y], argTypes := #[t, t] }, ty, pos, af, g⟩ true)
    (h : wpA P L N ops chk Q l ⟨(d, .ow n) :: E, (n, some (.row e sz (es ++ es'))) :: (i, none) :: H, n + 1⟩ ((n, ⟨true, (i, .row e sz es) :: rd, .ow n, [(i, none)], [.row e sz (es ++ es')]⟩) :: tr)) :
    wpA P L N ops chk Q (⟨some d, .call { callee := .builtin .append, args := #[x, y], argTypes := #[t, t] }, ty, pos, af, g⟩ :: l) ⟨E, H, n⟩ tr := by
  refine ⟨⟨true, (i, .row e sz es) :: rd, .ow n, [(i, none)], [.row e sz (es ++ es')]⟩, ⟨fun x hx => ?_, hg, fun _ a w Z M hM hr hh hdist => ?_, (fun h => by cases h), fun D hD hDH hf => ?_⟩, h⟩
  · injection hx with hx; subst hx; exact blt_t.1 hd
  · have hxr : (evA (get E) x).rep Z M w (a.eval x) := hr x (by simp [Op.operands, Call.operands])
    have hyr : (evA (get E) y).rep Z M w (a.eval y) := hr y (by simp [Op.operands, Call.operands])
    rw [hx, AV.rep] at hxr
    obtain ⟨⟨us, h1, h2, h3⟩, hMi⟩ := hh i (.row e sz es) (by simp)
    obtain ⟨A, c, news, h4, h5, h6, h7, h8⟩ := hs.val hyr (fun j b hj => (hh j b (List.mem_cons_of_mem _ hj)).1)
    obtain ⟨v', w', h9, h10, h11, h12⟩ := run_append_gen (P := P) (t := t) w ty (Z i) es.length es'.length c us news h1 A h5 h6 h7.one hlen.1 (by unfold maxLen; omega)
    have hex : (execOp a.eval ⟨some d, .call { callee := .builtin .append, args := #[x, y], argTypes := #[t, t] }, ty, pos, af, g⟩).run P w = .ok (.value v') w' := by
      simp only [execOp, resolve, invoke, builtin, Sem.run_bind, Sem.run_pure, Result.andThen_ok, List.map_toArray, List.map_cons, List.map_nil, hxr, h4, h9]
    obtain ⟨b1, A1, c1, b2⟩ := own_blk h1
    obtain ⟨b3, A2, c2, b4⟩ := own_blk h10
    have hU : Upto (fun q => blk (Z i) = some q) w w' := ⟨h11.os, h11.tape, h11.output, h11.size, fun q hq hne => h11.block q hq (fun e => hne (by rw [← b1]; exact e.symm))⟩
    have hU' : Upto M w w' := hU.mono fun q _ hq => hMi q hq
    have hz1 : (fun j => if j = n then v' else Z j) n = v' := by simp
    refine exec_value hex ⟨fun j => if j = n then v' else Z j, fun j hj => ?_, by rw [AV.rep]; simp, fun j c hj => ?_, fun j c hj => ?_, fun j j' q hj hj' hne => ?_, fun j q hj hq => ?_, hU.mono fun q _ hq => ⟨i, none, by simp, hq⟩⟩
    · have : j ≠ n := by simp at hj; omega
      simp [this]
    · have := mem_one hj; cases this
    · have hj0 : j = 0 := by
        cases j with
        | zero => rfl
        | succ j => simp at hj
      subst hj0
      have : c = .row e sz (es ++ es') := by simpa using hj.symm
      subst this
      have hB : ∀ q, q < w.heap.size → New n ⟨true, (i, .row e sz es) :: rd, .ow n, [(i, none)], [.row e sz (es ++ es')]⟩ (fun j => if j = n then v' else Z j) M q → M q := by
        rintro q hq (h0 | ⟨j, hj, hjq⟩)
        · exact h0
        · have : j = 0 := by simpa using hj
          subst this
          simp only [Nat.add_zero, if_pos] at hjq
          rw [b3, b1] at h12
          rcases h12 with h12 | h12
          · exact hMi q (by rw [← h12]; exact hjq)
          · rw [h12] at hjq; injection hjq with hjq; omega
      refine ⟨us ++ news, ?_, ?_, fun e he => ?_⟩
      · simp only [Nat.add_zero, if_pos, List.length_append]
        exact h10
      · rw [List.flatten_append]
        exact (h2.mono hU' hB).append (h7.mono hU' hB)
      · rcases List.mem_append.1 he with he | he
        · exact h3 e he
        · exact h8 e he
    · simp at hj hj'; omega
    · have : j = 0 := by simpa using hj
      subst this
      have hq' : blk v' = some q := by simpa using hq
      rw [b3, b1] at h12
      rcases h12 with h12 | h12
      · exact .inr ⟨i, by simp, by rw [← h12]; exact hq'⟩
      · rw [h12] at hq'; injection hq' with hq'; exact .inl (by omega)
  · refine ⟨fun j b hj => ?_, fun j o ho => ?_, fun j o ho => ?_, fun j ho => ?_, hf, fun j hj => .inr ?_, fun b hb j hj => ?_, fun j b hb => ?_⟩
    · rcases List.mem_cons.1 hj with e1 | e1
      · injection e1 with e1 e2; subst e1 e2; exact hi
      · exact hs.rdH j b e1
    · have := mem_one ho
      injection this with e1 e2
      subst e1
      exact ⟨.row e sz es, by simp⟩
    · have := mem_one ho
      injection this with e1 e2
      subst e1 e2
      simp [List.lookup_cons]
    · have := mem_one ho
      injection this with e1 e2
      subst e1
      rw [Bool.or_eq_true, blt_t, ble_t] at hloc
      exact hloc
    · have : j = n := by simpa [AV.ids] using hj
      subst this
      simp
    · have := mem_one hb
      subst this
      simp [Blk.ids] at hj
    · have := mem_one hb; cases this
end
end Go.Ab

/- The second layer: the nil slice as an own slice without elements. No conditions. --ext3 -/
namespace Go.Ab
open Go.RowKit
set_option linter.unusedVariables false
set_option linter.unusedSimpArgs false

/-- The slot t holds nil: it is the own slice of a new number, without elements. -/
theorem awp_nilow (t T sz : Nat) {P : Program} {L : Ln} {N : Nat} {c : Code} {Q : Exit → St → Prop} {E : List (Nat × AV)} {H : List (Nat × Option Blk)} {n : Nat} (ht : get E t = .r (.v (.slice none 0 0))) (hL : Nat.ble L.n n = true)
    (h : awp P L N c Q ⟨(t, .ow n) :: E, (n, some (.row T sz [])) :: H, n + 1⟩) : awp P L N c Q ⟨E, H, n⟩ := by
  intro C h1 h2 h3 a w ⟨Z, S⟩
  have hD : ∀ i, (fun i => i < (⟨E, H, n⟩ : St).nx) i → i ≠ n := fun i hi e => by subst e; exact absurd hi (Nat.lt_irrefl _)
  have hne : ∀ i b, getH H i = some b → i ≠ n := fun i b hi => hD i (S.holds i b hi).2.1
  let Z' : Nat → Value := fun i => if i = n then .slice none 0 0 else Z i
  have hz : ∀ i, i ≠ n → Z' i = Z i := fun i hi => if_neg hi
  have hzn : Z' n = .slice none 0 0 := if_pos rfl
  have hH : ∀ j, St.HF ⟨(t, .ow n) :: E, (n, some (.row T sz [])) :: H, n + 1⟩ j = if n = j then some (.row T sz []) else getH H j := fun j => getH_cons n j _ _
  have hB : ∀ x, x < w.heap.size → Own C (St.HF ⟨(t, .ow n) :: E, (n, some (.row T sz [])) :: H, n + 1⟩) Z' x → Own C (getH H) Z x := by
    rintro x _ (h0 | ⟨i, b, hi, hb⟩)
    · exact .inl h0
    · rw [hH] at hi
      split at hi
      · rename_i e; subst e; rw [hzn] at hb; cases hb
      · rename_i e; rw [hz i (fun h => e h.symm)] at hb; exact .inr ⟨i, b, hi, hb⟩
  refine h C h1 h2 h3 a w ⟨Z', S.size, S.defers, S.frame, S.m0, fun u => ?_, fun u i hi => ?_, fun j b hj => ?_, fun j j' b c hj hj' hjj x hx => ?_, fun j b x hj hx => ?_, S.lm, fun i hi => ?_⟩
  · show (get ((t, .ow n) :: E) u).rep _ _ _ _
    by_cases hu : t = u
    · subst hu
      have e : get ((t, AV.ow n) :: E) t = .ow n := by simp [get]
      rw [e, AV.rep, hzn]
      have := S.slots t
      rw [show St.envF ⟨E, H, n⟩ t = get E t from rfl, ht, AV.rep, RV.rep] at this
      exact this
    · have e : get ((t, AV.ow n) :: E) u = get E u := by
        have : Nat.beq t u = false := by cases hb : Nat.beq t u with
          | false => rfl
          | true => exact absurd (Nat.eq_of_beq_eq_true hb) hu
        simp [get, this]
      rw [e]
      exact AV.rep_mono (Upto.refl _) hB _ (fun i hi => hz i (hD i (S.ids u i hi))) _ (S.slots u)
  · by_cases hu : t = u
    · subst hu
      have e : St.envF ⟨(t, AV.ow n) :: E, (n, some (.row T sz [])) :: H, n + 1⟩ t = .ow n := by simp [St.envF, get]
      rw [e] at hi
      have : i = n := by simpa [AV.ids] using hi
      subst this
      exact Nat.lt_succ_self _
    · have e : St.envF ⟨(t, AV.ow n) :: E, (n, some (.row T sz [])) :: H, n + 1⟩ u = get E u := by
        have : Nat.beq t u = false := by cases hb : Nat.beq t u with
          | false => rfl
          | true => exact absurd (Nat.eq_of_beq_eq_true hb) hu
        simp [St.envF, get, this]
      rw [e] at hi
      exact Nat.lt_succ_of_lt (S.ids u i hi)
  · rw [hH] at hj
    split at hj
    · rename_i e
      subst e
      injection hj with hj
      subst hj
      refine ⟨⟨[], ⟨by simp, .inl ⟨hzn, rfl⟩⟩, .nil, by simp⟩, Nat.lt_succ_self _, fun q hq => by simp [Blk.ids] at hq⟩
    · obtain ⟨g1, g2, g3⟩ := S.holds j b hj
      exact ⟨g1.keep (Upto.refl _) hB (hz j (hne j b hj)) (fun q hq => hz q (hD q (g3 q hq))) (fun _ _ => rfl), Nat.lt_succ_of_lt g2, fun q hq => Nat.lt_succ_of_lt (g3 q hq)⟩
  · rw [hH] at hj hj'
    split at hj
    · rename_i e; subst e; rw [hzn] at hx; cases hx
    · split at hj'
      · rename_i e; subst e; rw [hzn]; exact fun h => by cases h
      · rw [hz j (hne j b hj)] at hx
        rw [hz j' (hne j' c hj')]
        exact S.dist j j' b c hj hj' hjj x hx
  · rw [hH] at hj
    split at hj
    · rename_i e; subst e; rw [hzn] at hx; cases hx
    · rw [hz j (hne j b hj)] at hx
      exact S.fresh j b x hj hx
  · obtain ⟨g1, g2⟩ := S.zl i hi
    exact ⟨(hz i (hD i g2)).trans g1, Nat.lt_succ_of_lt g2⟩
/-- The same, ahead of a loop. -/
theorem awp_nilowL (t T sz : Nat) {P : Program} {L : Ln} {N : Nat} {c : Code} {Q : Exit → St → Prop} {S : St} (ht : get S.env t = .r (.v (.slice none 0 0))) (hL : Nat.ble L.n S.nx = true)
    (h : awp P L N c Q ⟨(t, .ow S.nx) :: S.env, (S.nx, some (.row T sz [])) :: S.H, S.nx + 1⟩) : awp P L N c Q S := awp_nilow t T sz ht hL h
end Go.Ab

/- The second layer: min and max of two numbers. No conditions. --ext3 -/
namespace Go.Ab
open Go.RowKit
set_option linter.unusedVariables false
set_option linter.unusedSimpArgs false
section
variable {P : Program} {env : Nat → AV} {H : Nat → Option Blk} {d : Option Tmp} {ty : TypeId} {pos : String} {af : Array Edge} {g : Option (Nat × Bool)} {ts : Array TypeId} {x y : Operand} {k k' : IntKind} {a b c : Int}
theorem p_max2 (hx : evA env x = .r (.v (.int k a))) (hy : evA env y = .r (.v (.int k' b))) (hc : (if b > a then b else a) = c) : ReadOk P ⟨d, .call { callee := .builtin .max, args := #[x, y], argTypes := ts }, ty, pos, af, g⟩ env H [] (.r (.v (.int k c))) := by
  refine ⟨fun i b h => mem_nil h, fun i hi => by simp [AV.ids] at hi, fun ac w Z M hr _ => ?_⟩
  have h1 := ev_v hx (hr x (by simp [Op.operands, Call.operands]))
  have h2 := ev_v hy (hr y (by simp [Op.operands, Call.operands]))
  refine ⟨.int k c, ?_, by rw [AV.rep, RV.rep]⟩
  have := run_max_int2 (P := P) (w := w) ts ty k k' a b
  simp [execOp, resolve, h1, h2, invoke, builtin, this, hc]
theorem p_min2 (hx : evA env x = .r (.v (.int k a))) (hy : evA env y = .r (.v (.int k' b))) (hc : (if b < a then b else a) = c) : ReadOk P ⟨d, .call { callee := .builtin .min, args := #[x, y], argTypes := ts }, ty, pos, af, g⟩ env H [] (.r (.v (.int k c))) := by
  refine ⟨fun i b h => mem_nil h, fun i hi => by simp [AV.ids] at hi, fun ac w Z M hr _ => ?_⟩
  have h1 := ev_v hx (hr x (by simp [Op.operands, Call.operands]))
  have h2 := ev_v hy (hr y (by simp [Op.operands, Call.operands]))
  refine ⟨.int k c, ?_, by rw [AV.rep, RV.rep]⟩
  have := run_min_int2 (P := P) (w := w) ts ty k k' a b
  simp [execOp, resolve, h1, h2, invoke, builtin, this, hc]
end
section
variable {P : Program} {L : Ln} {N : Nat} {ops : Array Oper} {chk : List (Nat × Sp) → Bool} {Q : St → Prop} {l : List Oper} {S : St} {tr : List (Nat × Sp)} {d : Option Tmp} {ty : TypeId} {pos : String} {af : Array Edge} {g : Option (Nat × Bool)}
end
end Go.Ab

/- The second layer: functions as values, rows that are made. No conditions. --ext3 -/
namespace Go.Ab
open Go.RowKit
set_option linter.unusedVariables false
set_option linter.unusedSimpArgs false
theorem exec_callV {P : Program} {f : FuncId} {fx : Operand} {us : Array Value} {xs : Array Operand} {ats : Array TypeId} {d : Option Tmp} {ty : TypeId} {pos : String} {af : Array Edge} {g : Option (Nat × Bool)} (hf : callB P f = true) (a : Act) (w : World) (hu : a.eval fx = .func (.func f) #[] us) :
    (execOp a.eval ⟨d, .call { callee := .value fx, args := xs, argTypes := ats }, ty, pos, af, g⟩).run P w = .ok (.enter f (xs.map a.eval ++ us)) w := by
  unfold callB at hf
  split at hf
  · rename_i fn hfn
    rw [Bool.and_eq_true] at hf
    have h1 : (fn.name == "runtime.NumGoroutine") = false := by simpa using hf.1
    have h2 : fn.body.isNone = false := by cases hb : fn.body <;> simp_all
    have h3 : (callFunc f (xs.map a.eval ++ us)).run P w = .ok (.enter f (xs.map a.eval ++ us)) w := by
      unfold callFunc
      simp only [program, Sem.run_bind, Sem.run, Result.andThen_ok, hfn, h1, h2]
      simp
    simp only [execOp, resolve, hu, Deferred.ofValue, Sem.run_bind, Sem.run_pure, Result.andThen_ok, invoke]
    simpa using h3
  · cases hf
section
variable {P : Program} {L : Ln} {N : Nat} {ops : Array Oper} {chk : List (Nat × Sp) → Bool} {Q : St → Prop} {l : List Oper} {E : List (Nat × AV)} {H : List (Nat × Option Blk)} {n : Nat} {tr : List (Nat × Sp)}
variable {d : Nat} {ty : TypeId} {pos : String} {af : Array Edge} {g : Option (Nat × Bool)}
/-- A CALL to which own blocks are lent or handed over: J tells which. -/
theorem w_callC {f : FuncId} {fx : Operand} {cs : List AV} {xs : Array Operand} {ats : Array TypeId} {ds : List AV} {r : AV} (hfx : evA (get E) fx = .cl f cs ∨ (cs = [] ∧ evA (get E) fx = .r (.v (.func (.func f) #[] #[])))) (J : List Nat) (pre : List Blk) (post : List (Option Blk)) (hm : Meets P f ds pre r post) (hargs : CfL (getH H) (fun i => J.getD i 0) [] (xs.toList.map (evA (get E)) ++ cs) ds) (hf : callB P f = true)
    (hH : ∀ i b, (i, b) ∈ rdOf J pre → getH H i = some b) (hpre : preB J n pre post ds L = true) (hrng : rngB (r.unfr n).1 n (r.unfr n).2.length = true)
    (hd : Nat.blt d N = true) (hg : Wanted ops (get E) ⟨some d, .call { callee := .value fx, args := xs, argTypes := ats }, ty, pos, af, g⟩ true)
    (h : wpA P L N ops chk Q l ⟨(d, (r.unfr n).1) :: E, frsL n (r.unfr n).2 ++ (pairs J post ++ H), n + (r.unfr n).2.length⟩ ((n, ⟨true, rdOf J pre, (r.unfr n).1, pairs J post, (r.unfr n).2⟩) :: tr)) :
    wpA P L N ops chk Q (⟨some d, .call { callee := .value fx, args := xs, argTypes := ats }, ty, pos, af, g⟩ :: l) ⟨E, H, n⟩ tr := by
  unfold preB at hpre
  simp only [Bool.and_eq_true, ble_t, List.all_eq_true, blt_t, decide_eq_true_eq] at hpre
  obtain ⟨⟨⟨⟨⟨⟨⟨⟨b1, b2⟩, b3⟩, b4⟩, b5⟩, b6⟩, b7⟩, b8⟩, b9⟩ := hpre
  have b4 := Nat.eq_of_beq_eq_true b4
  have b5 := Nat.eq_of_beq_eq_true b5
  have hmem : ∀ q, q < J.length → J.getD q 0 ∈ J := fun q hq => by rw [List.getD_eq_getElem?_getD, List.getElem?_eq_getElem hq]; exact List.getElem_mem hq
  have hJq : ∀ q, q < J.length → J[q]? = some (J.getD q 0) := fun q hq => by rw [List.getD_eq_getElem?_getD, List.getElem?_eq_getElem hq]; rfl
  refine ⟨⟨true, rdOf J pre, (r.unfr n).1, pairs J post, (r.unfr n).2⟩, ⟨fun x hx => ?_, hg, fun _ a w Z M hM hr hh hdist => ?_, (fun h => by cases h), fun D hD hDH hfree => ?_⟩, h⟩
  · injection hx with hx; subst hx; exact blt_t.1 hd
  · have hr' : ∀ x ∈ xs.toList, (evA (get E) x).rep Z M w (a.eval x) := fun x hx => hr x (by show x ∈ (#[fx] ++ xs).toList; rw [Array.toList_append]; exact List.mem_append_right _ hx)
    have hreps : AV.reps Z M w (xs.toList.map (evA (get E))) (xs.toList.map a.eval) := by
      revert hr'
      generalize xs.toList = ys
      intro hr'
      induction ys with
      | nil => rw [List.map_nil, AV.reps]; rfl
      | cons y ys ih => rw [List.map_cons, List.map_cons, AV.reps]; exact ⟨_, _, rfl, hr' y (by simp), ih fun x hx => hr' x (by simp [hx])⟩
    have hfr : (evA (get E) fx).rep Z M w (a.eval fx) := hr fx (by show fx ∈ (#[fx] ++ xs).toList; rw [Array.toList_append]; exact List.mem_append_left _ (by simp))
    obtain ⟨us, hus, hcs⟩ : ∃ us, a.eval fx = .func (.func f) #[] us ∧ AV.reps Z M w cs us.toList := by
      rcases hfx with h0 | ⟨rfl, h0⟩
      · rw [h0, AV.rep] at hfr; exact hfr
      · rw [h0, AV.rep, RV.rep] at hfr; exact ⟨#[], hfr, by rw [AV.reps]⟩
    have hreps := reps_append hreps hcs
    let Zc : Nat → Value := fun i => if i < J.length then Z (J.getD i 0) else Z i
    have hZc : ∀ i, i < J.length → Zc i = Z (J.getD i 0) := fun i hi => if_pos hi
    have hargs' := CfL.reps (Z := Z) (Z' := Zc) (B := M) (B' := M) (w := w) (fun _ _ h => h) (fun j b hj hb => by cases hj) hargs (fun i hi => hZc i (b8 i hi)) _ hreps
    have hrdq : ∀ i b, (i, b) ∈ numd 0 pre → i < J.length ∧ (J.getD i 0, b) ∈ rdOf J pre ∧ b ∈ pre := by
      intro i b hib
      have h1 := (numd_mem.1 hib).2
      rw [Nat.sub_zero] at h1
      have h2 := len_of h1
      exact ⟨by omega, rdOf_mem.2 ⟨i, hJq i (by omega), h1⟩, List.mem_of_getElem? h1⟩
    have hinj : ∀ i j, i < J.length → j < J.length → i ≠ j → J.getD i 0 ≠ J.getD j 0 := by
      intro i j hi hj hij he
      have h1 := hJq i hi
      have h2 := hJq j hj
      rw [List.getElem?_eq_getElem hi] at h1
      rw [List.getElem?_eq_getElem hj] at h2
      injection h1 with h1
      injection h2 with h2
      have hp := List.pairwise_iff_getElem.1 b3
      rcases Nat.lt_trichotomy i j with h | h | h
      · exact hp i j hi hj h (by rw [h1, h2, he])
      · exact hij h
      · exact hp j i hj hi h (by rw [h1, h2, he])
    have hc := hm w Zc M n (xs.toList.map a.eval ++ us.toList) hM (by omega) hargs' (fun i b hib => by
      obtain ⟨h1, h2, h3⟩ := hrdq i b hib
      obtain ⟨h4, h5⟩ := hh _ b h2
      exact ⟨held_move h4 (hZc i h1) (by simpa using b6 b h3) (fun _ _ h => h), fun x hx => h5 x (by rw [← hZc i h1]; exact hx)⟩) (fun i j b c hi hj hij x hx => by
      obtain ⟨h1, h2, _⟩ := hrdq i b hi
      obtain ⟨h3, h4, _⟩ := hrdq j c hj
      rw [hZc i h1] at hx
      rw [hZc j h3]
      exact hdist _ _ b c h2 h4 (hinj i j h1 h3 hij) x hx)
    refine exec_enter (exec_callV hf a w hus) ?_
    have he : (xs.toList.map a.eval ++ us.toList).toArray = xs.map a.eval ++ us := by rw [← Array.toList_map, ← Array.toList_append]
    rw [he] at hc
    refine hc.mono fun e w' ⟨v, h1, Z1, A⟩ => ⟨v, h1, fun i => if n ≤ i ∧ i < n + (r.unfr n).2.length then Z1 i else Z i, ?_⟩
    generalize hZ2 : (fun i => if n ≤ i ∧ i < n + (r.unfr n).2.length then Z1 i else Z i) = Z2
    have z1 : ∀ i, n ≤ i → i < n + (r.unfr n).2.length → Z2 i = Z1 i := fun i h1 h2 => by rw [← hZ2]; exact if_pos ⟨h1, h2⟩
    have z2 : ∀ i, (i < n ∨ n + (r.unfr n).2.length ≤ i) → Z2 i = Z i := fun i h1 => by rw [← hZ2]; exact if_neg (by omega)
    have hN : ∀ q, q < w'.heap.size → New n ⟨true, rdOf J pre, (r.unfr n).1, pairs J post, (r.unfr n).2⟩ Z2 M q → New n (callSp n pre r post) Z1 M q := by
      rintro q _ (h0 | ⟨j, hj, hq⟩)
      · exact .inl h0
      · have hj' : j < (r.unfr n).2.length := hj
        rw [z1 (n + j) (by omega) (by omega)] at hq
        exact .inr ⟨j, hj, hq⟩
    have hup : ∀ j o, (j, o) ∈ pairs J post ↔ ∃ q, q < J.length ∧ J.getD q 0 = j ∧ (q, o) ∈ numdP 0 post := by
      intro j o
      rw [pairs_mem]
      constructor
      · rintro ⟨q, h1, h2⟩
        exact ⟨q, len_of h1, getD_of h1, numdP_mem.2 ⟨Nat.zero_le _, by simpa using h2⟩⟩
      · rintro ⟨q, h1, h2, h3⟩
        exact ⟨q, by rw [hJq q h1, h2], by simpa using (numdP_mem.1 h3).2⟩
    have hnl : ∀ q o, (q, o) ∈ numdP 0 post → q < J.length := fun q o h => by
      have := len_of (numdP_mem.1 h).2
      omega
    refine ⟨z2, ?_, fun j b hjb => ?_, fun j b hj => ?_, fun j j' x hj hj' hne h3 h4 => ?_, fun j x hj hx => ?_, A.upto.mono fun x _ ⟨i, o, hi, hx⟩ => ?_⟩
    · refine AV.rep_mono (Upto.refl _) hN _ (fun i hi => ?_) _ A.out
      have := List.all_eq_true.1 hrng i hi
      rw [Bool.and_eq_true, ble_t, blt_t] at this
      exact z1 i this.1 this.2
    · obtain ⟨q, h2, h3, h4⟩ := (hup j (some b)).1 hjb
      have h5 := A.up q b h4
      refine held_move h5 ?_ ?_ hN
      · rw [z2 j (.inl (b2 j (h3 ▸ hmem q h2))), A.z q (.inl (by omega)), hZc q h2, h3]
      · have h6 := (numdP_mem.1 h4).2
        have := b7 _ (List.mem_of_getElem? h6)
        simpa using this
    · obtain ⟨T, sz, es, rfl, _⟩ := unfr_row r n b (List.mem_of_getElem? hj)
      have hjl := len_of hj
      have hjl' : j < (r.unfr n).2.length := hjl
      exact held_move (A.fr j _ hj) (z1 (n + j) (by omega) (by omega)) rfl hN
    · have k1 : j < (r.unfr n).2.length := hj
      have k2 : j' < (r.unfr n).2.length := hj'
      have h3' : blk (Z2 (n + j)) = some x := h3
      have h4' : blk (Z2 (n + j')) = some x := h4
      rw [z1 (n + j) (by omega) (by omega)] at h3'
      rw [z1 (n + j') (by omega) (by omega)] at h4'
      exact A.dist j j' x hj hj' hne h3' h4'
    · have k1 : j < (r.unfr n).2.length := hj
      have hx' : blk (Z2 (n + j)) = some x := hx
      rw [z1 (n + j) (by omega) (by omega)] at hx'
      rcases A.fresh j x hj hx' with h | ⟨i, hi, hix⟩
      · exact .inl h
      · have k2 := hnl i _ hi
        rw [hZc i k2] at hix
        exact .inr ⟨J.getD i 0, (hup _ _).2 ⟨i, k2, rfl, hi⟩, hix⟩
    · have k2 := hnl i _ hi
      rw [hZc i k2] at hx
      exact ⟨J.getD i 0, o, (hup _ _).2 ⟨i, k2, rfl, hi⟩, hx⟩
  · refine ⟨hH, fun i o h => ?_, fun i o h => pairs_lookup b3 h, fun i h => ?_, hfree, fun i hi => .inr ?_, fun b hb i hi => ?_, fun i b hib i' hi' => ?_⟩
    · obtain ⟨q, h1, h2⟩ := pairs_mem.1 h
      have h3 := len_of h1
      exact ⟨pre[q]'(by omega), rdOf_mem.2 ⟨q, h1, List.getElem?_eq_getElem _⟩⟩
    · have := b9 _ h
      simp only [Bool.or_eq_true, blt_t, ble_t] at this
      exact this
    · have := List.all_eq_true.1 hrng i hi
      rw [Bool.and_eq_true, ble_t, blt_t] at this
      exact this
    · obtain ⟨T, sz, es, rfl, _⟩ := unfr_row r n b hb
      simp [Blk.ids] at hi
    · obtain ⟨q, h1, h2⟩ := pairs_mem.1 hib
      have := b7 _ (List.mem_of_getElem? h2)
      have : b.ids = [] := by simpa using this
      rw [this] at hi'
      cases hi'
end
section
variable {P : Program} {env : Nat → AV} {H : Nat → Option Blk} {d : Option Tmp} {ty : TypeId} {pos : String} {af : Array Edge} {g : Option (Nat × Bool)} {x y : Operand} {a b : AV} {f : FuncId}
theorem p_mkfunc1 (hx : evA env x = a) : ReadOk P ⟨d, .makeFunc (.func f) #[] #[x], ty, pos, af, g⟩ env H [] (.cl f [a]) := by
  refine ⟨fun i b h => mem_nil h, fun i hi => ?_, fun ac w Z M hr _ => ?_⟩
  · have : i ∈ a.ids := by simpa [AV.ids, AV.idss] using hi
    exact ids_ev hx i this
  · have h1 := hr x (by simp [Op.operands])
    rw [hx] at h1
    refine ⟨.func (.func f) #[] #[ac.eval x], ?_, ?_⟩
    · simp only [execOp, Instr.makeFunc, List.map_toArray, List.map_cons, List.map_nil, Sem.run_bind, Sem.run_pure, Result.andThen_ok]
    · rw [AV.rep]
      exact ⟨_, rfl, by rw [AV.reps]; exact ⟨_, _, rfl, h1, by rw [AV.reps]⟩⟩
end
theorem made_flat (zc : Array Value) (n : Nat) : (madeCells zc (n * zc.size)).toList = (List.replicate n zc.toList).flatten := by
  apply List.ext_getElem?
  intro j
  have hl : ∀ n, (List.replicate n zc.toList).flatten.length = n * zc.size := fun n => by simp
  by_cases hj : j < n * zc.size
  · have e1 : (madeCells zc (n * zc.size)).toList[j]? = some (zc[j % zc.size]!) := by
      simp [madeCells, hj]
    rw [e1]
    have hz : 0 < zc.size := by
      rcases Nat.eq_zero_or_pos zc.size with h | h
      · rw [h, Nat.mul_zero] at hj; omega
      · exact h
    have key : ∀ (n j : Nat), j < n * zc.size → (List.replicate n zc.toList).flatten[j]? = some (zc[j % zc.size]!) := by
      intro n
      induction n with
      | zero => intro j hj; omega
      | succ n ih =>
        intro j hj
        rw [List.replicate_succ, List.flatten_cons]
        by_cases h : j < zc.size
        · rw [List.getElem?_append_left (by simpa using h), Nat.mod_eq_of_lt h]
          simp [h]
        · rw [List.getElem?_append_right (by simp; omega), Array.length_toList, ih (j - zc.size) (by rw [Nat.add_mul] at hj; omega), ← Nat.mod_eq_sub_mod (by omega)]
    exact (key n j hj).symm
  · rw [List.getElem?_eq_none (by simp [madeCells]; omega), List.getElem?_eq_none (by rw [hl]; omega)]
theorem rvs_vals {B : Nat → Prop} {w : World} : ∀ (cs : List Value), cs.all (·.oneCell') = true → RVs B w (cs.map .v) cs
  | [], _ => .nil
  | c :: cs, h => by
    rw [List.all_cons, Bool.and_eq_true] at h
    exact .cons h.1 (by rw [RV.rep]) (rvs_vals cs h.2)
section
variable {P : Program} {E : List (Nat × AV)} {HF : Nat → Option Blk} {o : Option Tmp} {ty : TypeId} {pos : String} {af : Array Edge} {g : Option (Nat × Bool)} {x y : Operand} {t : TypeId} {k : Nat}
/-- make([]T, n). -/
theorem m_mslice {e sz b m : Nat} {cs : List Value} [hT : SlT P t e sz b] [hZ : ZrT P e cs] {q q' : IntKind} (hx : evA (get E) x = .r (.v (.int q m))) (hy : evA (get E) y = .r (.v (.int q' m))) (hb : b * m ≤ 281474976710656 ∧ m ≤ 9223372036854775807) :
    MakeOk P ⟨o, .makeSlice t x y, ty, pos, af, g⟩ (get E) HF [] k (.ow k) (.row e sz (List.replicate m (cs.map .v))) := by
  refine ⟨fun i b h => mem_nil h, rfl, fun i hi => by simp [Blk.ids] at hi, fun a w Z M hM hr _ => ?_⟩
  have h1 := ev_v hx (hr x (by simp [Op.operands]))
  have h2 := ev_v hy (hr y (by simp [Op.operands]))
  obtain ⟨i, z, t1, t2, t3, t4, t5⟩ := SlT.inf (P := P) (t := t) (e := e) (sz := sz) (b := b)
  have tu := SlT.und (P := P) (t := t) (e := e) (sz := sz) (b := b)
  have hz : z.cells = cs.toArray := by
    have := hZ.ok
    rw [t1, Option.map_some, t2, Option.map_some] at this
    injection this with h
    injection h
  obtain ⟨w', h3, h4, h5⟩ := run_make_full (P := P) w 0 t e i z sz tu t1 t2 t3 q q' m (by rw [t4]; exact hb.1) (by unfold maxLen; omega) (Nat.zero_le _)
  have hbel : Below w.heap.size w w' := ⟨h5.os, h5.tape, h5.output, h5.size, fun q hq => h5.block q hq (fun e => by cases e)⟩
  have hcl : cs.length = sz := by have := t5; rw [hz] at this; simpa using this
  refine ⟨_, .slice (some ⟨w.heap.size, 0, none⟩) m m, w', ?_, hbel, fun q hq => by simp [blk] at hq; omega, fun Z' hz' hzo => ⟨by rw [AV.rep, hz'], fun _ => ?_⟩⟩
  · simp only [execOp, h1, h2, Sem.run_bind, h3, Result.andThen_ok, Sem.run_pure]
  · refine ⟨(madeCells z.cells (m * sz)).toList, ?_, ?_, fun el hel => ?_⟩
    · rw [hz', List.length_replicate]; exact h4
    · rw [hz, ← hcl, show cs.length = cs.toArray.size by simp, made_flat]
      have : ∀ m, (List.replicate m (cs.map RV.v)).flatten = ((List.replicate m cs).flatten).map RV.v := fun m => by
        induction m with
        | zero => rfl
        | succ m ih => rw [List.replicate_succ, List.replicate_succ, List.flatten_cons, List.flatten_cons, List.map_append, ih]
      rw [this]
      refine rvs_vals _ ?_
      rw [List.all_eq_true]
      intro v hv
      obtain ⟨l, hl, hvl⟩ := List.mem_flatten.1 hv
      have := (List.mem_replicate.1 hl).2
      subst this
      exact List.all_eq_true.1 hZ.one v (by simpa using hvl)
    · have := (List.mem_replicate.1 hel).2
      subst this
      rw [List.length_map, hcl]
end
section
variable {H : Nat → Option Blk} {ρ : Nat → Nat} {G : List Nat} {env : Nat → AV} {x : Operand} {as ds cs cs' : List AV} {S : St} {l : List (Nat × AV)} {t : Nat} {f : Nat}
theorem cl_cl (h : CfL H ρ G as ds) (hc : CfL H ρ G cs cs') (hx : evA env x = .cl f cs) : CfL H ρ G (evA env x :: as) (.cl f cs' :: ds) := by rw [hx]; exact .cons _ _ _ _ (.cl _ _ _ hc) h
theorem cfl_pt {i j o : Nat} (h : CfL H ρ G cs ds) (e : ρ i = j) : CfL H ρ G (.pt j o :: cs) (.pt i o :: ds) := by subst e; exact .cons _ _ _ _ (.pt _ _) h
theorem le_cl (h : eLe S ρ G l) (hc : CfL S.HF ρ G cs cs') (hx : get S.env t = .cl f cs) : eLe S ρ G ((t, .cl f cs') :: l) := by
  refine ⟨?_, h⟩; rw [show S.envF t = .cl f cs from hx]; exact .cl _ _ _ hc
end
section
variable {P : Program} {L : Ln} {N : Nat} {ops : Array Oper} {chk : List (Nat × Sp) → Bool} {Q : St → Prop} {l : List Oper} {S : St} {tr : List (Nat × Sp)} {d : Option Tmp} {ty : TypeId} {pos : String} {af : Array Edge} {g : Option (Nat × Bool)}
theorem is_mkfunc {f : Fn} {a b : Array Operand} (h : wpA P L N ops chk Q (⟨d, .makeFunc f a b, ty, pos, af, g⟩ :: l) S tr) : wpA P L N ops chk Q (⟨d, .makeFunc f a b, ty, pos, af, g⟩ :: l) S tr := h
theorem is_fv {t : Tmp} {xs : Array Operand} {ats : Array TypeId} (h : wpA P L N ops chk Q (⟨d, .call { callee := .value (.tmp t), args := xs, argTypes := ats }, ty, pos, af, g⟩ :: l) S tr) : wpA P L N ops chk Q (⟨d, .call { callee := .value (.tmp t), args := xs, argTypes := ats }, ty, pos, af, g⟩ :: l) S tr := h
end
end Go.Ab

/- The second layer: a walk that halts ahead of a region that is told. No conditions. --ext4 -/
namespace Go.Ab
open Go.RowKit
set_option linter.unusedVariables false
@[irreducible] def Halt (p : Prop) : Prop := p
theorem halt {p : Prop} (h : p) : Halt p := by unfold Halt; exact h
theorem awp_halt (r : Nat) {P : Program} {L : Ln} {N : Nat} {ops : Array Oper} {b : Bool} {y : Code} {Q : Exit → St → Prop} {S : St} (h : Halt (awp P L N (.seq (.region r ops b) y) Q S)) : awp P L N (.seq (.region r ops b) y) Q S := by
  unfold Halt at h; exact h
theorem awp_haltR (r : Nat) {P : Program} {L : Ln} {N : Nat} {ops : Array Oper} {b : Bool} {Q : Exit → St → Prop} {S : St} (h : Halt (awp P L N (.region r ops b) Q S)) : awp P L N (.region r ops b) Q S := by
  unfold Halt at h; exact h
end Go.Ab

/- The second layer: an element of an array that is a variable; a slice literal of two pointers into variables. No conditions. -/
namespace Go.Ab
open Go.RowKit
set_option linter.unusedVariables false
set_option linter.unusedSimpArgs false
section
variable {P : Program} {env : Nat → AV} {H : Nat → Option Blk} {d : Option Tmp} {ty : TypeId} {pos : String} {af : Array Edge} {g : Option (Nat × Bool)} {t : TypeId} {x y : Operand}
theorem p_index_arr {n e sz j o : Nat} [hT : ArT P t n e sz] {k : IntKind} {a : Int} {m : Nat} (hx : evA env x = .pt j o) (hy : evA env y = .r (.v (.int k a))) (ha : a = (m : Int)) (hm : m < n) :
    ReadOk P ⟨d, .indexAddr t x y, ty, pos, af, g⟩ env H [] (.pt j (o + m * sz)) := by
  subst ha
  refine ⟨fun i b h => by simp at h, fun i hi => ids_ev hx i (by simpa [AV.ids] using hi), fun ac w Z M hr _ => ?_⟩
  have h1 := hr x (by simp [Op.operands])
  have h2 := ev_v hy (hr y (by simp [Op.operands]))
  rw [hx, AV.rep] at h1
  obtain ⟨b, e1, e2⟩ := h1
  obtain ⟨tu, ts⟩ := ArT.und (P := P) (t := t) (n := n) (e := e) (sz := sz)
  have te : P.elem t = e := by simp [Program.elem, tu]
  have tl : P.arrayLen t = n := by simp [Program.arrayLen, tu]
  have hs : (sizeOf (P.elem t)).run P w = .ok sz w := by
    rw [te]
    cases hi : P.info? e with
    | none => rw [hi] at ts; cases ts
    | some i => rw [hi] at ts; simp at ts; simp [sizeOf, typeInfo, hi, ts]
  have := run_indexAt_array (P := P) w t ⟨b, o, none⟩ k (m : Int) (by rw [te, tl]; exact tu)
  rw [if_pos ⟨by omega, by rw [tl]; omega⟩, hs] at this
  refine ⟨.pointer (some ⟨b, o + m * sz, none⟩), ?_, by rw [AV.rep]; exact ⟨b, e1, rfl⟩⟩
  simp only [execOp, h2, e2, Sem.run_bind, this, Result.andThen_ok, Int.toNat_natCast]
  simp [add_mid]
end
section
variable {P : Program} {ty : TypeId} {pos : String} {af : Array Edge} {g : Option (Nat × Bool)} {t : TypeId} {o : Option Tmp} {HF : Nat → Option Blk} {k : Nat} {E : List (Nat × AV)}
/-- []*T{&x, &y}: two pointers into variables. -/
theorem m_bslice2p {e b i j p q : Nat} [hT : SlT P t e 1 b] {x y : Operand} (hx : evA (get E) x = .pt i p) (hy : evA (get E) y = .pt j q) :
    MakeOk P ⟨o, .buildSlice t 2 #[(0, x), (1, y)], ty, pos, af, g⟩ (get E) HF [] k (.sv k 2) (.var e [.pt i p, .pt j q]) := by
  refine ⟨fun i' b' h => by simp at h, by simp [AV.ids], fun i' hi' => ?_, fun a w Z M hM hr hh => ?_⟩
  · simp only [Blk.ids, AV.idss, AV.ids, List.append_nil, List.cons_append, List.nil_append, List.mem_cons, List.not_mem_nil, or_false] at hi'
    rcases hi' with rfl | rfl
    · rcases ids_ev hx i' (by simp [AV.ids]) with h | ⟨_, _, h, _⟩
      · exact .inl h
      · simp at h
    · rcases ids_ev hy i' (by simp [AV.ids]) with h | ⟨_, _, h, _⟩
      · exact .inl h
      · simp at h
  · have h1 := hr x (by simp [Op.operands])
    have h2 := hr y (by simp [Op.operands])
    rw [hx, AV.rep] at h1
    rw [hy, AV.rep] at h2
    obtain ⟨b1, f1, f2⟩ := h1
    obtain ⟨b2, f3, f4⟩ := h2
    obtain ⟨ti, z, t1, t2, t3, t4, t5⟩ := SlT.inf (P := P) (t := t) (e := e) (sz := 1) (b := b)
    have tu := SlT.und (P := P) (t := t) (e := e) (sz := 1) (b := b)
    have hrun : (Instr.buildSlice t 2 #[(0, .pointer (some ⟨b1, p, none⟩)), (1, .pointer (some ⟨b2, q, none⟩))]).run P w = .ok (.slice (some ⟨w.heap.size, 0, none⟩) 2 2) (w.alloc (.cells #[.pointer (some ⟨b1, p, none⟩), .pointer (some ⟨b2, q, none⟩)] e)) := by
      refine run_buildSlice w t e 2 _ _ ti z tu t1 t2 (by rw [t3]; omega) (by rw [t3]; decide) ?_
      rw [t3]
      have := Great.fill_whole (s := 1) (by decide) [.pointer (some ⟨b1, p, none⟩), .pointer (some ⟨b2, q, none⟩)] (Array.map (fun x => z.cells[x % z.cells.size]!) (Array.range 2)) (by intro v hv; simp at hv; rcases hv with rfl | rfl <;> rfl) (by simp)
      simpa [Value.cells] using this
    have hex : (execOp a.eval ⟨o, .buildSlice t 2 #[(0, x), (1, y)], ty, pos, af, g⟩).run P w = .ok (.value (.slice (some ⟨w.heap.size, 0, none⟩) 2 2)) (w.alloc (.cells #[.pointer (some ⟨b1, p, none⟩), .pointer (some ⟨b2, q, none⟩)] e)) := by
      simp only [execOp, List.map_toArray, List.map_cons, List.map_nil, f2, f4, Sem.run_bind, hrun, Result.andThen_ok, Sem.run_pure]
    refine ⟨_, .pointer (some ⟨w.heap.size, 0, none⟩), _, hex, (Below.refl _ _).alloc (Nat.le_refl _) _, fun r hr => by simp [blk] at hr; omega, fun Z' hz' hzo => ⟨by rw [AV.rep, hz']; exact ⟨_, rfl, rfl⟩, fun hids => ?_⟩⟩
    have hzi : Z' i = Z i := hzo i (hids i (by simp [Blk.ids, AV.idss, AV.ids]))
    have hzj : Z' j = Z j := hzo j (hids j (by simp [Blk.ids, AV.idss, AV.ids]))
    refine ⟨w.heap.size, #[.pointer (some ⟨b1, p, none⟩), .pointer (some ⟨b2, q, none⟩)], hz', heap_new _ _, ?_, by simp [Value.oneCell']⟩
    simp only [AV.reps, AV.rep, hzi, hzj]
    exact ⟨_, _, rfl, ⟨b1, f1, rfl⟩, _, _, rfl, ⟨b2, f3, rfl⟩, rfl⟩
end
theorem Rt.ag5 {H : Nat → Option Blk} {L : Nat} {G : List Nat} {k1 k2 k3 k4 k5 : IntKind} {a b c d e a' b' c' d' e' : Int} (h1 : a = a') (h2 : b = b') (h3 : c = c') (h4 : d = d') (h5 : e = e') :
    Rt H L G (.ag [.r (.v (.int k1 a)), .r (.v (.int k2 b)), .r (.v (.int k3 c)), .r (.v (.int k4 d)), .r (.v (.int k5 e))]) (.ag [.r (.v (.int k1 a')), .r (.v (.int k2 b')), .r (.v (.int k3 c')), .r (.v (.int k4 d')), .r (.v (.int k5 e'))]) ([] ++ ([] ++ ([] ++ ([] ++ ([] ++ []))))) := by
  subst h1 h2 h3 h4 h5
  exact .ag _ _ _ (.cons _ _ _ _ [] [] (.r _) (.cons _ _ _ _ [] [] (.r _) (.cons _ _ _ _ [] [] (.r _) (.cons _ _ _ _ [] [] (.r _) (.cons _ _ _ _ [] [] (.r _) .nil)))))
theorem ret3c {post : List (Option Blk)} {P : Program} {L : Ln} {fn : Func} {S : St} {r s q y z : AV} {cs : List AV} {p u v ty i n : Nat} {T : TypeId} {F F' F'' : List Nat} [hT : AgT P ty n] (G : List Nat) (hrt : Rt (getH S.H) L.n G (.ag cs) r F) (hrs : Rt (getH S.H) L.n G y s F') (hrq : Rt (getH S.H) L.n G z q F'') (hres : fn.results = #[.cell p ty, .tmp u, .tmp v]) (hp : get S.env p = .pt i 0) (hi : getH S.H i = some (.var T cs)) (hl : cs.length = n) (hy : get S.env u = y) (hz : get S.env v = z)
    (hpo : ∀ i b, (i, some b) ∈ numdP 0 post → getH S.H i = some b ∧ b.ids = []) (hn : retNums L (F ++ (F' ++ (F'' ++ []))) G = true) : (Exit.ret = .normal ∨ Exit.ret = .ret) ∧ RetOk P L fn S (.tu [r, s, q]) post := by
  obtain ⟨d, h1, h2⟩ := hT.und
  refine ⟨.inr rfl, ⟨⟨.tu [.ag cs, y, z], _, G, .three _ _ _ _ _ _ hres (.agg _ _ _ _ _ _ hp hi h1 h2 ?_) (.tmp _ _ hy) (.tmp _ _ hz), .tu _ _ _ (.cons _ _ _ _ _ _ hrt (.cons _ _ _ _ _ _ hrs (.cons _ _ _ _ _ _ hrq .nil))), hn⟩, hpo⟩⟩
  rw [hT.size, hl]
end Go.Ab

/- The second layer: slices of arrays that are variables; an element of an array; arrays of numbers compared; copies between variables. No conditions. -/
namespace Go.Ab
open Go.RowKit
set_option linter.unusedVariables false
set_option linter.unusedSimpArgs false
section
variable {P : Program} {env : Nat → AV} {H : Nat → Option Blk} {d : Option Tmp} {ty : TypeId} {pos : String} {af : Array Edge} {g : Option (Nat × Bool)} {t : TypeId} {x y : Operand}
theorem arr_facts {n e sz : Nat} [hT : ArT P t n e sz] : P.underlying t = some (.array (P.arrayLen t) (P.elem t)) ∧ P.arrayLen t = n ∧ P.elem t = e ∧ ∀ w, (sizeOf (P.elem t)).run P w = .ok sz w := by
  obtain ⟨tu, ts⟩ := ArT.und (P := P) (t := t) (n := n) (e := e) (sz := sz)
  have te : P.elem t = e := by simp [Program.elem, tu]
  have tl : P.arrayLen t = n := by simp [Program.arrayLen, tu]
  refine ⟨by rw [te, tl]; exact tu, tl, te, fun w => ?_⟩
  rw [te]
  exact run_sizeOf ts w
theorem so_addr (b o l s : Nat) : (⟨b, o, none⟩ : Addr).add (l * s) = ⟨b, o + l * s, none⟩ := by simp [add_mid]
/-- x[:] of an array. -/
theorem p_arr_all {n e sz j o : Nat} [hT : ArT P t n e sz] (hx : evA env x = .pt j o) : ReadOk P ⟨d, .slice t x none none none, ty, pos, af, g⟩ env H [] (.so j o n n) := by
  refine ⟨fun i b h => by simp at h, fun i hi => ids_ev hx i (by simpa [AV.ids] using hi), fun ac w Z M hr _ => ?_⟩
  have h1 := hr x (by simp [Op.operands])
  rw [hx, AV.rep] at h1
  obtain ⟨b, e1, e2⟩ := h1
  obtain ⟨a1, a2, a3, a4⟩ := arr_facts (P := P) (t := t) (n := n) (e := e) (sz := sz)
  have := run_sliceAt_array_all (P := P) w t ⟨b, o, none⟩ a1
  rw [a4] at this
  refine ⟨.slice (some ⟨b, o, none⟩) n n, ?_, by rw [AV.rep]; exact ⟨b, e1, rfl⟩⟩
  simp only [execOp, e2, Option.map_none, Sem.run_bind, this, Result.andThen_ok]
  simp [slicedAt, a2]
  intro _; simp [add_mid]
/-- x[:h] of an array. -/
theorem p_arr_h {n e sz j o h : Nat} [hT : ArT P t n e sz] {k : IntKind} {a : Int} (hx : evA env x = .pt j o) (hy : evA env y = .r (.v (.int k a))) (ha : a = (h : Int)) (hh : h ≤ n) : ReadOk P ⟨d, .slice t x none (some y) none, ty, pos, af, g⟩ env H [] (.so j o h n) := by
  subst ha
  refine ⟨fun i b h => by simp at h, fun i hi => ids_ev hx i (by simpa [AV.ids] using hi), fun ac w Z M hr _ => ?_⟩
  have h1 := hr x (by simp [Op.operands])
  have h2 := ev_v hy (hr y (by simp [Op.operands]))
  rw [hx, AV.rep] at h1
  obtain ⟨b, e1, e2⟩ := h1
  obtain ⟨a1, a2, a3, a4⟩ := arr_facts (P := P) (t := t) (n := n) (e := e) (sz := sz)
  have := run_sliceAt_array_h (P := P) w t ⟨b, o, none⟩ a1 k (h : Int) (by omega) (by omega)
  rw [a4] at this
  refine ⟨.slice (some ⟨b, o, none⟩) h n, ?_, by rw [AV.rep]; exact ⟨b, e1, rfl⟩⟩
  simp only [execOp, e2, h2, Option.map_none, Option.map_some, Sem.run_bind, this, Result.andThen_ok]
  simp [slicedAt, a2]
  intro _; simp [add_mid]
/-- x[l:] of an array. -/
theorem p_arr_l {n e sz j o l : Nat} [hT : ArT P t n e sz] {k : IntKind} {a : Int} (hx : evA env x = .pt j o) (hy : evA env y = .r (.v (.int k a))) (ha : a = (l : Int)) (hl : l < n) : ReadOk P ⟨d, .slice t x (some y) none none, ty, pos, af, g⟩ env H [] (.so j (o + l * sz) (n - l) (n - l)) := by
  subst ha
  refine ⟨fun i b h => by simp at h, fun i hi => ids_ev hx i (by simpa [AV.ids] using hi), fun ac w Z M hr _ => ?_⟩
  have h1 := hr x (by simp [Op.operands])
  have h2 := ev_v hy (hr y (by simp [Op.operands]))
  rw [hx, AV.rep] at h1
  obtain ⟨b, e1, e2⟩ := h1
  obtain ⟨a1, a2, a3, a4⟩ := arr_facts (P := P) (t := t) (n := n) (e := e) (sz := sz)
  have := run_sliceAt_array_l (P := P) w t ⟨b, o, none⟩ a1 k (l : Int) (by omega) (by omega)
  rw [a4] at this
  refine ⟨.slice (some ⟨b, o + l * sz, none⟩) (n - l) (n - l), ?_, by rw [AV.rep]; exact ⟨b, e1, rfl⟩⟩
  simp only [execOp, e2, h2, Option.map_none, Option.map_some, Sem.run_bind, this, Result.andThen_ok]
  have : ¬ n = l := by omega
  simp [slicedAt, a2, this, add_mid]
/-- A slice of an array as a pointer to an array. -/
theorem p_arr_ptr {n e sz j o m c : Nat} [hT : ArT P t n e sz] (hx : evA env x = .so j o m c) (hm : n ≤ m) : ReadOk P ⟨d, .sliceToArrayPointer t x, ty, pos, af, g⟩ env H [] (.pt j o) := by
  refine ⟨fun i b h => by simp at h, fun i hi => ids_ev hx i (by simpa [AV.ids] using hi), fun ac w Z M hr _ => ?_⟩
  have h1 := hr x (by simp [Op.operands])
  rw [hx, AV.rep] at h1
  obtain ⟨b, e1, e2⟩ := h1
  obtain ⟨a1, a2, a3, a4⟩ := arr_facts (P := P) (t := t) (n := n) (e := e) (sz := sz)
  refine ⟨.pointer (some ⟨b, o, none⟩), ?_, by rw [AV.rep]; exact ⟨b, e1, rfl⟩⟩
  have : ¬ m < n := by omega
  simp [execOp, e2, Instr.arrayAt, run_underlying a1, a2, this]
/-- An element of an array that is a value. -/
theorem p_index_ag {n e j : Nat} [hT : ArT P t n e 1] [hO : OnT P e] {cs : List AV} {out : AV} {k : IntKind} {a : Int} (hx : evA env x = .ag cs) (hy : evA env y = .r (.v (.int k a))) (ha : a = (j : Int)) (hj : j < n) (hc : cs[j]? = some out) : ReadOk P ⟨d, .index t x y, ty, pos, af, g⟩ env H [] out := by
  subst ha
  refine ⟨fun i b h => by simp at h, fun i hi => ids_ev hx i (by rw [AV.ids]; exact idss_mem (List.mem_of_getElem? hc) hi), fun ac w Z M hr _ => ?_⟩
  have h1 := hr x (by simp [Op.operands])
  have h2 := ev_v hy (hr y (by simp [Op.operands]))
  rw [hx, AV.rep] at h1
  obtain ⟨us, e1, e2⟩ := h1
  obtain ⟨a1, a2, a3, a4⟩ := arr_facts (P := P) (t := t) (n := n) (e := e) (sz := 1)
  obtain ⟨u, h7, h8⟩ := AV.reps_get e2 hc
  refine ⟨u, ?_, h8⟩
  obtain ⟨D, hu, hD⟩ := OnT.und (P := P) (t := e)
  have h7' : us[j]? = some u := by simpa using h7
  have hag : (isAgg e).run P w = .ok false w := by
    simp only [isAgg, Sem.run_bind, run_underlying hu, Result.andThen_ok, Sem.run_pure]
    cases D <;> first | rfl | (cases hD)
  rw [a3] at a1 a4
  have hp : (part e us j).run P w = .ok u w := by
    simp only [part, Sem.run_bind, hag, Result.andThen_ok, Bool.false_eq_true, if_false, h7', Sem.run_pure]
  have hi : (Instr.index t (.agg us) (.int k (j : Int))).run P w = .ok u w := by
    have hjn : (0 : Int) ≤ (j : Int) ∧ (j : Int) < (P.arrayLen t : Nat) := by rw [a2]; omega
    simp only [Instr.index, asIntOf, Sem.run_bind, Sem.run_pure, run_underlying a1, Result.andThen_ok]
    rw [if_pos hjn]
    simp only [Sem.run_bind, a4, Result.andThen_ok, Int.toNat_natCast, Nat.mul_one, hp]
  simp only [execOp, e1, h2, Sem.run_bind, hi, Result.andThen_ok, Sem.run_pure]
end
class EqAr (P : Program) (t : Nat) : Prop where ok : P.eqGuardType P.depth t = false
theorem run_eqItems_nums {P : Program} {Z : Nat → Value} {B : Nat → Prop} {w : World} (d : Nat) {e : TypeId} {k : IntKind} (he : P.underlying e = some (.int k)) (xs ys : Array Value) : ∀ (as bs : List AV) (j : Nat), okA as bs = true → AV.reps Z B w as (xs.toList.drop j) → AV.reps Z B w bs (ys.toList.drop j) →
    (Op.eqItems (d + 1) e 1 xs ys (List.range' j as.length)).run P w = .ok (eqA as bs) w
  | [], bs, j, ho, _, _ => by
    cases bs with
    | nil => rfl
    | cons b bs => simp [okA] at ho
  | a :: as, bs, j, ho, hx, hy => by
    cases bs with
    | nil => unfold okA at ho; split at ho <;> simp_all
    | cons b bs =>
      unfold okA at ho
      split at ho
      · simp_all
      · rename_i k1 m as' k2 m' bs' e1 e2
        injection e1 with e1 e1'
        injection e2 with e2 e2'
        subst e1 e2 e1' e2'
        rw [AV.reps] at hx hy
        obtain ⟨u, us, g1, g2, g3⟩ := hx
        obtain ⟨v, vs, g4, g5, g6⟩ := hy
        rw [AV.rep, RV.rep] at g2 g5
        subst g2 g5
        have hd : ∀ (l : List Value) (x : Value) (xs : List Value), l.drop j = x :: xs → l[j]? = some x ∧ l.drop (j + 1) = xs := by
          intro l x xs h
          refine ⟨?_, ?_⟩
          · have := congrArg (fun l => l[0]?) h
            simpa using this
          · rw [← List.drop_drop, h]; rfl
        obtain ⟨hx1, hx2⟩ := hd _ _ _ g1
        obtain ⟨hy1, hy2⟩ := hd _ _ _ g4
        rw [Bool.and_eq_true, decide_eq_true_eq] at ho
        obtain ⟨hk, ho⟩ := ho
        subst hk
        have ih := run_eqItems_nums d he xs ys as bs (j + 1) ho (by rw [hx2]; exact g3) (by rw [hy2]; exact g6)
        have p1 : (part e xs (j * 1)).run P w = .ok (.int k1 m) w := run_part_int he (by rw [Nat.mul_one, ← Array.getElem?_toList]; exact hx1) w
        have p2 : (part e ys (j * 1)).run P w = .ok (.int k1 m') w := run_part_int he (by rw [Nat.mul_one, ← Array.getElem?_toList]; exact hy1) w
        have p3 := run_equalIn_int w d e k1 k m m' he
        rw [List.length_cons, List.range'_succ]
        simp only [Op.eqItems, Sem.run_bind, p1, p2, p3, Result.andThen_ok, eqA]
        by_cases hmm : m = m'
        · subst hmm; simp [ih]
        · simp [hmm]
      · simp_all
section
variable {P : Program} {env : Nat → AV} {H : Nat → Option Blk} {d : Option Tmp} {ty : TypeId} {pos : String} {af : Array Edge} {g : Option (Nat × Bool)}
variable {t u : TypeId} {x y : Operand}
theorem p_eqarr {n e : Nat} {k : IntKind} [hT : ArT P t n e 1] [hI : ItT P e k] [hE : EqAr P t] {as bs : List AV} (hx : evA env x = .ag as) (hy : evA env y = .ag bs) (ho : okA as bs = true) (hl : as.length = n) : ReadOk P ⟨d, .binOp .eql t x y u, ty, pos, af, g⟩ env H [] (.r (.v (.bool (decide (eqA as bs = true))))) := by
  refine ⟨fun i b h => mem_nil h, fun i hi => by simp [AV.ids] at hi, fun a w Z M hr _ => ?_⟩
  have h1 := hr x (by simp [Op.operands])
  have h2 := hr y (by simp [Op.operands])
  rw [hx, AV.rep] at h1
  rw [hy, AV.rep] at h2
  obtain ⟨us, e1, h3⟩ := h1
  obtain ⟨vs, e2, h4⟩ := h2
  obtain ⟨tu, ts⟩ := ArT.und (P := P) (t := t) (n := n) (e := e) (sz := 1)
  refine ⟨.bool (eqA as bs), ?_, by rw [AV.rep, RV.rep]; simp⟩
  have k1 : (eqGuard .eql t x y (.agg us) (.agg vs)).run P w = .ok () w := run_eqGuard_agg w .eql t x y us vs hE.ok
  obtain ⟨i, hi, hi1⟩ : ∃ i, P.info? e = some i ∧ i.size = 1 := by
    cases hq : P.info? e with
    | none => rw [hq] at ts; cases ts
    | some i => rw [hq] at ts; exact ⟨i, rfl, by simpa using ts⟩
  have hc : P.cellsOf e = 1 := by simp [Program.cellsOf, hi, hi1]
  have k2 := run_eqItems_nums (P := P) (w := w) 9998 hI.ok us vs as bs 0 ho h3 h4
  have k3 := run_equalIn_array (P := P) (w := w) 9999 us vs tu hi
  rw [hc, ← hl, List.range_eq_range', k2] at k3
  simp only [execOp, e1, e2, Sem.run_bind, k1, Result.andThen_ok, run_eql_struct, k3, Sem.run_pure]
theorem p_neqarr {n e : Nat} {k : IntKind} [hT : ArT P t n e 1] [hI : ItT P e k] [hE : EqAr P t] {as bs : List AV} (hx : evA env x = .ag as) (hy : evA env y = .ag bs) (ho : okA as bs = true) (hl : as.length = n) : ReadOk P ⟨d, .binOp .neq t x y u, ty, pos, af, g⟩ env H [] (.r (.v (.bool (decide (¬ eqA as bs = true))))) := by
  refine ⟨fun i b h => mem_nil h, fun i hi => by simp [AV.ids] at hi, fun a w Z M hr _ => ?_⟩
  have h1 := hr x (by simp [Op.operands])
  have h2 := hr y (by simp [Op.operands])
  rw [hx, AV.rep] at h1
  rw [hy, AV.rep] at h2
  obtain ⟨us, e1, h3⟩ := h1
  obtain ⟨vs, e2, h4⟩ := h2
  obtain ⟨tu, ts⟩ := ArT.und (P := P) (t := t) (n := n) (e := e) (sz := 1)
  refine ⟨.bool (!eqA as bs), ?_, by rw [AV.rep, RV.rep]; simp⟩
  have k1 : (eqGuard .neq t x y (.agg us) (.agg vs)).run P w = .ok () w := run_eqGuard_agg w .neq t x y us vs hE.ok
  obtain ⟨i, hi, hi1⟩ : ∃ i, P.info? e = some i ∧ i.size = 1 := by
    cases hq : P.info? e with
    | none => rw [hq] at ts; cases ts
    | some i => rw [hq] at ts; exact ⟨i, rfl, by simpa using ts⟩
  have hc : P.cellsOf e = 1 := by simp [Program.cellsOf, hi, hi1]
  have k2 := run_eqItems_nums (P := P) (w := w) 9998 hI.ok us vs as bs 0 ho h3 h4
  have k3 := run_equalIn_array (P := P) (w := w) 9999 us vs tu hi
  rw [hc, ← hl, List.range_eq_range', k2] at k3
  simp only [execOp, e1, e2, Sem.run_bind, k1, Result.andThen_ok, run_neq_struct, k3, Sem.run_pure]
end
section
variable {P : Program} {L : Ln} {N : Nat} {ops : Array Oper} {chk : List (Nat × Sp) → Bool} {Q : St → Prop} {E : List (Nat × AV)} {H : List (Nat × Option Blk)} {n : Nat} {tr : List (Nat × Sp)} {l : List Oper}
variable {ty : TypeId} {pos : String} {af : Array Edge} {g : Option (Nat × Bool)} {t t' : TypeId} {x y : Operand} {d : Nat}
/-- copy of words from one variable into another. -/
theorem w_copy {i j o m c o2 m2 c2 T T2 e b q : Nat} {cs ds vs : List AV} [hT : SlT P t e 1 b] (hx : evA (get E) x = .so i o m c) (hy : evA (get E) y = .so j o2 m2 c2) (hH : getH H i = some (.var T cs)) (hJ : getH H j = some (.var T2 ds)) (hij : Nat.beq i j = false)
    (hq : Nat.min m2 m = q) (hvs : (ds.drop o2).take q = vs) (hvl : vs.length = q) (h1 : onesB vs = true) (hn : Nat.ble (o + q) cs.length = true)
    (hd : Nat.blt d N = true) (hg : Wanted ops (get E) ⟨some d, .call { callee := .builtin .copy, args := #[x, y], argTypes := #[t, t'] }, ty, pos, af, g⟩ true)
    (h : wpA P L N ops chk Q l ⟨(d, .r (.v (.int .i64 q))) :: E, (i, some (.var T (setA cs o vs))) :: H, n⟩ ((n, ⟨true, [(i, .var T cs), (j, .var T2 ds)], .r (.v (.int .i64 q)), [(i, some (.var T (setA cs o vs)))], []⟩) :: tr)) :
    wpA P L N ops chk Q (⟨some d, .call { callee := .builtin .copy, args := #[x, y], argTypes := #[t, t'] }, ty, pos, af, g⟩ :: l) ⟨E, H, n⟩ tr := by
  have hn := ble_t.1 hn
  have hij : i ≠ j := fun e => by subst e; simp at hij
  refine ⟨⟨true, [(i, .var T cs), (j, .var T2 ds)], .r (.v (.int .i64 q)), [(i, some (.var T (setA cs o vs)))], []⟩, ⟨(fun x hx => by injection hx with hx; subst hx; exact blt_t.1 hd), hg, fun _ ac w Z M hM hr hh hdist => ?_, (fun h => by cases h), fun D hD hDH hf => ?_⟩, h⟩
  · have hxr : (evA (get E) x).rep Z M w (ac.eval x) := hr x (by simp [Op.operands, Call.operands])
    have hyr : (evA (get E) y).rep Z M w (ac.eval y) := hr y (by simp [Op.operands, Call.operands])
    rw [hx, AV.rep] at hxr
    rw [hy, AV.rep] at hyr
    obtain ⟨b1, hb1, ex⟩ := hxr
    obtain ⟨b2, hb2, ey⟩ := hyr
    obtain ⟨hheld, hMi⟩ := hh i (.var T cs) (by simp)
    obtain ⟨hheld2, hMj⟩ := hh j (.var T2 ds) (by simp)
    obtain ⟨b1', us, h2, h4, h5, h6⟩ := hheld
    obtain ⟨b2', us2, k2, k4, k5, k6⟩ := hheld2
    rw [h2] at hb1; simp only [blk, Option.some.injEq] at hb1; subst hb1
    rw [k2] at hb2; simp only [blk, Option.some.injEq] at hb2; subst hb2
    have hvr := reps_take' q (reps_drop' o2 k5)
    rw [hvs] at hvr
    generalize hnews : (us2.toList.drop o2).take q = news at hvr
    have hnl : news.length = q := by rw [← AV.reps_len hvr, hvl]
    have hlen := AV.reps_len h5
    simp only [Array.length_toList] at hlen
    have hall : news.all (·.oneCell') = true := by
      rw [List.all_eq_true]
      intro u hu
      rw [← hnews] at hu
      have := List.mem_of_mem_drop (List.mem_of_mem_take hu)
      rw [all_arr, List.all_eq_true] at k6
      exact k6 u this
    obtain ⟨w', us', h7, h8, h9, h10⟩ := run_stores (P := P) (b := b1') (o := o) (T := T) news 0 us w h4 (by omega) hall
    have hld := run_loadCells_list (P := P) w ⟨b2', o2, none⟩ news (fun k v hk => by
      rw [add_mid, cell_of_row w b2' _ us2 T2 (0, 0) k4]
      rw [← hnews, List.getElem?_take] at hk
      split at hk
      · rw [List.getElem?_drop] at hk; simpa using hk
      · cases hk)
    have hun := SlT.und (P := P) (t := t) (e := e) (sz := 1) (b := b)
    obtain ⟨ti, z, t1, t2, t3, t4, t5⟩ := SlT.inf (P := P) (t := t) (e := e) (sz := 1) (b := b)
    have hcp : (Builtin.copy_ #[t, t'] ty #[.slice (some ⟨b1', o, none⟩) m c, .slice (some ⟨b2', o2, none⟩) m2 c2]).run P w = .ok (goInt q) w' := by
      rw [hnl] at hld
      simp [Builtin.copy_, run_underlying hun, Builtin.lenOf, Builtin.firstCells, sizeOf, typeInfo, t1, t3, hq, hld, h7]
    have hex : (execOp ac.eval ⟨some d, .call { callee := .builtin .copy, args := #[x, y], argTypes := #[t, t'] }, ty, pos, af, g⟩).run P w = .ok (.value (goInt q)) w' := by
      simp only [execOp, resolve, invoke, builtin, Sem.run_bind, Sem.run_pure, Result.andThen_ok, List.map_toArray, List.map_cons, List.map_nil, ex, ey, hcp]
    have hU : Upto M w w' := h10.mono fun q _ hq => by subst hq; exact hMi _ (by rw [h2]; rfl)
    have hNew : ∀ p, New n ⟨true, [(i, .var T cs), (j, .var T2 ds)], .r (.v (.int .i64 q)), [(i, some (.var T (setA cs o vs)))], []⟩ Z M p → M p := fun p hp => new_nil rfl hp
    refine exec_value hex ⟨Z, fun _ _ => rfl, by rw [AV.rep, RV.rep]; rfl, fun i' c' hi => ?_, fun j' b' h => by simp at h, fun j' j'' x' h => by simp at h, fun j' x' h => by simp at h, ?_⟩
    · simp only [List.mem_cons, List.not_mem_nil, or_false, Prod.mk.injEq, Option.some.injEq] at hi
      obtain ⟨rfl, rfl⟩ := hi
      refine ⟨b1', us', h2, h8, ?_, ?_⟩
      · rw [h9, Nat.add_zero]
        have m1 := AV.reps_mono hU (fun q _ hq => hNew q hq) cs (fun _ _ => rfl) _ h5
        have m2 := AV.reps_mono hU (fun q _ hq => hNew q hq) vs (fun _ _ => rfl) _ hvr
        unfold setA
        rw [hnl, ← hvl]
        exact reps_append (reps_append (reps_take o m1) m2) (reps_drop _ m1)
      · rw [all_arr, h9]
        unfold setA
        rw [all_arr] at h6
        rw [List.all_append, List.all_append, hall]
        simp only [List.all_eq_true] at h6 ⊢
        simp only [Bool.and_true, Bool.and_eq_true, List.all_eq_true]
        exact ⟨fun u hu => h6 u (List.mem_of_mem_take hu), fun u hu => h6 u (List.mem_of_mem_drop hu)⟩
    · refine h10.mono fun p _ hp => ?_
      subst hp
      exact ⟨i, some (.var T (setA cs o vs)), by simp, by rw [h2]; rfl⟩
  · refine ⟨fun i' b' hb => ?_, fun i' o' ho => ?_, fun i' o' ho => ?_, fun i' ho => ?_, hf, fun i' hi => by simp [AV.ids] at hi, fun b h => by simp at h, fun i' b' hb i'' hi' => .inl ?_⟩
    · simp only [List.mem_cons, List.not_mem_nil, or_false, Prod.mk.injEq] at hb
      rcases hb with ⟨rfl, rfl⟩ | ⟨rfl, rfl⟩
      · exact hH
      · exact hJ
    · simp only [List.mem_cons, List.not_mem_nil, or_false, Prod.mk.injEq] at ho
      obtain ⟨rfl, rfl⟩ := ho
      exact ⟨.var T cs, by simp⟩
    · simp only [List.mem_cons, List.not_mem_nil, or_false, Prod.mk.injEq] at ho
      obtain ⟨rfl, rfl⟩ := ho
      exact by simp [List.lookup_cons]
    · simp at ho
    · simp only [List.mem_cons, List.not_mem_nil, or_false, Prod.mk.injEq, Option.some.injEq] at hb
      obtain ⟨rfl, rfl⟩ := hb
      rw [Blk.ids, setA, idss_mem_iff] at hi'
      obtain ⟨c', hc, hci⟩ := hi'
      rw [List.mem_append, List.mem_append] at hc
      rcases hc with (hc | hc) | hc
      · exact (hDH _ _ hH).2 i'' (idss_mem (List.mem_of_mem_take hc) hci)
      · refine (hDH _ _ hJ).2 i'' (idss_mem ?_ hci)
        rw [← hvs] at hc
        exact List.mem_of_mem_drop (List.mem_of_mem_take hc)
      · exact (hDH _ _ hH).2 i'' (idss_mem (List.mem_of_mem_drop hc) hci)
end
/-- Words as cells. -/
def wv (l : List Nat) : List AV := l.map fun (a : Nat) => .r (.v (.int .u64 (a : Int)))
theorem wv_get {l : List Nat} {i : Nat} (h : i < l.length) : (wv l)[i]? = some (.r (.v (.int .u64 (l.getD i 0 : Nat)))) := by
  unfold wv; simp [h]
theorem wv_len (l : List Nat) : (wv l).length = l.length := by unfold wv; simp
theorem wv_set (l : List Nat) (i v : Nat) (h : i < l.length) : setA (wv l) i [.r (.v (.int .u64 (v : Int)))] = wv (l.set i v) := by
  unfold setA wv
  apply List.ext_getElem?
  intro k
  rcases Nat.lt_trichotomy k i with hk | hk | hk
  · have hkl : k < l.length := by omega
    simp [List.getElem?_append, List.getElem?_take, List.getElem?_set, hk, Nat.min_eq_left (Nat.le_of_lt h), show ¬ i = k by omega, hkl]
  · subst hk
    simp [List.getElem?_append, List.getElem?_take, List.getElem?_set, h, Nat.min_eq_left (Nat.le_of_lt h)]
  · obtain ⟨q, rfl⟩ : ∃ q, k = i + 1 + q := ⟨k - (i + 1), by omega⟩
    have : i ≠ i + 1 + q := by omega
    have e : i + 1 + q - i = q + 1 := by omega
    simp [List.getElem?_append, List.getElem?_take, List.getElem?_set, h, Nat.min_eq_left (Nat.le_of_lt h), this, show ¬ i + 1 + q < i by omega, e]
theorem idss_wv : ∀ (l : List Nat), AV.idss (wv l) = []
  | [] => by rw [wv, List.map_nil, AV.idss]
  | a :: l => by
    have ih := idss_wv l
    unfold wv at ih ⊢
    rw [List.map_cons, AV.idss, ih]; simp [AV.ids]
theorem cfl_wv {H : Nat → Option Blk} {ρ : Nat → Nat} {G : List Nat} : ∀ (l : List Nat), CfL H ρ G (wv l) (wv l)
  | [] => .nil
  | a :: l => .cons _ _ _ _ (.r _) (cfl_wv l)
theorem cfl_wve {H : Nat → Option Blk} {ρ : Nat → Nat} {G : List Nat} {cs : List AV} {l : List Nat} (h : cs = wv l) : CfL H ρ G cs (wv l) := by rw [h]; exact cfl_wv l
theorem le_ag {S : St} {ρ : Nat → Nat} {G : List Nat} {l : List (Nat × AV)} {t : Nat} {cs ds : List AV} (h : eLe S ρ G l) (hc : CfL S.HF ρ G cs ds) (hx : get S.env t = .ag cs) : eLe S ρ G ((t, .ag ds) :: l) := by
  refine ⟨?_, h⟩
  rw [show S.envF t = .ag cs from hx]
  exact .ag _ _ hc
section
variable {P : Program} {L : Ln} {N : Nat} {ops : Array Oper} {chk : List (Nat × Sp) → Bool} {Q : St → Prop} {S : St} {tr : List (Nat × Sp)} {l : List Oper} {d : Option Tmp} {ty : TypeId} {pos : String} {af : Array Edge} {g : Option (Nat × Bool)}
theorem is_s2ap {t : TypeId} {x : Operand} (h : wpA P L N ops chk Q (⟨d, .sliceToArrayPointer t x, ty, pos, af, g⟩ :: l) S tr) : wpA P L N ops chk Q (⟨d, .sliceToArrayPointer t x, ty, pos, af, g⟩ :: l) S tr := h
end
end Go.Ab
