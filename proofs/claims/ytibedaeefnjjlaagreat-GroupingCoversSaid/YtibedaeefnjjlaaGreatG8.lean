/- Texts of the second layer in one: Ab13. -/
import Derived.Test.YtibedaeefnjjlaaGreatG6
import Derived.Test.YtibedaeefnjjlaaGreatG7
import Derived.OwnWalk
/- The second layer: slice literals, appends, cuts, struct literals. No conditions. -/
namespace Go.Ab
open Go.RowKit
set_option linter.unusedVariables false
set_option linter.unusedSimpArgs false

/-- The cells of a value that an element may be. -/
def rvs : AV → Option (List RV)
  | .r c => some [c]
  | .ag cs => cs.mapM fun c => match c with | .r c => some c | _ => none
  | _ => none
def rvOk : RV → Bool
  | .v x => x.oneCell'
  | .sl _ _ => true
theorem rv_one {B : Nat → Prop} {w : World} {c : RV} {u : Value} (h : RV.rep B w c u) (hc : rvOk c = true) : u.oneCell' = true ∧ u.cells = #[u] := by
  cases c with
  | v x => rw [RV.rep] at h; subst h; refine ⟨hc, ?_⟩; simp only [rvOk] at hc; cases u <;> first | rfl | (simp [Value.oneCell'] at hc)
  | sl sz es => rw [RV.rep] at h; obtain ⟨A, c, rfl, _⟩ := h; exact ⟨rfl, rfl⟩
theorem rvs_ag {Z : Nat → Value} {B : Nat → Prop} {w : World} : ∀ (cs : List AV) (e : List RV) (us : List Value), (cs.mapM fun c => match c with | .r c => some c | _ => none) = some e → e.all rvOk = true → AV.reps Z B w cs us → RVs B w e us
  | [], e, us, h, _, hr => by rw [AV.reps] at hr; subst hr; simp at h; subst h; exact .nil
  | c :: cs, e, us, h, ho, hr => by
    rw [AV.reps] at hr
    obtain ⟨u, us', rfl, h1, h2⟩ := hr
    rw [List.mapM_cons] at h
    cases c with
    | r c =>
      cases hm : (cs.mapM fun c => match c with | .r c => some c | _ => none) with
      | none => rw [hm] at h; simp at h
      | some e' =>
        rw [hm] at h
        simp at h
        subst h
        rw [List.all_cons, Bool.and_eq_true] at ho
        rw [AV.rep] at h1
        exact .cons (rv_one h1 ho.1).1 h1 (rvs_ag cs e' us' hm ho.2 h2)
    | _ => simp at h
theorem rvs_rep {Z : Nat → Value} {B : Nat → Prop} {w : World} {a : AV} {e : List RV} {u : Value} (h : rvs a = some e) (ho : e.all rvOk = true) (hr : a.rep Z B w u) : RVs B w e u.cells.toList := by
  cases a with
  | r c =>
    simp only [rvs, Option.some.injEq] at h
    subst h
    rw [AV.rep] at hr
    simp only [List.all_cons, List.all_nil, Bool.and_true] at ho
    obtain ⟨h1, h2⟩ := rv_one hr ho
    rw [h2]
    exact .cons h1 hr .nil
  | ag cs => rw [AV.rep] at hr; obtain ⟨us, rfl, h2⟩ := hr; exact rvs_ag cs e _ h ho h2
  | _ => simp [rvs] at h

section
variable {P : Program} {L : Ln} {N : Nat} {ops : Array Oper} {chk : List (Nat × Sp) → Bool} {Q : St → Prop} {l : List Oper} {E : List (Nat × AV)} {H : List (Nat × Option Blk)} {n : Nat} {tr : List (Nat × Sp)}
variable {d : Nat} {ty : TypeId} {pos : String} {af : Array Edge} {g : Option (Nat × Bool)} {t : TypeId} {x y : Operand}

def elsB (sz : Nat) (es : List (List RV)) : Bool := es.all fun e => Nat.beq e.length sz && e.all rvOk
theorem bslice_core {e sz b : Nat} [hT : SlT P t e sz b] {o : Option Tmp} {m : Nat} (xs : List Operand) {parts : Array (Nat × Operand)} {es : List (List RV)} (hp : parts.toList = xs.zipIdx.map fun p => (p.2, p.1)) (hm : m = xs.length)
    (hes : xs.map (fun x => rvs (evA (get E) x)) = es.map some) (hok : elsB sz es = true) (hsm : Nat.ble (m * sz) 16777216 = true) : ∀ (a : Act) (w : World) (Z : Nat → Value) (M : Nat → Prop), (∀ x ∈ (Op.buildSlice t m parts).operands.toList, (evA (get E) x).rep Z M w (a.eval x)) →
      ∃ us : List Value, (execOp a.eval ⟨o, .buildSlice t m parts, ty, pos, af, g⟩).run P w = .ok (.value (.slice (some ⟨w.heap.size, 0, none⟩) m m)) (w.alloc (.cells us.toArray e)) ∧ RVs M w es.flatten us ∧ us.length = m * sz ∧ es.length = m ∧ (∀ e ∈ es, e.length = sz) ∧ m ≤ m * sz ∧ m * sz ≤ 16777216 := by
  intro a w Z M hr
  have hlen : es.length = xs.length := by have := congrArg List.length hes; simpa using this.symm
  have hr' : ∀ x ∈ xs, (evA (get E) x).rep Z M w (a.eval x) := fun x hx => hr x (by
    show x ∈ ((parts.toList.map (·.2)).toArray).toList
    rw [hp]
    simp only [List.map_map, List.toList_toArray]
    refine List.mem_map.2 ?_
    obtain ⟨i, hi, e⟩ := List.getElem_of_mem hx
    exact ⟨(x, i), by rw [List.mem_iff_getElem?]; exact ⟨i, by simp [hi, e]⟩, rfl⟩)
  unfold elsB at hok
  rw [List.all_eq_true] at hok
  -- each part's cells
  have key : ∀ (xs : List Operand) (es : List (List RV)), (∀ x ∈ xs, (evA (get E) x).rep Z M w (a.eval x)) → xs.map (fun x => rvs (evA (get E) x)) = es.map some → (∀ e ∈ es, (Nat.beq e.length sz && e.all rvOk) = true) →
      RVs M w es.flatten ((xs.map a.eval).flatMap fun v => v.cells.toList) ∧ ∀ v ∈ xs.map a.eval, v.cells.size = sz := by
    intro xs
    induction xs with
    | nil =>
      intro es _ h _
      have : es = [] := by cases es with | nil => rfl | cons e es => simp at h
      subst this
      exact ⟨.nil, by simp⟩
    | cons x xs ih =>
      intro es hx h ho
      cases es with
      | nil => simp at h
      | cons e es =>
        simp only [List.map_cons, List.cons.injEq] at h
        obtain ⟨i1, i2⟩ := ih es (fun y hy => hx y (by simp [hy])) h.2 (fun e he => ho e (by simp [he]))
        have h3 := ho e (by simp)
        rw [Bool.and_eq_true] at h3
        have h4 := rvs_rep h.1 h3.2 (hx x (by simp))
        refine ⟨?_, ?_⟩
        · rw [List.flatten_cons, List.map_cons, List.flatMap_cons]
          exact h4.append i1
        · intro v hv
          rw [List.map_cons, List.mem_cons] at hv
          rcases hv with rfl | hv
          · have := h4.len
            rw [Nat.eq_of_beq_eq_true h3.1] at this
            simpa using this.symm
          · exact i2 v hv
  obtain ⟨k1, k2⟩ := key xs es hr' hes hok
  obtain ⟨i, z, t1, t2, t3, t4, t5⟩ := SlT.inf (P := P) (t := t) (e := e) (sz := sz) (b := b)
  have tu := SlT.und (P := P) (t := t) (e := e) (sz := sz) (b := b)
  have tp := SlT.pos (P := P) (t := t) (e := e) (sz := sz) (b := b)
  have hsm := ble_t.1 hsm
  have hev : (parts.map fun p => (p.1, a.eval p.2)).toList = ((xs.map a.eval).zipIdx 0).map fun x => (x.2, x.1) := by
    rw [Array.toList_map, hp, List.zipIdx_map, List.map_map, List.map_map]
    rfl
  have hcl : ((xs.map a.eval).flatMap fun v => v.cells.toList).length = m * sz := by
    rw [← k1.len, flatten_len sz es (fun e he => by have := hok e he; rw [Bool.and_eq_true] at this; exact Nat.eq_of_beq_eq_true this.1), hlen, hm]
  have hrun : (Instr.buildSlice t m (parts.map fun p => (p.1, a.eval p.2))).run P w = .ok (.slice (some ⟨w.heap.size, 0, none⟩) m m) (w.alloc (.cells ((xs.map a.eval).flatMap fun v => v.cells.toList).toArray e)) := by
    by_cases h0 : m = 0
    · subst h0
      have : xs = [] := List.eq_nil_of_length_eq_zero hm.symm
      subst this
      have hp' : parts = #[] := by apply Array.ext'; simpa using hp
      subst hp'
      have hz : Array.map (fun _ => (default : Value)) (Array.range 0) = #[] := by apply Array.ext'; simp
      simp [Instr.buildSlice, run_underlying tu, sizeOf, typeInfo, t1, Instr.fill, newRow]
      rw [hz]
    · refine run_buildSlice w t e m _ _ i z tu t1 t2 (by rw [t3]; omega) (by rw [t3]; exact Nat.mul_ne_zero h0 (by omega)) ?_
      rw [hev, t3]
      exact Great.fill_whole tp _ _ k2 (by simp [hm])
  have hexec : (execOp a.eval ⟨o, .buildSlice t m parts, ty, pos, af, g⟩).run P w = .ok (.value (.slice (some ⟨w.heap.size, 0, none⟩) m m)) (w.alloc (.cells ((xs.map a.eval).flatMap fun v => v.cells.toList).toArray e)) := by
    have : (parts.map fun (i, x) => (i, a.eval x)) = parts.map fun p => (p.1, a.eval p.2) := rfl
    simp only [execOp, this, Sem.run_bind, hrun, Result.andThen_ok, Sem.run_pure]
  exact ⟨_, hexec, k1, hcl, by rw [hlen, hm], fun e he => by have := hok e he; rw [Bool.and_eq_true] at this; exact Nat.eq_of_beq_eq_true this.1, Nat.le_mul_of_pos_right _ tp, hsm⟩
/-- A slice literal. -/
theorem m_bslice {e sz b : Nat} [hT : SlT P t e sz b] {o : Option Tmp} {HF : Nat → Option Blk} {k m : Nat} (xs : List Operand) {parts : Array (Nat × Operand)} {es : List (List RV)} (hp : parts.toList = xs.zipIdx.map fun p => (p.2, p.1)) (hm : m = xs.length)
    (hes : xs.map (fun x => rvs (evA (get E) x)) = es.map some) (hok : elsB sz es = true) (hsm : Nat.ble (m * sz) 16777216 = true) : MakeOk P ⟨o, .buildSlice t m parts, ty, pos, af, g⟩ (get E) HF [] k (.ow k) (.row e sz es) := by
  refine ⟨fun i b h => mem_nil h, rfl, fun i hi => by simp [Blk.ids] at hi, fun a w Z M hM hr _ => ?_⟩
  obtain ⟨us, h1, h2, h3, h4, h5, h6, h7⟩ := bslice_core (P := P) (t := t) (o := o) (ty := ty) (pos := pos) (af := af) (g := g) xs hp hm hes hok hsm a w Z M hr
  refine ⟨_, .slice (some ⟨w.heap.size, 0, none⟩) m m, _, h1, (Below.refl _ _).alloc (Nat.le_refl _) _, fun q hq => by simp [blk] at hq; omega, fun Z' hz' hzo => ⟨by rw [AV.rep, hz'], fun _ => ?_⟩⟩
  refine ⟨us, ⟨by rw [h3, h4], .inr ⟨w.heap.size, m, _, by rw [hz', h4], Nat.zero_le _, heap_new _ _, by omega, by unfold maxLen; omega, by simpa using h3, ?_⟩⟩, ?_, h5⟩
  · rw [List.take_of_length_le (by simp only [h3, h4]; exact Nat.le_refl _)]
  · exact h2.mono (Upto.alloc (M := M) w _) (fun q hq hb => by
      rcases hb with hb | hb
      · exact hb
      · simp [blk] at hb; omega)
theorem m_bfull {e sz b : Nat} [hT : SlT P t e sz b] {o : Option Tmp} {HF : Nat → Option Blk} {k m : Nat} (xs : List Operand) {parts : Array (Nat × Operand)} {es : List (List RV)} (hp : parts.toList = xs.zipIdx.map fun p => (p.2, p.1)) (hm : m = xs.length)
    (hes : xs.map (fun x => rvs (evA (get E) x)) = es.map some) (hok : elsB sz es = true) (hsm : Nat.ble (m * sz) 16777216 = true) : MakeOk P ⟨o, .buildSlice t m parts, ty, pos, af, g⟩ (get E) HF [] k (.ow k) (.full e sz es) := by
  refine ⟨fun i b h => mem_nil h, rfl, fun i hi => by simp [Blk.ids] at hi, fun a w Z M hM hr _ => ?_⟩
  obtain ⟨us, h1, h2, h3, h4, h5, h6, h7⟩ := bslice_core (P := P) (t := t) (o := o) (ty := ty) (pos := pos) (af := af) (g := g) xs hp hm hes hok hsm a w Z M hr
  refine ⟨_, .slice (some ⟨w.heap.size, 0, none⟩) m m, _, h1, (Below.refl _ _).alloc (Nat.le_refl _) _, fun q hq => by simp [blk] at hq; omega, fun Z' hz' hzo => ⟨by rw [AV.rep, hz'], fun _ => ?_⟩⟩
  refine ⟨w.heap.size, us.toArray, (0, 0), by rw [hz', h4], heap_new _ _, by unfold maxLen; omega, ?_, h5⟩
  exact h2.mono (Upto.alloc (M := M) w _) (fun q hq hb => by
      rcases hb with hb | hb
      · exact hb
      · simp [blk] at hb; omega)

/-- An append onto a row of the call's own. -/
theorem run_append_gen {e sz b : Nat} [hT : SlT P t e sz b] (w : World) (ty : TypeId) (v : Value) (n m c : Nat) (xs news : List Value) (hown : w.ownsRow 0 e sz v n xs) (A : Option Addr) (hl : news.length = m * sz) (hA : m ≠ 0 → ∃ ad, A = some ad ∧ ∀ j u, news[j]? = some u → w.cell? (ad.add j) = some u) (h1 : ∀ u ∈ news, u.oneCell' = true)
    (hb : (n + m) * b ≤ 211106232532992) (h63 : n + m ≤ maxLen) :
    ∃ v' w', (Builtin.append_ #[t, t] ty #[v, .slice A m c]).run P w = .ok v' w' ∧ w'.ownsRow 0 e sz v' (n + m) (xs ++ news) ∧ w.grownBy w' v.ownBlock ∧ (v'.ownBlock = v.ownBlock ∨ v'.ownBlock = some w.heap.size) := by
  obtain ⟨i, z, t1, t2, t3, t4, t5⟩ := SlT.inf (P := P) (t := t) (e := e) (sz := sz) (b := b)
  have tu := SlT.und (P := P) (t := t) (e := e) (sz := sz) (b := b)
  have tp := SlT.pos (P := P) (t := t) (e := e) (sz := sz) (b := b)
  rcases A with _ | ad
  · have hm : m = 0 := by
      rcases Nat.eq_zero_or_pos m with h | h
      · exact h
      · obtain ⟨ad, h2, _⟩ := hA (by omega); cases h2
    subst hm
    have hn : news = [] := List.eq_nil_of_length_eq_zero (by omega)
    subst hn
    refine ⟨v, w, ?_, by simpa using hown, World.grownBy.refl w _, .inl rfl⟩
    rcases hown.2 with ⟨rfl, rfl⟩ | ⟨g, cap, cur, rfl, _, _, hnc, _⟩
    · simp [Builtin.append_, run_underlying tu, sizeOf, typeInfo, t1, Builtin.lenOf, Builtin.firstCells]
    · simp [Builtin.append_, run_underlying tu, sizeOf, typeInfo, t1, Builtin.lenOf, Builtin.firstCells, hnc, storeCells]
  · by_cases hm : m = 0
    · subst hm
      have hn : news = [] := List.eq_nil_of_length_eq_zero (by omega)
      subst hn
      obtain ⟨v', w', h2, h3, h4, _, h5⟩ := run_append_wide_at (P := P) w 0 t ty e i z sz b tu t1 t2 t3 t4 t5 tp v n xs hown ad 0 c [] (by simp) (fun j u h => by simp at h) h1 (by omega) (wide_bound hb (SlT.small (P := P) (t := t) (e := e) (sz := sz))) (Nat.zero_le _)
      exact ⟨v', w', h2, h3, h4, h5⟩
    · obtain ⟨ad', e1, hc⟩ := hA hm
      injection e1 with e1
      subst e1
      obtain ⟨v', w', h2, h3, h4, _, h5⟩ := run_append_wide_at (P := P) w 0 t ty e i z sz b tu t1 t2 t3 t4 t5 tp v n xs hown ad m c news hl hc h1 h63 (wide_bound hb (SlT.small (P := P) (t := t) (e := e) (sz := sz))) (Nat.zero_le _)
      exact ⟨v', w', h2, h3, h4, h5⟩
theorem own_blk {w : World} {T sz n : Nat} {v : Value} {us : List Value} (h : w.ownsRow 0 T sz v n us) : v.ownBlock = blk v ∧ ∃ A c, v = .slice A n c := by
  rcases h.2 with ⟨rfl, rfl⟩ | ⟨g, cap, cur, rfl, _⟩
  · exact ⟨rfl, _, _, rfl⟩
  · exact ⟨rfl, _, _, rfl⟩

/-- What an append's second operand may be: a slice that is only read, or an own one. -/
inductive Src (env : Nat → AV) (H : Nat → Option Blk) (T sz : Nat) (x : Operand) : List (List RV) → List (Nat × Blk) → Prop
  | sl (es) : evA env x = .r (.sl sz es) → Src env H T sz x es []
  | ow (j) (es) : evA env x = .ow j → H j = some (.row T sz es) → Src env H T sz x es [(j, .row T sz es)]
  | nl : evA env x = .r (.v (.slice none 0 0)) → Src env H T sz x [] []
  | so (j o n c T') (cs) (es) : evA env x = .so j o n c → H j = some (.var T' cs) → es.length = n → (cs.drop o).take n = es.flatten.map .r → (∀ e ∈ es, e.length = sz) → sz = 1 → Src env H T sz x es [(j, .var T' cs)]
theorem reps_drop' {Z : Nat → Value} {B : Nat → Prop} {w : World} : ∀ (k : Nat) {cs : List AV} {us : List Value}, AV.reps Z B w cs us → AV.reps Z B w (cs.drop k) (us.drop k)
  | 0, cs, us, h => by simpa using h
  | k + 1, [], us, h => by rw [AV.reps] at h; subst h; simp [AV.reps]
  | k + 1, c :: cs, us, h => by
    rw [AV.reps] at h
    obtain ⟨u, us', rfl, _, h⟩ := h
    simpa using reps_drop' k h
theorem reps_take' {Z : Nat → Value} {B : Nat → Prop} {w : World} : ∀ (k : Nat) {cs : List AV} {us : List Value}, AV.reps Z B w cs us → AV.reps Z B w (cs.take k) (us.take k)
  | 0, cs, us, h => by simp [AV.reps]
  | k + 1, [], us, h => by rw [AV.reps] at h; subst h; simp [AV.reps]
  | k + 1, c :: cs, us, h => by
    rw [AV.reps] at h
    obtain ⟨u, us', rfl, h1, h⟩ := h
    rw [List.take_succ_cons, List.take_succ_cons, AV.reps]
    exact ⟨u, _, rfl, h1, reps_take' k h⟩
theorem rvs_of_reps {Z : Nat → Value} {B : Nat → Prop} {w : World} : ∀ {cs : List RV} {us : List Value}, AV.reps Z B w (cs.map .r) us → (∀ u ∈ us, u.oneCell' = true) → RVs B w cs us
  | [], us, h, _ => by rw [List.map_nil, AV.reps] at h; subst h; exact .nil
  | c :: cs, us, h, ho => by
    rw [List.map_cons, AV.reps] at h
    obtain ⟨u, us', rfl, h1, h⟩ := h
    rw [AV.rep] at h1
    exact .cons (ho u (by simp)) h1 (rvs_of_reps h (fun x hx => ho x (by simp [hx])))
theorem Src.val {env : Nat → AV} {HF : Nat → Option Blk} {T sz : Nat} {x : Operand} {es : List (List RV)} {rd : List (Nat × Blk)} (h : Src env HF T sz x es rd) {Z : Nat → Value} {M : Nat → Prop} {w : World} {u : Value} (hr : (evA env x).rep Z M w u) (hh : ∀ i b, (i, b) ∈ rd → held Z M w i b) :
    ∃ A c news, u = .slice A es.length c ∧ news.length = es.length * sz ∧ (es.length ≠ 0 → ∃ ad, A = some ad ∧ ∀ j v, news[j]? = some v → w.cell? (ad.add j) = some v) ∧ RVs M w es.flatten news ∧ (∀ e ∈ es, e.length = sz) := by
  cases h with
  | sl es hx =>
    rw [hx, AV.rep, RV.rep] at hr
    obtain ⟨A, c, rfl, _, _, h4, h5⟩ := hr
    by_cases he : es = []
    · subst he; exact ⟨A, c, [], rfl, by simp, fun h => absurd rfl h, .nil, by simp⟩
    · obtain ⟨ad, rfl, _, _, h6⟩ := h5 he
      rw [RV.rows_flat, RV.row_vals] at h6
      obtain ⟨news, h7, h8⟩ := h6
      exact ⟨_, c, news, rfl, by rw [← h7.len, flatten_len sz es h4], fun _ => ⟨ad, rfl, fun j v hj => by have := h8 j v hj; rwa [Nat.zero_add] at this⟩, h7, h4⟩
  | ow j es hx hj =>
    rw [hx, AV.rep] at hr
    subst hr
    obtain ⟨us, h1, h2, h3⟩ := hh j (.row T sz es) (by simp)
    rcases h1.2 with ⟨h4, h5⟩ | ⟨g, cap, cur, h4, _, hg, h6, _, _, h7⟩
    · have : es = [] := List.eq_nil_of_length_eq_zero h5
      subst this
      exact ⟨none, 0, [], h4, by simp, fun h => absurd rfl h, .nil, by simp⟩
    · refine ⟨_, cap, us, h4, h1.1, fun _ => ⟨_, rfl, fun k v hk => ?_⟩, h2, h3⟩
      rw [add_mid, Nat.zero_add, cell_of_row w g k cur T (0, 0) hg]
      rw [← h7, List.getElem?_take] at hk
      split at hk
      · simpa using hk
      · cases hk
  | nl hx =>
    rw [hx, AV.rep, RV.rep] at hr
    exact ⟨none, 0, [], hr, by simp, fun h => absurd rfl h, .nil, by simp⟩
  | so j o n c T' cs es hx hj hl hcs h1 hs1 =>
    subst hs1 hl
    rw [hx, AV.rep] at hr
    obtain ⟨b, hb, rfl⟩ := hr
    obtain ⟨b', us, h2, h3, h4, h5⟩ := hh j (.var T' cs) (by simp)
    rw [h2] at hb
    simp only [blk, Option.some.injEq] at hb
    subst hb
    have h6 := reps_take' es.length (reps_drop' o h4)
    rw [hcs] at h6
    have h7 : RVs M w es.flatten ((us.toList.drop o).take es.length) := rvs_of_reps h6 (fun u hu => by
      have := List.mem_of_mem_drop (List.mem_of_mem_take hu)
      rw [Array.all_eq_true_iff_forall_mem] at h5
      exact h5 u (by simpa using this))
    refine ⟨some ⟨b', o, none⟩, c, _, rfl, ?_, fun _ => ⟨_, rfl, fun k v hk => ?_⟩, h7, h1⟩
    · rw [← h7.len, flatten_len 1 es h1]
    · rw [add_mid, cell_of_row w b' _ us T' (0, 0) h3]
      rw [List.getElem?_take] at hk
      split at hk
      · rw [List.getElem?_drop] at hk; simpa using hk
      · cases hk
theorem Src.rdH {env : Nat → AV} {HF : Nat → Option Blk} {T sz : Nat} {x : Operand} {es : List (List RV)} {rd : List (Nat × Blk)} (h : Src env HF T sz x es rd) : ∀ i b, (i, b) ∈ rd → HF i = some b := by
  cases h with
  | sl es hx => intro i b h; cases h
  | nl hx => intro i b h; cases h
  | so j o n c T' cs es hx hj _ _ _ _ => intro i b h; simp only [List.mem_cons, List.not_mem_nil, or_false, Prod.mk.injEq] at h; obtain ⟨rfl, rfl⟩ := h; exact hj
  | ow j es hx hj => intro i b h; simp only [List.mem_cons, List.not_mem_nil, or_false, Prod.mk.injEq] at h; obtain ⟨rfl, rfl⟩ := h; exact hj
theorem mem_one {α : Type} {x y : α} (h : x ∈ [y]) : x = y := by simpa using h
/-- An append onto an own slice; onto nothing. -/
theorem w_append {e sz b i : Nat} [hT : SlT P t e sz b] {es es' : List (List RV)} {rd : List (Nat × Blk)} (hx : evA (get E) x = .ow i) (hi : getH H i = some (.row e sz es)) (hs : Src (get E) (getH H) e sz y es' rd) (hne : (rd.all fun p => !Nat.beq p.1 i) = true)
    (hlen : (es.length + es'.length) * b ≤ 211106232532992 ∧ es.length + es'.length ≤ 211106232532992) (hloc : (Nat.blt i L.m || Nat.ble L.n i) = true)
    (hd : Nat.blt d N = true) (hg : Wanted ops (get E) ⟨some d, .call { callee := .builtin .append, args := #[x, y], argTypes := #[t, t] }, ty, pos, af, g⟩ true)
    (h : wpA P L N ops chk Q l ⟨(d, .ow n) :: E, (n, some (.row e sz (es ++ es'))) :: (i, none) :: H, n + 1⟩ ((n, ⟨true, (i, .row e sz es) :: rd, .ow n, [(i, none)], [.row e sz (es ++ es')]⟩) :: tr)) :
    wpA P L N ops chk Q (⟨some d, .call { callee := .builtin .append, args := #[x, y], argTypes := #[t, t] }, ty, pos, af, g⟩ :: l) ⟨E, H, n⟩ tr := by
  refine ⟨⟨true, (i, .row e sz es) :: rd, .ow n, [(i, none)], [.row e sz (es ++ es')]⟩, ⟨fun x hx => ?_, hg, fun _ a w Z M hM hr hh hdist => ?_, (fun h => by cases h), fun D hD hDH hf => ?_⟩, h⟩
  · injection hx with hx; subst hx; exact blt_t.1 hd
  · have hxr : (evA (get E) x).rep Z M w (a.eval x) := hr x (by simp [Op.operands, Call.operands])
    have hyr : (evA (get E) y).rep Z M w (a.eval y) := hr y (by simp [Op.operands, Call.operands])
    rw [hx, AV.rep] at hxr
    obtain ⟨⟨us, h1, h2, h3⟩, hMi⟩ := hh i (.row e sz es) (by simp)
    obtain ⟨A, c, news, h4, h5, h6, h7, h8⟩ := hs.val hyr (fun j b hj => (hh j b (List.mem_cons_of_mem _ hj)).1)
    obtain ⟨v', w', h9, h10, h11, h12⟩ := run_append_gen (P := P) (t := t) w ty (Z i) es.length es'.length c us news h1 A h5 h6 h7.one hlen.1 (by unfold maxLen; omega)
    have hex : (execOp a.eval ⟨some d, .call { callee := .builtin .append, args := #[x, y], argTypes := #[t, t] }, ty, pos, af, g⟩).run P w = .ok (.value v') w' := by
      simp only [execOp, resolve, invoke, builtin, Sem.run_bind, Sem.run_pure, Result.andThen_ok, List.map_toArray, List.map_cons, List.map_nil, hxr, h4, h9]
    obtain ⟨b1, A1, c1, b2⟩ := own_blk h1
    obtain ⟨b3, A2, c2, b4⟩ := own_blk h10
    have hU : Upto (fun q => blk (Z i) = some q) w w' := ⟨h11.os, h11.tape, h11.output, h11.size, fun q hq hne => h11.block q hq (fun e => hne (by rw [← b1]; exact e.symm))⟩
    have hU' : Upto M w w' := hU.mono fun q _ hq => hMi q hq
    have hz1 : (fun j => if j = n then v' else Z j) n = v' := by simp
    refine exec_value hex ⟨fun j => if j = n then v' else Z j, fun j hj => ?_, by rw [AV.rep]; simp, fun j c hj => ?_, fun j c hj => ?_, fun j j' q hj hj' hne => ?_, fun j q hj hq => ?_, hU.mono fun q _ hq => ⟨i, none, by simp, hq⟩⟩
    · have : j ≠ n := by simp at hj; omega
      simp [this]
    · have := mem_one hj; cases this
    · have hj0 : j = 0 := by
        cases j with
        | zero => rfl
        | succ j => simp at hj
      subst hj0
      have : c = .row e sz (es ++ es') := by simpa using hj.symm
      subst this
      have hB : ∀ q, q < w.heap.size → New n ⟨true, (i, .row e sz es) :: rd, .ow n, [(i, none)], [.row e sz (es ++ es')]⟩ (fun j => if j = n then v' else Z j) M q → M q := by
        rintro q hq (h0 | ⟨j, hj, hjq⟩)
        · exact h0
        · have : j = 0 := by simpa using hj
          subst this
          simp only [Nat.add_zero, if_pos] at hjq
          rw [b3, b1] at h12
          rcases h12 with h12 | h12
          · exact hMi q (by rw [← h12]; exact hjq)
          · rw [h12] at hjq; injection hjq with hjq; omega
      refine ⟨us ++ news, ?_, ?_, fun e he => ?_⟩
      · simp only [Nat.add_zero, if_pos, List.length_append]
        exact h10
      · rw [List.flatten_append]
        exact (h2.mono hU' hB).append (h7.mono hU' hB)
      · rcases List.mem_append.1 he with he | he
        · exact h3 e he
        · exact h8 e he
    · simp at hj hj'; omega
    · have : j = 0 := by simpa using hj
      subst this
      have hq' : blk v' = some q := by simpa using hq
      rw [b3, b1] at h12
      rcases h12 with h12 | h12
      · exact .inr ⟨i, by simp, by rw [← h12]; exact hq'⟩
      · rw [h12] at hq'; injection hq' with hq'; exact .inl (by omega)
  · refine ⟨fun j b hj => ?_, fun j o ho => ?_, fun j o ho => ?_, fun j ho => ?_, hf, fun j hj => .inr ?_, fun b hb j hj => ?_, fun j b hb => ?_⟩
    · rcases List.mem_cons.1 hj with e1 | e1
      · injection e1 with e1 e2; subst e1 e2; exact hi
      · exact hs.rdH j b e1
    · have := mem_one ho
      injection this with e1 e2
      subst e1
      exact ⟨.row e sz es, by simp⟩
    · have := mem_one ho
      injection this with e1 e2
      subst e1 e2
      simp [List.lookup_cons]
    · have := mem_one ho
      injection this with e1 e2
      subst e1
      rw [Bool.or_eq_true, blt_t, ble_t] at hloc
      exact hloc
    · have : j = n := by simpa [AV.ids] using hj
      subst this
      simp
    · have := mem_one hb
      subst this
      simp [Blk.ids] at hj
    · have := mem_one hb; cases this
theorem w_append0 {e sz b : Nat} [hT : SlT P t e sz b] {es' : List (List RV)} {rd : List (Nat × Blk)} (hx : evA (get E) x = .r (.v (.slice none 0 0))) (hs : Src (get E) (getH H) e sz y es' rd)
    (hlen : es'.length * b ≤ 211106232532992 ∧ es'.length ≤ 211106232532992)
    (hd : Nat.blt d N = true) (hg : Wanted ops (get E) ⟨some d, .call { callee := .builtin .append, args := #[x, y], argTypes := #[t, t] }, ty, pos, af, g⟩ true)
    (h : wpA P L N ops chk Q l ⟨(d, .ow n) :: E, (n, some (.row e sz es')) :: H, n + 1⟩ ((n, ⟨true, rd, .ow n, [], [.row e sz es']⟩) :: tr)) :
    wpA P L N ops chk Q (⟨some d, .call { callee := .builtin .append, args := #[x, y], argTypes := #[t, t] }, ty, pos, af, g⟩ :: l) ⟨E, H, n⟩ tr := by
  refine w_make hd hg (out := .ow n) (b := .row e sz es') (rd := rd) ⟨hs.rdH, rfl, fun i hi => by simp [Blk.ids] at hi, fun a w Z M hM hr hh => ?_⟩ rfl h
  have hxr := ev_v hx (hr x (by simp [Op.operands, Call.operands]))
  obtain ⟨A, c, news, h4, h5, h6, h7, h8⟩ := hs.val (hr y (by simp [Op.operands, Call.operands])) hh
  have h1 : w.ownsRow 0 e sz (.slice none 0 0) 0 [] := World.ownsRow_nil w 0 e sz
  obtain ⟨v', w', h9, h10, h11, h12⟩ := run_append_gen (P := P) (t := t) w ty (.slice none 0 0) 0 es'.length c [] news h1 A h5 h6 h7.one (by simpa using hlen.1) (by unfold maxLen; omega)
  obtain ⟨b3, A2, c2, b4⟩ := own_blk h10
  have hb : Below w.heap.size w w' := ⟨h11.os, h11.tape, h11.output, h11.size, fun q hq => h11.block q hq (fun e => by cases e)⟩
  refine ⟨v', v', w', ?_, hb, fun q hq => ?_, fun Z' hz' hzo => ⟨by rw [AV.rep, hz'], fun _ => ⟨news, ?_, ?_, h8⟩⟩⟩
  · simp only [execOp, resolve, invoke, builtin, Sem.run_bind, Sem.run_pure, Result.andThen_ok, List.map_toArray, List.map_cons, List.map_nil, hxr, h4, h9]
  · rw [b3] at h12
    rcases h12 with h12 | h12
    · rw [hq] at h12; cases h12
    · rw [hq] at h12; injection h12 with h12; omega
  · rw [hz']
    simpa using h10
  · refine h7.mono (Upto.of_below hb) fun q hq hqb => ?_
    rcases hqb with h | h
    · exact h
    · rw [b3] at h12
      rcases h12 with h12 | h12
      · rw [h] at h12; cases h12
      · rw [h] at h12; injection h12 with h12; omega
end

/-! ## Cuts of slices that are only read -/
section
variable {P : Program} {env : Nat → AV} {H : Nat → Option Blk} {d : Option Tmp} {ty : TypeId} {pos : String} {af : Array Edge} {g : Option (Nat × Bool)}
variable {t : TypeId} {x y z : Operand} {sz : Nat} {es : List (List RV)}
theorem run_bound {k : IntKind} (j m : Nat) (c : BoundsCode) (h : j ≤ m) (w : World) : (Instr.sliceBound (.int k (j : Int)) m c).run P w = .ok j w := by
  simp [Instr.sliceBound, asIntOf, h]
theorem cut_rep {e b : Nat} [hT : SlT P t e sz b] {Z : Nat → Value} {M : Nat → Prop} {w : World} {u : Value} {j m : Nat} (hr : (AV.r (.sl sz es)).rep Z M w u) (hj : j ≤ m) (hm : m ≤ es.length) :
    ∃ A n c, u = .slice A n c ∧ n = es.length ∧ n ≤ c ∧ ((AV.r (.sl sz ((es.drop j).take (m - j)))).rep Z M w (.slice (if c = j then A else A.map (·.add (j * sz))) (m - j) (c - j))) := by
  rw [AV.rep, RV.rep] at hr
  obtain ⟨A, c, rfl, h2, h3, h4, h5⟩ := hr
  refine ⟨A, _, c, rfl, rfl, h2, ?_⟩
  rw [AV.rep, RV.rep]
  have hl : ((es.drop j).take (m - j)).length = m - j := by rw [List.length_take, List.length_drop]; omega
  refine ⟨_, c - j, by rw [hl], by omega, by omega, fun e he => h4 e (List.mem_of_mem_drop (List.mem_of_mem_take he)), fun hne => ?_⟩
  have hjm : j < m := by
    rcases Nat.lt_or_ge j m with h | h
    · exact h
    · exact absurd (List.eq_nil_of_length_eq_zero (by omega)) hne
  obtain ⟨ad, rfl, h6, h7, h8⟩ := h5 (by rintro rfl; simp at hm; omega)
  rw [if_neg (by omega)]
  refine ⟨ad.add (j * sz), rfl, by rw [add_block]; exact h6, by rw [add_block]; exact h7, ?_⟩
  rw [RV.rows_flat] at h8 ⊢
  rw [RV.row_add]
  have f1 := (flatten_drop_take sz es h4 j).1
  have f2 := (flatten_drop_take sz (es.drop j) (fun e he => h4 e (List.mem_of_mem_drop he)) (m - j)).2
  rw [f2, f1]
  have := RV.row_take (RV.row_drop h8 (j * sz)) ((m - j) * sz)
  rwa [Nat.zero_add] at this
theorem run_cut {e b : Nat} [hT : SlT P t e sz b] (A : Option Addr) (n c j m : Nat) (lo hi : Option Value) (hlo : (lo = none ∧ j = 0) ∨ ∃ k, lo = some (.int k (j : Int))) (hhi : (hi = none ∧ m = n) ∨ ∃ k, hi = some (.int k (m : Int))) (hj : j ≤ m) (hm : m ≤ n) (hc : n ≤ c) (w : World) :
    (Instr.sliceAt t (.slice A n c) lo hi none).run P w = .ok (.slice (if c = j then A else A.map (·.add (j * sz))) (m - j) (c - j)) w := by
  obtain ⟨i, z, t1, t2, t3, t4, t5⟩ := SlT.inf (P := P) (t := t) (e := e) (sz := sz) (b := b)
  have tu := SlT.und (P := P) (t := t) (e := e) (sz := sz) (b := b)
  have hs : (sizeOf e).run P w = .ok sz w := by simp [sizeOf, typeInfo, t1, t3]
  have hbd : (Instr.sliceBounds true n c lo hi none).run P w = .ok (j, m, c) w := by
    rcases hlo with ⟨rfl, rfl⟩ | ⟨k, rfl⟩ <;> rcases hhi with ⟨rfl, rfl⟩ | ⟨k', rfl⟩
    · simp [Instr.sliceBounds]
    · simp [Instr.sliceBounds, run_bound _ _ _ (show m ≤ c by omega)]
    · simp [Instr.sliceBounds, run_bound _ _ _ hj]
    · simp [Instr.sliceBounds, run_bound _ _ _ hj, run_bound _ _ _ (show m ≤ c by omega)]
  simp only [Instr.sliceAt, Sem.run_bind, run_underlying tu, Result.andThen_ok, Instr.slice, hbd, hs, Sem.run_pure]
theorem p_cut2 {e b : Nat} [hT : SlT P t e sz b] {k k' : IntKind} {a c : Int} {j m : Nat} (hx : evA env x = .r (.sl sz es)) (hy : evA env y = .r (.v (.int k a))) (hz : evA env z = .r (.v (.int k' c))) (ha : a = (j : Int)) (hc : c = (m : Int)) (hj : j ≤ m) (hm : m ≤ es.length) :
    ReadOk P ⟨d, .slice t x (some y) (some z) none, ty, pos, af, g⟩ env H [] (.r (.sl sz ((es.drop j).take (m - j)))) := by
  subst ha hc
  refine ⟨fun i b h => mem_nil h, fun i hi => by simp [AV.ids] at hi, fun ac w Z M hr _ => ?_⟩
  have h1 := hr x (by simp [Op.operands])
  have h2 := ev_v hy (hr y (by simp [Op.operands]))
  have h3 := ev_v hz (hr z (by simp [Op.operands]))
  rw [hx] at h1
  obtain ⟨A, n, cc, h4, h5, h6, h7⟩ := cut_rep (P := P) (t := t) h1 hj hm
  refine ⟨_, ?_, h7⟩
  simp only [execOp, h4, Option.map_some, Option.map_none, h2, h3, Sem.run_bind, run_cut (P := P) (t := t) A n cc j m _ _ (.inr ⟨k, rfl⟩) (.inr ⟨k', rfl⟩) hj (by omega) h6, Result.andThen_ok, Sem.run_pure]
theorem p_cutl {e b : Nat} [hT : SlT P t e sz b] {k : IntKind} {a : Int} {j : Nat} (hx : evA env x = .r (.sl sz es)) (hy : evA env y = .r (.v (.int k a))) (ha : a = (j : Int)) (hj : j ≤ es.length) :
    ReadOk P ⟨d, .slice t x (some y) none none, ty, pos, af, g⟩ env H [] (.r (.sl sz (es.drop j))) := by
  subst ha
  refine ⟨fun i b h => mem_nil h, fun i hi => by simp [AV.ids] at hi, fun ac w Z M hr _ => ?_⟩
  have h1 := hr x (by simp [Op.operands])
  have h2 := ev_v hy (hr y (by simp [Op.operands]))
  rw [hx] at h1
  obtain ⟨A, n, cc, h4, h5, h6, h7⟩ := cut_rep (P := P) (t := t) h1 hj (Nat.le_refl _)
  have e : (es.drop j).take (es.length - j) = es.drop j := List.take_of_length_le (by rw [List.length_drop]; exact Nat.le_refl _)
  rw [e] at h7
  refine ⟨_, ?_, h7⟩
  simp only [execOp, h4, Option.map_some, Option.map_none, h2, Sem.run_bind, run_cut (P := P) (t := t) A n cc j es.length _ _ (.inr ⟨k, rfl⟩) (.inl ⟨rfl, h5.symm⟩) hj (by omega) h6, Result.andThen_ok, Sem.run_pure]
theorem p_cuth {e b : Nat} [hT : SlT P t e sz b] {k : IntKind} {a : Int} {m : Nat} (hx : evA env x = .r (.sl sz es)) (hy : evA env y = .r (.v (.int k a))) (ha : a = (m : Int)) (hm : m ≤ es.length) :
    ReadOk P ⟨d, .slice t x none (some y) none, ty, pos, af, g⟩ env H [] (.r (.sl sz (es.take m))) := by
  subst ha
  refine ⟨fun i b h => mem_nil h, fun i hi => by simp [AV.ids] at hi, fun ac w Z M hr _ => ?_⟩
  have h1 := hr x (by simp [Op.operands])
  have h2 := ev_v hy (hr y (by simp [Op.operands]))
  rw [hx] at h1
  obtain ⟨A, n, cc, h4, h5, h6, h7⟩ := cut_rep (P := P) (t := t) h1 (Nat.zero_le m) hm
  rw [List.drop_zero, Nat.sub_zero] at h7
  refine ⟨_, ?_, h7⟩
  have := run_cut (P := P) (t := t) A n cc 0 m none (some (.int k (m : Int))) (.inl ⟨rfl, rfl⟩) (.inr ⟨k, rfl⟩) (Nat.zero_le _) (by omega) h6
  rw [Nat.sub_zero] at this
  simp only [execOp, h4, Option.map_some, Option.map_none, h2, Sem.run_bind, this, Result.andThen_ok, Sem.run_pure]
end

/-! ## Struct literals -/
def plTB (P : Program) (t : Nat) (pl : List (Nat × Nat)) : Bool := match P.underlying t with | some (.struct fs) => decide ((fs.toList.mapM fun f => (P.info? f.type).map fun i => (f.offset, i.size)) = some pl) | _ => false
class PlT (P : Program) (t : Nat) (pl : outParam (List (Nat × Nat))) : Prop where ok : plTB P t pl = true
def fillA (pl : List (Nat × Nat)) : List AV → List (Nat × AV) → Option (List AV)
  | cs, [] => some cs
  | cs, (i, a) :: rest => match pl[i]? with
    | none => none
    | some (off, sz) => bif Nat.beq (cellsA a).length sz && Nat.ble (off + sz) cs.length then fillA pl (setA cs off (cellsA a)) rest else none
def okPart (rd : List (Nat × Blk)) : AV → Bool
  | .ow i => rd.any fun p => Nat.beq p.1 i && (match p.2 with | .row _ _ _ => true | _ => false)
  | a => valB a
theorem part_rep {Z : Nat → Value} {B : Nat → Prop} {w : World} {rd : List (Nat × Blk)} {a : AV} {v : Value} (ho : okPart rd a = true) (hh : ∀ i b, (i, b) ∈ rd → held Z B w i b) (hr : a.rep Z B w v) : AV.reps Z B w (cellsA a) v.cells.toList := by
  cases a with
  | ow i =>
    simp only [okPart, List.any_eq_true, Bool.and_eq_true] at ho
    obtain ⟨⟨j, b⟩, h1, h2, h3⟩ := ho
    have := Nat.eq_of_beq_eq_true h2
    simp only at this
    subst this
    cases b with
    | var T cs => simp at h3
    | rowk T sz es n c => simp at h3
    | rowo T sz es cs => simp at h3
    | mp l => simp at h3
    | obj o => simp at h3
    | full T sz es => simp at h3
    | row T sz es =>
      obtain ⟨us, h4, _⟩ := hh _ _ h1
      obtain ⟨_, A, c, h5⟩ := own_blk h4
      have hr' := hr
      rw [AV.rep] at hr
      rw [h5] at hr
      subst hr
      simp only [cellsA, Value.cells]
      rw [AV.reps]
      exact ⟨_, [], rfl, hr', by rw [AV.reps]⟩
  | _ => exact (cells_rep hr (by simpa only [okPart] using ho)).1
theorem foldl_setA (off : Nat) (vs : List Value) (cells : Array Value) (h : off + vs.length ≤ cells.size) : ((vs.zipIdx 0).foldl (fun cs (x : Value × Nat) => cs.setIfInBounds (off + x.2) x.1) cells).toList = setA cells.toList off vs := by
  obtain ⟨h1, h2⟩ := Great.foldl_set off vs 0 cells
  apply List.ext_getElem?
  intro k
  have h3 := h2 k
  rw [show ∀ a : Array Value, a.toList[k]? = a[k]? from fun a => by simp, h3]
  unfold setA
  by_cases hk : off ≤ k ∧ k < off + vs.length
  · rw [if_pos (by omega)]
    rw [List.getElem?_append_left (by simp; omega), List.getElem?_append_right (by simp; omega)]
    simp
    congr 1
    omega
  · rw [if_neg (by omega)]
    rcases Nat.lt_or_ge k off with h4 | h4
    · rw [List.getElem?_append_left (by simp; omega), List.getElem?_append_left (by simp; omega), List.getElem?_take, if_pos h4]
      simp
    · rw [List.getElem?_append_right (by simp; omega), List.getElem?_drop]
      simp
      congr 1
      omega
theorem fill_rep {Z : Nat → Value} {B : Nat → Prop} {w : World} (pl : List (Nat × Nat)) : ∀ (ps : List (Nat × AV)) (vs : List (Nat × Value)) (cs cs' : List AV) (us : Array Value), ps.length = vs.length → (∀ (k : Nat) (p : Nat × AV) (v : Nat × Value), ps[k]? = some p → vs[k]? = some v → v.1 = p.1 ∧ AV.reps Z B w (cellsA p.2) v.2.cells.toList) → AV.reps Z B w cs us.toList → fillA pl cs ps = some cs' →
    ∃ us', Instr.fill (pl.toArray[·]?) us vs = some us' ∧ AV.reps Z B w cs' us'.toList
  | [], vs, cs, cs', us, hl, _, hr, hf => by
    have : vs = [] := List.eq_nil_of_length_eq_zero hl.symm
    subst this
    simp only [fillA, Option.some.injEq] at hf
    subst hf
    exact ⟨us, rfl, hr⟩
  | (i, a) :: ps, [], cs, cs', us, hl, _, hr, hf => by simp at hl
  | (i, a) :: ps, (j, v) :: vs, cs, cs', us, hl, hp, hr, hf => by
    obtain ⟨e, hv⟩ := hp 0 (i, a) (j, v) rfl rfl
    simp only at e hv
    subst e
    simp only [fillA] at hf
    cases hpl : pl[j]? with
    | none => rw [hpl] at hf; cases hf
    | some os =>
      obtain ⟨off, sz⟩ := os
      rw [hpl] at hf
      simp only at hf
      cases hc : (Nat.beq (cellsA a).length sz && Nat.ble (off + sz) cs.length) with
      | false => rw [hc] at hf; cases hf
      | true =>
        rw [hc] at hf
        simp only [cond_true] at hf
        rw [Bool.and_eq_true, ble_t] at hc
        have h1 := Nat.eq_of_beq_eq_true hc.1
        have h2 := AV.reps_len hv
        have h3 := AV.reps_len hr
        simp only [Array.length_toList] at h2 h3
        have hset := foldl_setA off v.cells.toList us (by simp; omega)
        have hr2 : AV.reps Z B w (setA cs off (cellsA a)) (((v.cells.toList.zipIdx 0).foldl (fun cs (x : Value × Nat) => cs.setIfInBounds (off + x.2) x.1) us)).toList := by
          rw [hset]
          unfold setA
          rw [show v.cells.toList.length = (cellsA a).length by simp; omega]
          exact reps_append (reps_append (reps_take _ hr) hv) (reps_drop _ hr)
        obtain ⟨us', h4, h5⟩ := fill_rep pl ps vs _ cs' _ (by simpa using hl) (fun k p v hk hk' => hp (k + 1) p v (by simpa using hk) (by simpa using hk')) hr2 hf
        refine ⟨us', ?_, h5⟩
        have hpl' : (pl.toArray[j]? : Option (Nat × Nat)) = some (off, sz) := by simpa using hpl
        rw [Instr.fill]
        simp only [hpl']
        rw [if_neg (by simp; omega)]
        rw [← h4]
        congr 1
        rw [← Array.foldl_toList, Array.toList_zipIdx]
theorem fillA_ids (pl : List (Nat × Nat)) (D : Nat → Prop) : ∀ (ps : List (Nat × AV)) (cs cs' : List AV), (∀ i ∈ AV.idss cs, D i) → (∀ p ∈ ps, ∀ i ∈ p.2.ids, D i) → fillA pl cs ps = some cs' → ∀ i ∈ AV.idss cs', D i
  | [], cs, cs', h1, _, hf => by simp only [fillA, Option.some.injEq] at hf; subst hf; exact h1
  | (j, a) :: ps, cs, cs', h1, h2, hf => by
    simp only [fillA] at hf
    cases hpl : pl[j]? with
    | none => rw [hpl] at hf; cases hf
    | some os =>
      rw [hpl] at hf
      simp only at hf
      cases hc : (Nat.beq (cellsA a).length os.2 && Nat.ble (os.1 + os.2) cs.length) with
      | false => rw [hc] at hf; cases hf
      | true =>
        rw [hc] at hf
        simp only [cond_true] at hf
        refine fillA_ids pl D ps _ cs' (fun i hi => ?_) (fun p hp => h2 p (by simp [hp])) hf
        rw [setA, idss_mem_iff] at hi
        obtain ⟨c, hc, hci⟩ := hi
        rw [List.mem_append, List.mem_append] at hc
        rcases hc with (hc | hc) | hc
        · exact h1 i (idss_mem (List.mem_of_mem_take hc) hci)
        · exact h2 (j, a) (by simp) i (idss_cells i (idss_mem hc hci))
        · exact h1 i (idss_mem (List.mem_of_mem_drop hc) hci)
theorem p_build {P : Program} {E : List (Nat × AV)} {H : Nat → Option Blk} {d : Option Tmp} {ty : TypeId} {pos : String} {af : Array Edge} {g : Option (Nat × Bool)} {t : TypeId} {pl : List (Nat × Nat)} {zs : List Value} [hp : PlT P t pl] [hz : ZrT P t zs]
    {parts : Array (Nat × Operand)} {cs : List AV} (rd : List (Nat × Blk)) (hf : fillA pl (zs.map fun u => .r (.v u)) (parts.toList.map fun p => (p.1, evA (get E) p.2)) = some cs) (ho : (parts.toList.all fun p => okPart rd (evA (get E) p.2)) = true) (hrd : ∀ i b, (i, b) ∈ rd → H i = some b) :
    ReadOk P ⟨d, .build t parts, ty, pos, af, g⟩ (get E) H rd (.ag cs) := by
  refine ⟨hrd, fun i hi => .inl ?_, fun a w Z M hr hh => ?_⟩
  · rw [AV.ids] at hi
    refine fillA_ids pl (fun i => ∃ t, i ∈ (get E t).ids) _ _ _ (fun i hi => by rw [idss_exact] at hi; cases hi) (fun p hp i hi => ?_) hf i hi
    obtain ⟨q, hq, rfl⟩ := List.mem_map.1 hp
    rcases ids_ev rfl i hi with h | ⟨_, _, h, _⟩
    · exact h
    · cases h
  · have h1 := hz.ok
    have h2 := hp.ok
    unfold plTB at h2
    cases hu : P.underlying t with
    | none => rw [hu] at h2; cases h2
    | some D =>
      rw [hu] at h2
      cases D with
      | struct fs =>
        have h2 := of_decide_eq_true h2
        cases hi : P.info? t with
        | none => rw [hi] at h1; cases h1
        | some it =>
          rw [hi] at h1
          simp only [Option.map_some, Option.some.injEq] at h1
          cases hzz : it.zero with
          | none => rw [hzz] at h1; cases h1
          | some z =>
            rw [hzz] at h1
            simp only [Option.map_some, Option.some.injEq] at h1
            obtain ⟨us', h3, h4⟩ := fill_rep (Z := Z) (B := M) (w := w) pl _ (parts.toList.map fun p => (p.1, a.eval p.2)) _ cs z.cells (by simp) (fun k p v hk hv => by
              rw [List.getElem?_map] at hk hv
              cases hq : parts.toList[k]? with
              | none => rw [hq] at hk; cases hk
              | some q =>
                rw [hq] at hk hv
                simp only [Option.map_some, Option.some.injEq] at hk hv
                subst hk hv
                have hmem := List.mem_of_getElem? hq
                refine ⟨rfl, part_rep (List.all_eq_true.1 ho q hmem) hh (hr q.2 ?_)⟩
                show q.2 ∈ ((parts.toList.map (·.2)).toArray).toList
                simp only [List.toList_toArray]
                exact List.mem_map.2 ⟨q, hmem, rfl⟩) (by rw [h1]; exact reps_exact zs) hf
            have hb : P.built t (parts.map fun p => (p.1, a.eval p.2)).toList = some us' := by
              unfold Program.built
              rw [hi, hu]
              simp only [hzz]
              rw [h2]
              simp only [Array.toList_map]
              exact h3
            refine ⟨.agg us', ?_, by rw [AV.rep]; exact ⟨us', rfl, h4⟩⟩
            have he : (parts.map fun (i, x) => (i, a.eval x)) = parts.map fun p => (p.1, a.eval p.2) := rfl
            simp only [execOp, he, Sem.run_bind, run_build w t _ us' hb, Result.andThen_ok, Sem.run_pure]
      | _ => cases h2
end Go.Ab
