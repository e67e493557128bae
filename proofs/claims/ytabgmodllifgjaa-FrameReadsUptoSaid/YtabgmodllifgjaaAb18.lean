/- The second layer: own rows with their room: an append within the room, one beyond it. No conditions. -/
import Derived.Test.YtabgmodllifgjaaAb17
namespace Go.Ab
open Go.RowKit
set_option linter.unusedVariables false
set_option linter.unusedSimpArgs false

theorem getH_cons (i j : Nat) (b : Option Blk) (H : List (Nat × Option Blk)) : getH ((i, b) :: H) j = if i = j then b else getH H j := by
  rw [getH]
  by_cases hij : i = j
  · subst hij; simp
  · have : Nat.beq i j = false := by cases hb : Nat.beq i j with
      | false => rfl
      | true => exact absurd (Nat.eq_of_beq_eq_true hb) hij
    simp [this, hij]
/-- The room of an own row is named. -/
theorem awp_room {P : Program} {L : Ln} {N : Nat} {c : Code} {Q : Exit → St → Prop} {E : List (Nat × AV)} {H : List (Nat × Option Blk)} {n i T sz : Nat} {es : List (List RV)} (hi : getH H i = some (.row T sz es)) (hne : es ≠ [])
    (h : ∀ cap, es.length ≤ cap → awp P L N c Q ⟨E, (i, some (.rowk T sz es es.length cap)) :: H, n⟩) : awp P L N c Q ⟨E, H, n⟩ := by
  intro C h1 h2 h3 a w ⟨Z, S⟩
  obtain ⟨⟨us, g1, g2, g3⟩, g4, g5⟩ := S.holds i _ hi
  have hx : ∃ g cap, Z i = .slice (some ⟨g, 0, none⟩) es.length cap ∧ es.length ≤ cap := by
    rcases g1.2 with ⟨e, h0⟩ | ⟨g, cap, cur, e, _, _, hc, _⟩
    · exact absurd (List.eq_nil_of_length_eq_zero h0) hne
    · exact ⟨g, cap, e, hc⟩
  obtain ⟨g, cap, hz, hcap⟩ := hx
  refine h cap hcap C h1 h2 h3 a w ⟨Z, ?_⟩
  have hH : ∀ j, St.HF ⟨E, (i, some (.rowk T sz es es.length cap)) :: H, n⟩ j = if i = j then some (.rowk T sz es es.length cap) else getH H j := fun j => getH_cons i j _ _
  have hold : ∀ j b, St.HF ⟨E, (i, some (.rowk T sz es es.length cap)) :: H, n⟩ j = some b → ∃ b', getH H j = some b' := by
    intro j b hj
    rw [hH] at hj
    split at hj
    · rename_i e; subst e; exact ⟨_, hi⟩
    · exact ⟨b, hj⟩
  have hO : Own C (St.HF ⟨E, (i, some (.rowk T sz es es.length cap)) :: H, n⟩) Z = Own C (St.HF ⟨E, H, n⟩) Z := by
    funext x
    apply propext
    constructor
    · rintro (h0 | ⟨j, b, hj, hjx⟩)
      · exact .inl h0
      · obtain ⟨b', hb'⟩ := hold j b hj
        exact .inr ⟨j, b', hb', hjx⟩
    · rintro (h0 | ⟨j, b, hj, hjx⟩)
      · exact .inl h0
      · by_cases e : i = j
        · exact .inr ⟨j, _, by rw [hH, if_pos e], hjx⟩
        · exact .inr ⟨j, b, by rw [hH, if_neg e]; exact hj, hjx⟩
  refine ⟨S.size, S.defers, S.frame, S.m0, fun t => ?_, S.ids, fun j b hj => ?_, fun j j' b c hj hj' => ?_, fun j b x hj => ?_, S.lm, S.zl⟩
  · rw [hO]; exact S.slots t
  · rw [hO]
    rw [hH] at hj
    split at hj
    · rename_i e
      subst e
      injection hj with hj
      subst hj
      exact ⟨⟨g, us, hz, by rw [← hz]; exact g1, Nat.le_refl _, g2, g3⟩, g4, fun q hq => by simp [Blk.ids] at hq⟩
    · exact S.holds j b hj
  · obtain ⟨b', hb'⟩ := hold j b hj
    obtain ⟨c', hc'⟩ := hold j' c hj'
    exact S.dist j j' b' c' hb' hc'
  · obtain ⟨b', hb'⟩ := hold j b hj
    exact S.fresh j b' x hb'

/-- The same, ahead of a region that is told. -/
theorem awp_roomR (r i : Nat) {P : Program} {L : Ln} {N : Nat} {ops : Array Oper} {b : Bool} {y : Code} {Q : Exit → St → Prop} {S : St} {T sz : Nat} {es : List (List RV)} (hi : getH S.H i = some (.row T sz es)) (hne : es ≠ [])
    (h : ∀ cap, es.length ≤ cap → awp P L N (.seq (.region r ops b) y) Q ⟨S.env, (i, some (.rowk T sz es es.length cap)) :: S.H, S.nx⟩) : awp P L N (.seq (.region r ops b) y) Q S := awp_room hi hne h
/-- A statement that begins with the region r is walked by itself: behind it no more is known than T a. -/
theorem awp_cutR (r : Nat) {P : Program} {L : Ln} {N : Nat} {Q : Exit → St → Prop} {S : St} {α : Type} {ops : Array Oper} {b : Bool} {x y : Code} (T : α → St) (I : α → Prop)
    (h1 : awp P L N (.seq (.region r ops b) x) (thenA (fun S => ∃ a, I a ∧ Le L S (T a)) Q) S) (h2 : ∀ a, I a → awp P L N y Q (T a)) : awp P L N (.seq (.seq (.region r ops b) x) y) Q S := by
  refine awp_seq (awp_mono h1 fun e S' h => ?_)
  cases e with
  | normal => obtain ⟨a, ha, hL⟩ := h; exact awp_le hL (h2 a ha)
  | _ => exact h

/-- What an append's second operand may be, own rows with their room among them. -/
inductive SrcK (env : Nat → AV) (H : Nat → Option Blk) (T sz : Nat) (x : Operand) : List (List RV) → List (Nat × Blk) → Prop
  | src (es rd) : Src env H T sz x es rd → SrcK env H T sz x es rd
  | ok (j es n c) : evA env x = .ow j → H j = some (.rowk T sz es n c) → SrcK env H T sz x (es.take n) [(j, .rowk T sz es n c)]
  | ol (j m es n c) : evA env x = .ol j m → H j = some (.rowk T sz es n c) → m ≤ es.length → SrcK env H T sz x (es.take m) [(j, .rowk T sz es n c)]
  | full (j es) : evA env x = .ow j → H j = some (.full T sz es) → SrcK env H T sz x es [(j, .full T sz es)]
theorem slice_val {M : Nat → Prop} {w : World} {sz : Nat} {es : List (List RV)} {u : Value} (hr : RV.rep M w (.sl sz es) u) :
    ∃ A c news, u = .slice A es.length c ∧ news.length = es.length * sz ∧ (es.length ≠ 0 → ∃ ad, A = some ad ∧ ∀ j v, news[j]? = some v → w.cell? (ad.add j) = some v) ∧ RVs M w es.flatten news ∧ (∀ e ∈ es, e.length = sz) := by
  rw [RV.rep] at hr
  obtain ⟨A, c, rfl, _, _, h4, h5⟩ := hr
  by_cases he : es = []
  · subst he; exact ⟨A, c, [], rfl, by simp, fun h => absurd rfl h, .nil, by simp⟩
  · obtain ⟨ad, rfl, _, _, h6⟩ := h5 he
    rw [RV.rows_flat, RV.row_vals] at h6
    obtain ⟨news, h7, h8⟩ := h6
    exact ⟨_, c, news, rfl, by rw [← h7.len, flatten_len sz es h4], fun _ => ⟨ad, rfl, fun j v hj => by have := h8 j v hj; rwa [Nat.zero_add] at this⟩, h7, h4⟩
theorem SrcK.val {env : Nat → AV} {HF : Nat → Option Blk} {T sz : Nat} {x : Operand} {es : List (List RV)} {rd : List (Nat × Blk)} (h : SrcK env HF T sz x es rd) {Z : Nat → Value} {M : Nat → Prop} {w : World} {u : Value} (hr : (evA env x).rep Z M w u) (hh : ∀ i b, (i, b) ∈ rd → held Z M w i b) :
    ∃ A c news, u = .slice A es.length c ∧ news.length = es.length * sz ∧ (es.length ≠ 0 → ∃ ad, A = some ad ∧ ∀ j v, news[j]? = some v → w.cell? (ad.add j) = some v) ∧ RVs M w es.flatten news ∧ (∀ e ∈ es, e.length = sz) := by
  have key : ∀ (es : List (List RV)) (n m c : Nat) (g : Nat) (us : List Value), w.ownsRow 0 T sz (.slice (some ⟨g, 0, none⟩) es.length c) es.length us → m ≤ es.length → RVs M w es.flatten us → (∀ e ∈ es, e.length = sz) →
      ∃ A c' news, (Value.slice (some ⟨g, 0, none⟩) m c) = .slice A (es.take m).length c' ∧ news.length = (es.take m).length * sz ∧ ((es.take m).length ≠ 0 → ∃ ad, A = some ad ∧ ∀ j v, news[j]? = some v → w.cell? (ad.add j) = some v) ∧ RVs M w (es.take m).flatten news ∧ (∀ e ∈ es.take m, e.length = sz) := by
    intro es n m c g us h1 hm h2 h3
    refine ⟨_, _, us.take (m * sz), by rw [List.length_take, Nat.min_eq_left hm], ?_, fun _ => ⟨_, rfl, fun k v hk => ?_⟩, ?_, fun e he => h3 e (List.mem_of_mem_take he)⟩
    · rw [List.length_take, List.length_take, h1.1, Nat.min_eq_left hm, Nat.min_eq_left (Nat.mul_le_mul_right _ hm)]
    · rcases h1.2 with ⟨e, _⟩ | ⟨g', cap, cur, e, _, hg, h6, _, _, h7⟩
      · cases e
      · have hg' : g = g' := by injection e with e1; injection e1 with e1; injection e1 with e1
        subst hg'
        rw [add_mid, Nat.zero_add, cell_of_row w g k cur T (0, 0) hg]
        rw [← h7, List.take_take, List.getElem?_take] at hk
        split at hk
        · simpa using hk
        · cases hk
    · rw [(flatten_drop_take sz es h3 m).2]
      exact h2.take _
  cases h with
  | src _ _ h => exact h.val hr hh
  | ok j es n c hx hj =>
    rw [hx, AV.rep] at hr
    subst hr
    obtain ⟨g, us, e, h1, h2, h3, h4⟩ := hh j (.rowk T sz es n c) (by simp)
    rw [e]
    exact key es n n c g us h1 h2 h3 h4
  | ol j m es n c hx hj hm =>
    rw [hx, AV.rep] at hr
    obtain ⟨g', m', c', e', rfl⟩ := hr
    obtain ⟨g, us, e, h1, h2, h3, h4⟩ := hh j (.rowk T sz es n c) (by simp)
    rw [e] at e'
    injection e' with e1 e2 e3
    injection e1 with e1
    injection e1 with e1
    subst e1 e3
    exact key es n m c g us h1 hm h3 h4
  | full j es hx hj =>
    rw [hx, AV.rep] at hr
    subst hr
    obtain ⟨q, us, fr, h1, h2, h3, h4, h5⟩ := hh j (.full T sz es) (by simp)
    refine ⟨_, _, us.toList, h1, by rw [← h4.len, flatten_len sz es h5], fun _ => ⟨_, rfl, fun k v hk => ?_⟩, h4, h5⟩
    rw [add_mid, Nat.zero_add, cell_of_row w q k us T fr h2]
    simpa using hk
theorem SrcK.rdH {env : Nat → AV} {HF : Nat → Option Blk} {T sz : Nat} {x : Operand} {es : List (List RV)} {rd : List (Nat × Blk)} (h : SrcK env HF T sz x es rd) : ∀ i b, (i, b) ∈ rd → HF i = some b := by
  cases h with
  | src _ _ h => exact h.rdH
  | ok j es n c hx hj => intro i b h; have := mem_one h; injection this with e1 e2; subst e1 e2; exact hj
  | ol j m es n c hx hj hm => intro i b h; have := mem_one h; injection this with e1 e2; subst e1 e2; exact hj
  | full j es hx hj => intro i b h; have := mem_one h; injection this with e1 e2; subst e1 e2; exact hj

section
variable {P : Program} {L : Ln} {N : Nat} {ops : Array Oper} {chk : List (Nat × Sp) → Bool} {Q : St → Prop} {l : List Oper} {E : List (Nat × AV)} {H : List (Nat × Option Blk)} {n : Nat} {tr : List (Nat × Sp)}
variable {d : Nat} {ty : TypeId} {pos : String} {af : Array Edge} {g : Option (Nat × Bool)} {t : TypeId} {x y : Operand}

/-- An append within the room: the row grows behind the slice, which stays what it is. -/
theorem w_appendI {e sz b i m cap : Nat} [hT : SlT P t e sz b] {es es' : List (List RV)} {rd : List (Nat × Blk)} (hx : evA (get E) x = .ow i) (hi : getH H i = some (.rowk e sz es m cap)) (hs : SrcK (get E) (getH H) e sz y es' rd) (hne : (rd.all fun p => !Nat.beq p.1 i) = true) (hm : m = es.length) (hroom : m + es'.length ≤ cap)
    (hd : Nat.blt d N = true) (hg : Wanted ops (get E) ⟨some d, .call { callee := .builtin .append, args := #[x, y], argTypes := #[t, t] }, ty, pos, af, g⟩ true)
    (h : wpA P L N ops chk Q l ⟨(d, .ol i (m + es'.length)) :: E, (i, some (.rowk e sz (es ++ es') m cap)) :: H, n⟩ ((n, ⟨true, (i, .rowk e sz es m cap) :: rd, .ol i (m + es'.length), [(i, some (.rowk e sz (es ++ es') m cap))], []⟩) :: tr)) :
    wpA P L N ops chk Q (⟨some d, .call { callee := .builtin .append, args := #[x, y], argTypes := #[t, t] }, ty, pos, af, g⟩ :: l) ⟨E, H, n⟩ tr := by
  refine ⟨⟨true, (i, .rowk e sz es m cap) :: rd, .ol i (m + es'.length), [(i, some (.rowk e sz (es ++ es') m cap))], []⟩, ⟨fun x hx => ?_, hg, fun _ a w Z M hM hr hh hdist => ?_, (fun h => by cases h), fun D hD hDH hf => ?_⟩, h⟩
  · injection hx with hx; subst hx; exact blt_t.1 hd
  · have hxr : (evA (get E) x).rep Z M w (a.eval x) := hr x (by simp [Op.operands, Call.operands])
    have hyr : (evA (get E) y).rep Z M w (a.eval y) := hr y (by simp [Op.operands, Call.operands])
    rw [hx, AV.rep] at hxr
    obtain ⟨⟨q, us, hz, h1, hmn, h2, h3⟩, hMi⟩ := hh i (.rowk e sz es m cap) (by simp)
    obtain ⟨A, c, news, h4, h5, h6, h7, h8⟩ := hs.val hyr (fun j b hj => (hh j b (List.mem_cons_of_mem _ hj)).1)
    obtain ⟨ti, z, t1, t2, t3, t4, t5⟩ := SlT.inf (P := P) (t := t) (e := e) (sz := sz) (b := b)
    have tu := SlT.und (P := P) (t := t) (e := e) (sz := sz) (b := b)
    subst hm
    have hcur : ∃ cur : Array Value, w.heap[q]? = some (.cells cur e (0, 0)) ∧ es.length ≤ cap ∧ cap ≤ maxLen ∧ cur.size = cap * sz ∧ cur.toList.take (es.length * sz) = us := by
      rcases h1.2 with ⟨e', _⟩ | ⟨q', cap', cur, e', _, k1, k2, k3, k4, k5⟩
      · cases e'
      · injection e' with e1 e2 e3
        injection e1 with e1
        injection e1 with e1
        subst e1 e3
        exact ⟨cur, k1, k2, k3, k4, k5⟩
    obtain ⟨cur, k1, k2, k3, k4, k5⟩ := hcur
    have hblk : blk (Z i) = some q := by rw [hz]; rfl
    have hrun : ∃ w' : World, (Builtin.append_ #[t, t] ty #[.slice (some ⟨q, 0, none⟩) es.length cap, .slice A es'.length c]).run P w = .ok (.slice (some ⟨q, 0, none⟩) (es.length + es'.length) cap) w' ∧ Upto (fun k => k = q) w w' ∧
        w'.ownsRow 0 e sz (.slice (some ⟨q, 0, none⟩) (es.length + es'.length) cap) (es.length + es'.length) (us ++ news) := by
      have hlen : (us ++ news).length = (es.length + es'.length) * sz := by rw [List.length_append, h1.1, h5, Nat.add_mul]
      by_cases h0 : es'.length = 0
      · have hn0 : news = [] := List.eq_nil_of_length_eq_zero (by rw [h5, h0, Nat.zero_mul])
        subst hn0
        rw [h0, Nat.add_zero, List.append_nil]
        refine ⟨w, ?_, Upto.refl _, h1⟩
        cases A <;> simp [Builtin.append_, run_underlying tu, sizeOf, typeInfo, t1, Builtin.lenOf, Builtin.firstCells, k2, storeCells, loadCells, loadCellsFrom]
      · obtain ⟨ad, rfl, hc⟩ := h6 h0
        have hfit : es.length * ti.size + news.length ≤ cur.size := by rw [h5, k4, t3, ← Nat.add_mul]; exact Nat.mul_le_mul_right _ hroom
        have hr := run_append_room (P := P) w t ty e ti tu t1 q es.length cap cur k1 ad es'.length c news (by rw [t3]; exact h5) hc h7.one hroom hfit
        refine ⟨_, hr, ⟨rfl, rfl, rfl, by simp, fun k _ hk => setRow_other w q k _ (fun e => hk e)⟩, hlen, .inr ⟨q, cap, _, rfl, Nat.zero_le _, setRow_heap w q cur _ e _ k1, hroom, k3, ?_, ?_⟩⟩
        · simp only [List.size_toArray, List.length_append, List.length_take, List.length_drop, Array.length_toList]
          omega
        · rw [t3, k5, ← hlen]
          exact List.take_left
    obtain ⟨w', h9, hU, h10⟩ := hrun
    have hex : (execOp a.eval ⟨some d, .call { callee := .builtin .append, args := #[x, y], argTypes := #[t, t] }, ty, pos, af, g⟩).run P w = .ok (.value (.slice (some ⟨q, 0, none⟩) (es.length + es'.length) cap)) w' := by
      simp only [execOp, resolve, invoke, builtin, Sem.run_bind, Sem.run_pure, Result.andThen_ok, List.map_toArray, List.map_cons, List.map_nil, hxr, hz, h4, h9]
    have hU' : Upto M w w' := hU.mono fun k _ hk => by subst hk; exact hMi _ hblk
    refine exec_value hex ⟨Z, fun _ _ => rfl, by rw [AV.rep]; exact ⟨q, _, _, hz, rfl⟩, fun j c hj => ?_, fun j b h => by simp at h, fun j j' x h => by simp at h, fun j x h => by simp at h, hU.mono fun k _ hk => by subst hk; exact ⟨i, some (.rowk e sz (es ++ es') es.length cap), by simp, hblk⟩⟩
    have := mem_one hj
    injection this with e1 e2
    injection e2 with e2
    subst e1 e2
    refine ⟨q, us ++ news, hz, by rw [List.length_append]; exact h10, by rw [List.length_append]; omega, ?_, fun e he => ?_⟩
    · rw [List.flatten_append]
      exact (h2.mono hU' fun k _ hk => new_nil rfl hk).append (h7.mono hU' fun k _ hk => new_nil rfl hk)
    · rcases List.mem_append.1 he with he | he
      · exact h3 e he
      · exact h8 e he
  · refine ⟨fun j b hj => ?_, fun j o ho => ?_, fun j o ho => ?_, fun j ho => ?_, hf, fun j hj => .inl ?_, fun b hb j hj => by simp at hb, fun j b hb j' hj' => ?_⟩
    · rcases List.mem_cons.1 hj with e1 | e1
      · injection e1 with e1 e2; subst e1 e2; exact hi
      · exact hs.rdH j b e1
    · have := mem_one ho
      injection this with e1 e2
      subst e1
      exact ⟨.rowk e sz es m cap, by simp⟩
    · have := mem_one ho
      injection this with e1 e2
      subst e1 e2
      simp [List.lookup_cons]
    · have := mem_one ho; cases this
    · have : j = i := by simpa [AV.ids] using hj
      subst this
      exact (hDH _ _ hi).1
    · have := mem_one hb
      injection this with e1 e2
      injection e2 with e2
      subst e2
      simp [Blk.ids] at hj'
/-- An append beyond the room: a new row. -/
theorem w_appendG {e sz b i m cap : Nat} [hT : SlT P t e sz b] {es es' : List (List RV)} {rd : List (Nat × Blk)} (hx : evA (get E) x = .ow i) (hi : getH H i = some (.rowk e sz es m cap)) (hs : SrcK (get E) (getH H) e sz y es' rd) (hroom : cap < m + es'.length)
    (hlen : (m + es'.length) * b ≤ 140737488355328 ∧ m + es'.length ≤ 140737488355328)
    (hd : Nat.blt d N = true) (hg : Wanted ops (get E) ⟨some d, .call { callee := .builtin .append, args := #[x, y], argTypes := #[t, t] }, ty, pos, af, g⟩ true)
    (h : wpA P L N ops chk Q l ⟨(d, .ow n) :: E, (n, some (.row e sz (es.take m ++ es'))) :: H, n + 1⟩ ((n, ⟨true, (i, .rowk e sz es m cap) :: rd, .ow n, [], [.row e sz (es.take m ++ es')]⟩) :: tr)) :
    wpA P L N ops chk Q (⟨some d, .call { callee := .builtin .append, args := #[x, y], argTypes := #[t, t] }, ty, pos, af, g⟩ :: l) ⟨E, H, n⟩ tr := by
  refine w_make hd hg (out := .ow n) (b := .row e sz (es.take m ++ es')) (rd := (i, .rowk e sz es m cap) :: rd) ⟨fun j c hj => ?_, rfl, fun i hi => by simp [Blk.ids] at hi, fun a w Z M hM hr hh => ?_⟩ rfl h
  · rcases List.mem_cons.1 hj with e1 | e1
    · injection e1 with e1 e2; subst e1 e2; exact hi
    · exact hs.rdH j c e1
  have hxr : (evA (get E) x).rep Z M w (a.eval x) := hr x (by simp [Op.operands, Call.operands])
  rw [hx, AV.rep] at hxr
  obtain ⟨q, us, f1, g1, f3, f4, f5⟩ := hh i (.rowk e sz es m cap) (by simp)
  obtain ⟨A, c, news, h4, h5, h6, h7, h8⟩ := hs.val (hr y (by simp [Op.operands, Call.operands])) (fun j c hj => hh j c (List.mem_cons_of_mem _ hj))
  obtain ⟨ti, z, t1, t2, t3, t4, t5⟩ := SlT.inf (P := P) (t := t) (e := e) (sz := sz) (b := b)
  have tu := SlT.und (P := P) (t := t) (e := e) (sz := sz) (b := b)
  have tp := SlT.pos (P := P) (t := t) (e := e) (sz := sz) (b := b)
  have hcur : ∃ cur : Array Value, w.heap[q]? = some (.cells cur e (0, 0)) ∧ es.length ≤ cap ∧ cur.toList.take (es.length * sz) = us := by
    rcases g1.2 with ⟨e', _⟩ | ⟨q', cap', cur, e', _, k1, k2, k3, k4, k5⟩
    · cases e'
    · injection e' with e1 e2 e3
      injection e1 with e1
      injection e1 with e1
      subst e1 e3
      exact ⟨cur, k1, k2, k5⟩
  obtain ⟨cur, k1, k2, k5⟩ := hcur
  obtain ⟨ad, rfl, hc⟩ := h6 (by omega)
  have hul : (us.take (m * sz)).length = m * sz := by rw [List.length_take, g1.1]; exact Nat.min_eq_left (Nat.mul_le_mul_right _ f3)
  obtain ⟨v', w', h9, h10, h11⟩ := run_append_arg_grows (P := P) w t ty e ti z sz b tu t1 t2 t3 t4 t5 tp ⟨q, 0, none⟩ m cap (us.take (m * sz)) hul (fun j u hj => by
    rw [add_mid, Nat.zero_add, cell_of_row w q j cur e (0, 0) k1]
    rw [← k5, List.take_take, List.getElem?_take] at hj
    split at hj
    · simpa using hj
    · cases hj) ad es'.length c news h5 hc hroom (by unfold maxLen; omega) hlen.1
  obtain ⟨b3, A2, c2, b4⟩ := own_blk (show w'.ownsRow 0 e sz v' (m + es'.length) (us.take (m * sz) ++ news) from ⟨h10.1, h10.2.imp id fun ⟨g, cap, cur, e1, _, r⟩ => ⟨g, cap, cur, e1, Nat.zero_le _, r⟩⟩)
  have hb : Below w.heap.size w w' := ⟨h11.os, h11.tape, h11.output, h11.size, fun q hq => h11.block q hq (fun e => by cases e)⟩
  have hnew : ∀ q, blk v' = some q → w.heap.size ≤ q := fun q hq => by
    rcases h10.2 with ⟨e1, _⟩ | ⟨g, cap, cur, e1, hge, _⟩
    · rw [e1] at hq; cases hq
    · rw [e1] at hq; simp [blk] at hq; omega
  have hB : ∀ q, q < w.heap.size → (M q ∨ blk v' = some q) → M q := fun q hq h => by
    rcases h with h | h
    · exact h
    · have := hnew q h; omega
  have hfl := (flatten_drop_take sz es f5 m).2
  refine ⟨v', v', w', ?_, hb, hnew, fun Z' hz' hzo => ⟨by rw [AV.rep, hz'], fun _ => ⟨us.take (m * sz) ++ news, ?_, ?_, fun e he => ?_⟩⟩⟩
  · simp only [execOp, resolve, invoke, builtin, Sem.run_bind, Sem.run_pure, Result.andThen_ok, List.map_toArray, List.map_cons, List.map_nil, hxr, f1, h4, h9]
  · rw [hz', List.length_append, List.length_take, Nat.min_eq_left f3]
    exact ⟨h10.1, h10.2.imp id fun ⟨g, cap, cur, e1, _, r⟩ => ⟨g, cap, cur, e1, Nat.zero_le _, r⟩⟩
  · rw [List.flatten_append, hfl]
    exact ((f4.take _).mono (Upto.of_below hb) hB).append (h7.mono (Upto.of_below hb) hB)
  · rcases List.mem_append.1 he with he | he
    · exact f5 e (List.mem_of_mem_take he)
    · exact h8 e he
end
section
variable {H : Nat → Option Blk} {ρ : Nat → Nat} {G : List Nat} {env : Nat → AV} {x : Operand} {as ds : List AV}
theorem cl_fzk {j T sz n c : Nat} {es es' : List (List RV)} (hx : evA env x = .ow j) (hj : H j = some (.rowk T sz es n c)) (h : CfL H ρ G as ds) (e : es.take n = es') (hg : j ∈ G) : CfL H ρ G (evA env x :: as) (.r (.sl sz es') :: ds) := by subst e; rw [hx]; exact .cons _ _ _ _ (.fzk _ _ _ _ _ _ hj hg) h
theorem cl_fzl {j T sz n c m : Nat} {es es' : List (List RV)} (hx : evA env x = .ol j m) (hj : H j = some (.rowk T sz es n c)) (h : CfL H ρ G as ds) (e : es.take m = es') (hg : j ∈ G) (hm : m ≤ es.length) : CfL H ρ G (evA env x :: as) (.r (.sl sz es') :: ds) := by subst e; rw [hx]; exact .cons _ _ _ _ (.fzl _ _ _ _ _ _ _ hj hg hm) h
theorem cl_fzo {j T sz m : Nat} {es es' : List (List RV)} (hx : evA env x = .ol j m) (hj : H j = some (.row T sz es)) (h : CfL H ρ G as ds) (e : es.take m = es') (hg : j ∈ G) (hm : m ≤ es.length) : CfL H ρ G (evA env x :: as) (.r (.sl sz es') :: ds) := by subst e; rw [hx]; exact .cons _ _ _ _ (.fzo _ _ _ _ _ hj hg hm) h
theorem cl_fzr {j T sz : Nat} {es es' : List (List RV)} (hx : evA env x = .ow j) (hj : H j = some (.row T sz es)) (h : CfL H ρ G as ds) (e : es = es') (hg : j ∈ G) : CfL H ρ G (evA env x :: as) (.r (.sl sz es') :: ds) := cl_fz h e hg hj hx
theorem cl_fzg {j T sz : Nat} {es es' : List (List RV)} (hx : evA env x = .ow j) (hj : H j = some (.full T sz es)) (h : CfL H ρ G as ds) (e : es = es') (hg : j ∈ G) : CfL H ρ G (evA env x :: as) (.r (.sl sz es') :: ds) := cl_fzf h e hg hj hx
end
section
variable {P : Program} {env : Nat → AV} {H : Nat → Option Blk} {d : Option Tmp} {ty : TypeId} {pos : String} {af : Array Edge} {g : Option (Nat × Bool)} {t : TypeId} {x : Operand} {cs : List RV} {c : RV}
theorem p_load1o [OnT P t] (hx : evA env x = .rp (c :: cs)) : ReadOk P ⟨d, .load t x, ty, pos, af, g⟩ env H [] (.r c) := by
  obtain ⟨D, h1, h2⟩ := OnT.und (P := P) (t := t)
  exact p_load1 hx (by rw [h1, Option.map_some, h2])
theorem p_loadNa {n : Nat} [AgT P t n] (hx : evA env x = .rp cs) (hl : cs.length = n) : ReadOk P ⟨d, .load t x, ty, pos, af, g⟩ env H [] (.ag (cs.map .r)) := by
  obtain ⟨D, h1, h2⟩ := AgT.und (P := P) (t := t) (n := n)
  exact p_loadN hx (by rw [h1, Option.map_some, h2]) (by rw [AgT.size, hl])
end
theorem hl_rowk {S : St} {ρ : Nat → Nat} {G : List Nat} {lh : List (Nat × Option Blk)} {i T sz n c : Nat} {es es' : List (List RV)} (h : hLe S ρ G lh) (e : es = es') (hx : getH S.H (ρ i) = some (.rowk T sz es n c)) : hLe S ρ G ((i, some (.rowk T sz es' n c)) :: lh) := by
  subst e; exact ⟨⟨_, hx, .rowk _ _ _ _ _⟩, h⟩
end Go.Ab
