/- The second layer: slices that are full, strings. No conditions. -/
import Derived.Test.YtabgmodllifgjaaAb13
import Derived.ArgAppend
import Derived.Laws.BytesArg
import Derived.Laws.Strings
namespace Go.Ab
open Go.RowKit
set_option linter.unusedVariables false
set_option linter.unusedSimpArgs false

section
variable {P : Program} {L : Ln} {N : Nat} {ops : Array Oper} {chk : List (Nat × Sp) → Bool} {Q : St → Prop} {l : List Oper} {E : List (Nat × AV)} {H : List (Nat × Option Blk)} {n : Nat} {tr : List (Nat × Sp)}
variable {d : Nat} {ty : TypeId} {pos : String} {af : Array Edge} {g : Option (Nat × Bool)} {t : TypeId} {x y : Operand}

/-- A slice literal that is turned into bytes at once: '[]byte("..")'. -/
theorem is_bsconv {t : TypeId} {m : Nat} {ps : Array (Nat × Operand)} {s t' : TypeId} {x' : Operand} {o o' : Option Tmp} {ty' : TypeId} {pos' : String} {af' : Array Edge} {g' : Option (Nat × Bool)} {S : St}
    (h : wpA P L N ops chk Q (⟨o, .buildSlice t m ps, ty, pos, af, g⟩ :: ⟨o', .convert s t' x', ty', pos', af', g'⟩ :: l) S tr) : wpA P L N ops chk Q (⟨o, .buildSlice t m ps, ty, pos, af, g⟩ :: ⟨o', .convert s t' x', ty', pos', af', g'⟩ :: l) S tr := h
/-- The conversion: the slice stays what it is. -/
theorem w_strb {e i : Nat} {es : List (List RV)} (hx : evA (get E) x = .ow i) (hi : getH H i = some (.full e 1 es)) (hu : P.underlying t = some (.slice (P.elem t))) (he : P.underlying (P.elem t) = some (.int .u8))
    (hd : Nat.blt d N = true) (hg : Wanted ops (get E) ⟨some d, .convert t t x, ty, pos, af, g⟩ true)
    (h : wpA P L N ops chk Q l ⟨(d, .ow i) :: E, (i, some (.full e 1 es)) :: H, n⟩ ((n, ⟨true, [(i, .full e 1 es)], .ow i, [(i, some (.full e 1 es))], []⟩) :: tr)) :
    wpA P L N ops chk Q (⟨some d, .convert t t x, ty, pos, af, g⟩ :: l) ⟨E, H, n⟩ tr := by
  refine ⟨⟨true, [(i, .full e 1 es)], .ow i, [(i, some (.full e 1 es))], []⟩, ⟨fun x hx => ?_, hg, fun _ a w Z M hM hr hh hdist => ?_, (fun h => by cases h), fun D hD hDH hf => ?_⟩, h⟩
  · injection hx with hx; subst hx; exact blt_t.1 hd
  · have hxr : (evA (get E) x).rep Z M w (a.eval x) := hr x (by simp [Op.operands])
    rw [hx, AV.rep] at hxr
    obtain ⟨⟨q, us, fr, h1, h2, h3, h4, h5⟩, hMi⟩ := hh i (.full e 1 es) (by simp)
    have hsh : w.shape? q = some (e, us.size) := by unfold World.shape?; rw [h2]
    have hfr : ∃ fr', (w.freeze ⟨q, us.size, none⟩ 1).heap[q]? = some (.cells us e fr') := by
      unfold World.freeze
      rw [if_neg (by omega)]
      obtain ⟨lo, hi⟩ := fr
      refine ⟨if lo == hi then (us.size, us.size + 1) else (min lo us.size, max hi (us.size + 1)), ?_⟩
      simp only [Array.getElem?_modify]
      rw [if_pos trivial, h2]
      rfl
    obtain ⟨fr', hfr⟩ := hfr
    have hoth : ∀ k, k ≠ q → (w.freeze ⟨q, us.size, none⟩ 1).heap[k]? = w.heap[k]? := fun k hk => by
      unfold World.freeze
      rw [if_neg (by omega)]
      simp only [Array.getElem?_modify]
      rw [if_neg (Ne.symm hk)]
    have hU : Upto (fun k => k = q) w (w.freeze ⟨q, us.size, none⟩ 1) := by
      refine ⟨?_, ?_, ?_, ?_, fun k _ hk => hoth k hk⟩
      · unfold World.freeze; rw [if_neg (by omega)]
      · unfold World.freeze; rw [if_neg (by omega)]
      · unfold World.freeze; rw [if_neg (by omega)]
      · unfold World.freeze; rw [if_neg (by omega)]; simp
    have hblk : blk (Z i) = some q := by rw [h1]; rfl
    have hex : (execOp a.eval ⟨some d, .convert t t x, ty, pos, af, g⟩).run P w = .ok (.value (Z i)) (w.freeze ⟨q, us.size, none⟩ 1) := by
      have hev : a.eval x = .slice (some ⟨q, 0, none⟩) es.length es.length := by rw [hxr, h1]
      simp only [execOp, hev, h1]
      have : (convert t t (.slice (some ⟨q, 0, none⟩) es.length es.length)).run P w = .ok (.slice (some ⟨q, 0, none⟩) es.length es.length) (w.freeze ⟨q, us.size, none⟩ 1) := by
        simp [convert, run_underlying hu, run_underlying he, markStringish, shape, freeze, Sem.run, hsh]
      simp only [Sem.run_bind, this, Result.andThen_ok, Sem.run_pure]
    have hUM : Upto M w (w.freeze ⟨q, us.size, none⟩ 1) := hU.mono fun k _ hk => by subst hk; exact hMi _ hblk
    refine exec_value hex ⟨Z, fun _ _ => rfl, by rw [AV.rep], fun j c hj => ?_, fun j b h => by simp at h, fun j j' x h => by simp at h, fun j x h => by simp at h, hU.mono fun k _ hk => by subst hk; exact ⟨i, some (.full e 1 es), by simp, hblk⟩⟩
    have := mem_one hj
    injection this with e1 e2
    injection e2 with e2
    subst e1 e2
    exact ⟨q, us, fr', h1, hfr, h3, h4.mono hUM fun k _ hk => new_nil rfl hk, h5⟩
  · refine ⟨fun j b hj => ?_, fun j o ho => ?_, fun j o ho => ?_, fun j ho => ?_, hf, fun j hj => .inl ?_, fun b hb j hj => by simp at hb, fun j b hb j' hj' => ?_⟩
    · have := mem_one hj
      injection this with e1 e2
      subst e1 e2
      exact hi
    · have := mem_one ho
      injection this with e1 e2
      subst e1
      exact ⟨.full e 1 es, by simp⟩
    · have := mem_one ho
      injection this with e1 e2
      subst e1 e2
      simp [List.lookup_cons]
    · have := mem_one ho; cases this
    · have : j = i := by simpa [AV.ids] using hj
      subst this
      exact (hDH _ _ hi).1
    · have := mem_one hb
      injection this with e1 e2
      injection e2 with e2
      subst e2
      simp [Blk.ids] at hj'
/-- An append onto a full slice. -/
theorem w_appendF {e sz b i : Nat} [hT : SlT P t e sz b] {es es' : List (List RV)} {rd : List (Nat × Blk)} (hx : evA (get E) x = .ow i) (hi : getH H i = some (.full e sz es)) (hs : Src (get E) (getH H) e sz y es' rd) (h0 : 0 < es'.length)
    (hlen : (es.length + es'.length) * b ≤ 140737488355328 ∧ es.length + es'.length ≤ 140737488355328)
    (hd : Nat.blt d N = true) (hg : Wanted ops (get E) ⟨some d, .call { callee := .builtin .append, args := #[x, y], argTypes := #[t, t] }, ty, pos, af, g⟩ true)
    (h : wpA P L N ops chk Q l ⟨(d, .ow n) :: E, (n, some (.row e sz (es ++ es'))) :: H, n + 1⟩ ((n, ⟨true, (i, .full e sz es) :: rd, .ow n, [], [.row e sz (es ++ es')]⟩) :: tr)) :
    wpA P L N ops chk Q (⟨some d, .call { callee := .builtin .append, args := #[x, y], argTypes := #[t, t] }, ty, pos, af, g⟩ :: l) ⟨E, H, n⟩ tr := by
  refine w_make hd hg (out := .ow n) (b := .row e sz (es ++ es')) (rd := (i, .full e sz es) :: rd) ⟨fun j c hj => ?_, rfl, fun i hi => by simp [Blk.ids] at hi, fun a w Z M hM hr hh => ?_⟩ rfl h
  · rcases List.mem_cons.1 hj with e1 | e1
    · injection e1 with e1 e2; subst e1 e2; exact hi
    · exact hs.rdH j c e1
  have hxr : (evA (get E) x).rep Z M w (a.eval x) := hr x (by simp [Op.operands, Call.operands])
  rw [hx, AV.rep] at hxr
  obtain ⟨q, us, fr, f1, f2, f3, f4, f5⟩ := hh i (.full e sz es) (by simp)
  obtain ⟨A, c, news, h4, h5, h6, h7, h8⟩ := hs.val (hr y (by simp [Op.operands, Call.operands])) (fun j c hj => hh j c (List.mem_cons_of_mem _ hj))
  obtain ⟨ad, rfl, hc⟩ := h6 (by omega)
  obtain ⟨ti, z, t1, t2, t3, t4, t5⟩ := SlT.inf (P := P) (t := t) (e := e) (sz := sz) (b := b)
  have tu := SlT.und (P := P) (t := t) (e := e) (sz := sz) (b := b)
  have tp := SlT.pos (P := P) (t := t) (e := e) (sz := sz) (b := b)
  have hul : us.toList.length = es.length * sz := by rw [← f4.len, flatten_len sz es f5]
  obtain ⟨v', w', h9, h10, h11⟩ := run_append_arg_grows (P := P) w t ty e ti z sz b tu t1 t2 t3 t4 t5 tp ⟨q, 0, none⟩ es.length es.length us.toList hul (fun j u hj => by
    rw [add_mid, Nat.zero_add, cell_of_row w q j us e fr f2]; simpa using hj) ad es'.length c news h5 hc (by omega) (by unfold maxLen; omega) hlen.1
  obtain ⟨b3, A2, c2, b4⟩ := own_blk (show w'.ownsRow 0 e sz v' (es.length + es'.length) (us.toList ++ news) from ⟨h10.1, h10.2.imp id fun ⟨g, cap, cur, e1, _, r⟩ => ⟨g, cap, cur, e1, Nat.zero_le _, r⟩⟩)
  have hb : Below w.heap.size w w' := ⟨h11.os, h11.tape, h11.output, h11.size, fun q hq => h11.block q hq (fun e => by cases e)⟩
  have hnew : ∀ q, blk v' = some q → w.heap.size ≤ q := fun q hq => by
    rcases h10.2 with ⟨e1, _⟩ | ⟨g, cap, cur, e1, hge, _⟩
    · rw [e1] at hq; cases hq
    · rw [e1] at hq; simp [blk] at hq; omega
  have hB : ∀ q, q < w.heap.size → (M q ∨ blk v' = some q) → M q := fun q hq h => by
    rcases h with h | h
    · exact h
    · have := hnew q h; omega
  refine ⟨v', v', w', ?_, hb, hnew, fun Z' hz' hzo => ⟨by rw [AV.rep, hz'], fun _ => ⟨us.toList ++ news, ?_, ?_, fun e he => ?_⟩⟩⟩
  · simp only [execOp, resolve, invoke, builtin, Sem.run_bind, Sem.run_pure, Result.andThen_ok, List.map_toArray, List.map_cons, List.map_nil, hxr, f1, h4, h9]
  · rw [hz', List.length_append]
    exact ⟨h10.1, h10.2.imp id fun ⟨g, cap, cur, e1, _, r⟩ => ⟨g, cap, cur, e1, Nat.zero_le _, r⟩⟩
  · rw [List.flatten_append]
    exact (f4.mono (Upto.of_below hb) hB).append (h7.mono (Upto.of_below hb) hB)
  · rcases List.mem_append.1 he with he | he
    · exact f5 e he
    · exact h8 e he
end

/-! ## Strings -/
section
variable {P : Program} {env : Nat → AV} {H : Nat → Option Blk} {d : Option Tmp} {ty : TypeId} {pos : String} {af : Array Edge} {g : Option (Nat × Bool)}
variable {t u : TypeId} {x y : Operand}
theorem p_len_str {s : ByteArray} (hx : evA env x = .r (.v (.string s))) (ht : P.underlying t = some .string) : ReadOk P ⟨d, .call { callee := .builtin .len, args := #[x], argTypes := #[t] }, ty, pos, af, g⟩ env H [] (.r (.v (.int .i64 s.size))) := by
  refine ⟨fun i b h => mem_nil h, fun i hi => by simp [AV.ids] at hi, fun a w Z M hr _ => ?_⟩
  have h2 := ev_v hx (hr x (by simp [Op.operands, Call.operands]))
  refine ⟨.int .i64 s.size, ?_, by rw [AV.rep, RV.rep]⟩
  have : (Builtin.len_ #[t] ty #[.string s]).run P w = .ok (goInt s.size) w := by simp [Builtin.len_, run_underlying ht]
  simp [execOp, resolve, h2, invoke, builtin, this, goInt]
theorem bys_vals {B : Nat → Prop} {w : World} : ∀ (l : List UInt8) (us : List Value), RVs B w (bys l).flatten us → us = (l.map fun b => (b.toNat : Int)).map (Value.int .u8)
  | [], us, h => by cases h; rfl
  | b :: l, us, h => by
    rw [bys, List.map_cons, List.flatten_cons] at h
    cases h with
    | cons q1 q2 q3 =>
      rw [RV.rep] at q2
      rw [List.map_cons, List.map_cons, q2, bys_vals l _ q3]
theorem p_tostr {l : List UInt8} (hx : evA env x = .r (.sl 1 (bys l))) (ht : P.underlying t = some (.slice (P.elem t))) (he : P.underlying (P.elem t) = some (.int .u8)) (hu : P.underlying u = some .string) : ReadOk P ⟨d, .convert t u x, ty, pos, af, g⟩ env H [] (.r (.v (.string ⟨l.toArray⟩))) := by
  refine ⟨fun i b h => mem_nil h, fun i hi => by simp [AV.ids] at hi, fun a w Z M hr _ => ?_⟩
  have h1 := hr x (by simp [Op.operands])
  rw [hx, AV.rep, RV.rep, bys_len] at h1
  obtain ⟨A, c, h2, h3, h4, h5, h6⟩ := h1
  refine ⟨.string ⟨l.toArray⟩, ?_, by rw [AV.rep, RV.rep]⟩
  have key : (convert t u (.slice A l.length c)).run P w = .ok (.string ⟨l.toArray⟩) w := by
    rw [run_convert_bytes_string w t u _ A l.length c ht he hu]
    rcases A with _ | ad
    · have : l = [] := by
        cases l with
        | nil => rfl
        | cons b l => obtain ⟨ad, e, _⟩ := h6 (by simp [bys]); cases e
      subst this
      rfl
    · have hl : (loadCells ad l.length).run P w = .ok ((l.map fun b => (b.toNat : Int)).map (Value.int .u8)).toArray w := by
        by_cases hn : l = []
        · subst hn; rfl
        · obtain ⟨ad', e1, _, _, h7⟩ := h6 (by simpa [bys] using hn)
          injection e1 with e1
          subst e1
          rw [RV.rows_flat, RV.row_vals] at h7
          obtain ⟨us, h8, h9⟩ := h7
          have hus := bys_vals l us h8
          have := run_loadCells_list (P := P) w ad us (fun j v hj => by have := h9 j v hj; rwa [Nat.zero_add] at this)
          rw [hus] at this
          simpa using this
      rw [run_bytesToString w ad l.length c _ hl, foldl_push_bytes]
      simp [ByteArray.empty, ByteArray.emptyWithCapacity]
      congr 1
      have : l.map ((fun n : Int => UInt8.ofNat n.toNat) ∘ fun b : UInt8 => (b.toNat : Int)) = l := by
        conv => rhs; rw [← List.map_id l]
        apply List.map_congr_left
        intro b _
        simp
      first | exact this | (rw [this]) | simpa using this
  simp only [execOp, h2, Sem.run_bind, key, Result.andThen_ok, Sem.run_pure]
theorem p_seql {a b : ByteArray} (hx : evA env x = .r (.v (.string a))) (hy : evA env y = .r (.v (.string b))) : ReadOk P ⟨d, .binOp .eql t x y u, ty, pos, af, g⟩ env H [] (.r (.v (.bool (decide (a.toList = b.toList))))) :=
  p_exact2 rfl hx hy fun ρ w h1 h2 => by simp [execOp, h1, h2, go_sem]; rw [Bool.eq_iff_iff]; simp
theorem p_sneq {a b : ByteArray} (hx : evA env x = .r (.v (.string a))) (hy : evA env y = .r (.v (.string b))) : ReadOk P ⟨d, .binOp .neq t x y u, ty, pos, af, g⟩ env H [] (.r (.v (.bool (decide (¬ a.toList = b.toList))))) :=
  p_exact2 rfl hx hy fun ρ w h1 h2 => by simp [execOp, h1, h2, go_sem]; rw [Bool.eq_iff_iff]; simp
end
end Go.Ab
