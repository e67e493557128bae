/- Texts of the second layer in one: Ab14 Ab15 Ab16. -/
import Derived.Test.YtibedaeefnjjlaaGreatG8
import Derived.ArgAppend
import Derived.Laws.BytesArg
import Derived.Laws.Strings
/- The second layer: slices that are full, strings. No conditions. -/
namespace Go.Ab
open Go.RowKit
set_option linter.unusedVariables false
set_option linter.unusedSimpArgs false

section
variable {P : Program} {L : Ln} {N : Nat} {ops : Array Oper} {chk : List (Nat × Sp) → Bool} {Q : St → Prop} {l : List Oper} {E : List (Nat × AV)} {H : List (Nat × Option Blk)} {n : Nat} {tr : List (Nat × Sp)}
variable {d : Nat} {ty : TypeId} {pos : String} {af : Array Edge} {g : Option (Nat × Bool)} {t : TypeId} {x y : Operand}

/-- A slice literal that is turned into bytes at once: '[]byte("..")'. -/
theorem is_bsconv {t : TypeId} {m : Nat} {ps : Array (Nat × Operand)} {s t' : TypeId} {x' : Operand} {o o' : Option Tmp} {ty' : TypeId} {pos' : String} {af' : Array Edge} {g' : Option (Nat × Bool)} {S : St}
    (h : wpA P L N ops chk Q (⟨o, .buildSlice t m ps, ty, pos, af, g⟩ :: ⟨o', .convert s t' x', ty', pos', af', g'⟩ :: l) S tr) : wpA P L N ops chk Q (⟨o, .buildSlice t m ps, ty, pos, af, g⟩ :: ⟨o', .convert s t' x', ty', pos', af', g'⟩ :: l) S tr := h
/-- The conversion: the slice stays what it is. -/
theorem w_strb {e i : Nat} {es : List (List RV)} (hx : evA (get E) x = .ow i) (hi : getH H i = some (.full e 1 es)) (hu : P.underlying t = some (.slice (P.elem t))) (he : P.underlying (P.elem t) = some (.int .u8))
    (hd : Nat.blt d N = true) (hg : Wanted ops (get E) ⟨some d, .convert t t x, ty, pos, af, g⟩ true)
    (h : wpA P L N ops chk Q l ⟨(d, .ow i) :: E, (i, some (.full e 1 es)) :: H, n⟩ ((n, ⟨true, [(i, .full e 1 es)], .ow i, [(i, some (.full e 1 es))], []⟩) :: tr)) :
    wpA P L N ops chk Q (⟨some d, .convert t t x, ty, pos, af, g⟩ :: l) ⟨E, H, n⟩ tr := by
  refine ⟨⟨true, [(i, .full e 1 es)], .ow i, [(i, some (.full e 1 es))], []⟩, ⟨fun x hx => ?_, hg, fun _ a w Z M hM hr hh hdist => ?_, (fun h => by cases h), fun D hD hDH hf => ?_⟩, h⟩
  · injection hx with hx; subst hx; exact blt_t.1 hd
  · have hxr : (evA (get E) x).rep Z M w (a.eval x) := hr x (by simp [Op.operands])
    rw [hx, AV.rep] at hxr
    obtain ⟨⟨q, us, fr, h1, h2, h3, h4, h5⟩, hMi⟩ := hh i (.full e 1 es) (by simp)
    have hsh : w.shape? q = some (e, us.size) := by unfold World.shape?; rw [h2]
    have hfr : ∃ fr', (w.freeze ⟨q, us.size, none⟩ 1).heap[q]? = some (.cells us e fr') := by
      unfold World.freeze
      rw [if_neg (by omega)]
      obtain ⟨lo, hi⟩ := fr
      refine ⟨if lo == hi then (us.size, us.size + 1) else (min lo us.size, max hi (us.size + 1)), ?_⟩
      simp only [Array.getElem?_modify]
      rw [if_pos trivial, h2]
      rfl
    obtain ⟨fr', hfr⟩ := hfr
    have hoth : ∀ k, k ≠ q → (w.freeze ⟨q, us.size, none⟩ 1).heap[k]? = w.heap[k]? := fun k hk => by
      unfold World.freeze
      rw [if_neg (by omega)]
      simp only [Array.getElem?_modify]
      rw [if_neg (Ne.symm hk)]
    have hU : Upto (fun k => k = q) w (w.freeze ⟨q, us.size, none⟩ 1) := by
      refine ⟨?_, ?_, ?_, ?_, fun k _ hk => hoth k hk⟩
      · unfold World.freeze; rw [if_neg (by omega)]
      · unfold World.freeze; rw [if_neg (by omega)]
      · unfold World.freeze; rw [if_neg (by omega)]
      · unfold World.freeze; rw [if_neg (by omega)]; simp
    have hblk : blk (Z i) = some q := by rw [h1]; rfl
    have hex : (execOp a.eval ⟨some d, .convert t t x, ty, pos, af, g⟩).run P w = .ok (.value (Z i)) (w.freeze ⟨q, us.size, none⟩ 1) := by
      have hev : a.eval x = .slice (some ⟨q, 0, none⟩) es.length es.length := by rw [hxr, h1]
      simp only [execOp, hev, h1]
      have : (convert t t (.slice (some ⟨q, 0, none⟩) es.length es.length)).run P w = .ok (.slice (some ⟨q, 0, none⟩) es.length es.length) (w.freeze ⟨q, us.size, none⟩ 1) := by
        simp [convert, run_underlying hu, run_underlying he, markStringish, shape, freeze, Sem.run, hsh]
      simp only [Sem.run_bind, this, Result.andThen_ok, Sem.run_pure]
    have hUM : Upto M w (w.freeze ⟨q, us.size, none⟩ 1) := hU.mono fun k _ hk => by subst hk; exact hMi _ hblk
    refine exec_value hex ⟨Z, fun _ _ => rfl, by rw [AV.rep], fun j c hj => ?_, fun j b h => by simp at h, fun j j' x h => by simp at h, fun j x h => by simp at h, hU.mono fun k _ hk => by subst hk; exact ⟨i, some (.full e 1 es), by simp, hblk⟩⟩
    have := mem_one hj
    injection this with e1 e2
    injection e2 with e2
    subst e1 e2
    exact ⟨q, us, fr', h1, hfr, h3, h4.mono hUM fun k _ hk => new_nil rfl hk, h5⟩
  · refine ⟨fun j b hj => ?_, fun j o ho => ?_, fun j o ho => ?_, fun j ho => ?_, hf, fun j hj => .inl ?_, fun b hb j hj => by simp at hb, fun j b hb j' hj' => ?_⟩
    · have := mem_one hj
      injection this with e1 e2
      subst e1 e2
      exact hi
    · have := mem_one ho
      injection this with e1 e2
      subst e1
      exact ⟨.full e 1 es, by simp⟩
    · have := mem_one ho
      injection this with e1 e2
      subst e1 e2
      simp [List.lookup_cons]
    · have := mem_one ho; cases this
    · have : j = i := by simpa [AV.ids] using hj
      subst this
      exact (hDH _ _ hi).1
    · have := mem_one hb
      injection this with e1 e2
      injection e2 with e2
      subst e2
      simp [Blk.ids] at hj'
/-- An append onto a full slice. -/
theorem w_appendF {e sz b i : Nat} [hT : SlT P t e sz b] {es es' : List (List RV)} {rd : List (Nat × Blk)} (hx : evA (get E) x = .ow i) (hi : getH H i = some (.full e sz es)) (hs : Src (get E) (getH H) e sz y es' rd) (h0 : 0 < es'.length)
    (hlen : (es.length + es'.length) * b ≤ 211106232532992 ∧ es.length + es'.length ≤ 211106232532992)
    (hd : Nat.blt d N = true) (hg : Wanted ops (get E) ⟨some d, .call { callee := .builtin .append, args := #[x, y], argTypes := #[t, t] }, ty, pos, af, g⟩ true)
    (h : wpA P L N ops chk Q l ⟨(d, .ow n) :: E, (n, some (.row e sz (es ++ es'))) :: H, n + 1⟩ ((n, ⟨true, (i, .full e sz es) :: rd, .ow n, [], [.row e sz (es ++ es')]⟩) :: tr)) :
    wpA P L N ops chk Q (⟨some d, .call { callee := .builtin .append, args := #[x, y], argTypes := #[t, t] }, ty, pos, af, g⟩ :: l) ⟨E, H, n⟩ tr := by
  refine w_make hd hg (out := .ow n) (b := .row e sz (es ++ es')) (rd := (i, .full e sz es) :: rd) ⟨fun j c hj => ?_, rfl, fun i hi => by simp [Blk.ids] at hi, fun a w Z M hM hr hh => ?_⟩ rfl h
  · rcases List.mem_cons.1 hj with e1 | e1
    · injection e1 with e1 e2; subst e1 e2; exact hi
    · exact hs.rdH j c e1
  have hxr : (evA (get E) x).rep Z M w (a.eval x) := hr x (by simp [Op.operands, Call.operands])
  rw [hx, AV.rep] at hxr
  obtain ⟨q, us, fr, f1, f2, f3, f4, f5⟩ := hh i (.full e sz es) (by simp)
  obtain ⟨A, c, news, h4, h5, h6, h7, h8⟩ := hs.val (hr y (by simp [Op.operands, Call.operands])) (fun j c hj => hh j c (List.mem_cons_of_mem _ hj))
  obtain ⟨ad, rfl, hc⟩ := h6 (by omega)
  obtain ⟨ti, z, t1, t2, t3, t4, t5⟩ := SlT.inf (P := P) (t := t) (e := e) (sz := sz) (b := b)
  have tu := SlT.und (P := P) (t := t) (e := e) (sz := sz) (b := b)
  have tp := SlT.pos (P := P) (t := t) (e := e) (sz := sz) (b := b)
  have hul : us.toList.length = es.length * sz := by rw [← f4.len, flatten_len sz es f5]
  obtain ⟨v', w', h9, h10, h11⟩ := run_append_arg_wide (P := P) w t ty e ti z sz b tu t1 t2 t3 t4 t5 tp ⟨q, 0, none⟩ es.length es.length us.toList hul (fun j u hj => by
    rw [add_mid, Nat.zero_add, cell_of_row w q j us e fr f2]; simpa using hj) ad es'.length c news h5 hc (by omega) (by unfold maxLen; omega) (wide_bound hlen.1 (SlT.small (P := P) (t := t) (e := e) (sz := sz)))
  obtain ⟨b3, A2, c2, b4⟩ := own_blk (show w'.ownsRow 0 e sz v' (es.length + es'.length) (us.toList ++ news) from ⟨h10.1, h10.2.imp id fun ⟨g, cap, cur, e1, _, r⟩ => ⟨g, cap, cur, e1, Nat.zero_le _, r⟩⟩)
  have hb : Below w.heap.size w w' := ⟨h11.os, h11.tape, h11.output, h11.size, fun q hq => h11.block q hq (fun e => by cases e)⟩
  have hnew : ∀ q, blk v' = some q → w.heap.size ≤ q := fun q hq => by
    rcases h10.2 with ⟨e1, _⟩ | ⟨g, cap, cur, e1, hge, _⟩
    · rw [e1] at hq; cases hq
    · rw [e1] at hq; simp [blk] at hq; omega
  have hB : ∀ q, q < w.heap.size → (M q ∨ blk v' = some q) → M q := fun q hq h => by
    rcases h with h | h
    · exact h
    · have := hnew q h; omega
  refine ⟨v', v', w', ?_, hb, hnew, fun Z' hz' hzo => ⟨by rw [AV.rep, hz'], fun _ => ⟨us.toList ++ news, ?_, ?_, fun e he => ?_⟩⟩⟩
  · simp only [execOp, resolve, invoke, builtin, Sem.run_bind, Sem.run_pure, Result.andThen_ok, List.map_toArray, List.map_cons, List.map_nil, hxr, f1, h4, h9]
  · rw [hz', List.length_append]
    exact ⟨h10.1, h10.2.imp id fun ⟨g, cap, cur, e1, _, r⟩ => ⟨g, cap, cur, e1, Nat.zero_le _, r⟩⟩
  · rw [List.flatten_append]
    exact (f4.mono (Upto.of_below hb) hB).append (h7.mono (Upto.of_below hb) hB)
  · rcases List.mem_append.1 he with he | he
    · exact f5 e he
    · exact h8 e he
end

/-! ## Strings -/
section
variable {P : Program} {env : Nat → AV} {H : Nat → Option Blk} {d : Option Tmp} {ty : TypeId} {pos : String} {af : Array Edge} {g : Option (Nat × Bool)}
variable {t u : TypeId} {x y : Operand}
theorem p_len_str {s : ByteArray} (hx : evA env x = .r (.v (.string s))) (ht : P.underlying t = some .string) : ReadOk P ⟨d, .call { callee := .builtin .len, args := #[x], argTypes := #[t] }, ty, pos, af, g⟩ env H [] (.r (.v (.int .i64 s.size))) := by
  refine ⟨fun i b h => mem_nil h, fun i hi => by simp [AV.ids] at hi, fun a w Z M hr _ => ?_⟩
  have h2 := ev_v hx (hr x (by simp [Op.operands, Call.operands]))
  refine ⟨.int .i64 s.size, ?_, by rw [AV.rep, RV.rep]⟩
  have : (Builtin.len_ #[t] ty #[.string s]).run P w = .ok (goInt s.size) w := by simp [Builtin.len_, run_underlying ht]
  simp [execOp, resolve, h2, invoke, builtin, this, goInt]
theorem bys_vals {B : Nat → Prop} {w : World} : ∀ (l : List UInt8) (us : List Value), RVs B w (bys l).flatten us → us = (l.map fun b => (b.toNat : Int)).map (Value.int .u8)
  | [], us, h => by cases h; rfl
  | b :: l, us, h => by
    rw [bys, List.map_cons, List.flatten_cons] at h
    cases h with
    | cons q1 q2 q3 =>
      rw [RV.rep] at q2
      rw [List.map_cons, List.map_cons, q2, bys_vals l _ q3]
theorem p_tostr {l : List UInt8} (hx : evA env x = .r (.sl 1 (bys l))) (ht : P.underlying t = some (.slice (P.elem t))) (he : P.underlying (P.elem t) = some (.int .u8)) (hu : P.underlying u = some .string) : ReadOk P ⟨d, .convert t u x, ty, pos, af, g⟩ env H [] (.r (.v (.string ⟨l.toArray⟩))) := by
  refine ⟨fun i b h => mem_nil h, fun i hi => by simp [AV.ids] at hi, fun a w Z M hr _ => ?_⟩
  have h1 := hr x (by simp [Op.operands])
  rw [hx, AV.rep, RV.rep, bys_len] at h1
  obtain ⟨A, c, h2, h3, h4, h5, h6⟩ := h1
  refine ⟨.string ⟨l.toArray⟩, ?_, by rw [AV.rep, RV.rep]⟩
  have key : (convert t u (.slice A l.length c)).run P w = .ok (.string ⟨l.toArray⟩) w := by
    rw [run_convert_bytes_string w t u _ A l.length c ht he hu]
    rcases A with _ | ad
    · have : l = [] := by
        cases l with
        | nil => rfl
        | cons b l => obtain ⟨ad, e, _⟩ := h6 (by simp [bys]); cases e
      subst this
      rfl
    · have hl : (loadCells ad l.length).run P w = .ok ((l.map fun b => (b.toNat : Int)).map (Value.int .u8)).toArray w := by
        by_cases hn : l = []
        · subst hn; rfl
        · obtain ⟨ad', e1, _, _, h7⟩ := h6 (by simpa [bys] using hn)
          injection e1 with e1
          subst e1
          rw [RV.rows_flat, RV.row_vals] at h7
          obtain ⟨us, h8, h9⟩ := h7
          have hus := bys_vals l us h8
          have := run_loadCells_list (P := P) w ad us (fun j v hj => by have := h9 j v hj; rwa [Nat.zero_add] at this)
          rw [hus] at this
          simpa using this
      rw [run_bytesToString w ad l.length c _ hl, foldl_push_bytes]
      simp [ByteArray.empty, ByteArray.emptyWithCapacity]
      congr 1
      have : l.map ((fun n : Int => UInt8.ofNat n.toNat) ∘ fun b : UInt8 => (b.toNat : Int)) = l := by
        conv => rhs; rw [← List.map_id l]
        apply List.map_congr_left
        intro b _
        simp
      first | exact this | (rw [this]) | simpa using this
  simp only [execOp, h2, Sem.run_bind, key, Result.andThen_ok, Sem.run_pure]
theorem p_seql {a b : ByteArray} (hx : evA env x = .r (.v (.string a))) (hy : evA env y = .r (.v (.string b))) : ReadOk P ⟨d, .binOp .eql t x y u, ty, pos, af, g⟩ env H [] (.r (.v (.bool (decide (a.toList = b.toList))))) :=
  p_exact2 rfl hx hy fun ρ w h1 h2 => by simp [execOp, h1, h2, go_sem]; rw [Bool.eq_iff_iff]; simp
theorem p_sneq {a b : ByteArray} (hx : evA env x = .r (.v (.string a))) (hy : evA env y = .r (.v (.string b))) : ReadOk P ⟨d, .binOp .neq t x y u, ty, pos, af, g⟩ env H [] (.r (.v (.bool (decide (¬ a.toList = b.toList))))) :=
  p_exact2 rfl hx hy fun ρ w h1 h2 => by simp [execOp, h1, h2, go_sem]; rw [Bool.eq_iff_iff]; simp
end
end Go.Ab

/- The second layer: a nil check; a function that hands back a new variable. No conditions. -/
namespace Go.Ab
open Go.RowKit
set_option linter.unusedVariables false
set_option linter.unusedSimpArgs false
section
variable {P : Program} {L : Ln} {N : Nat} {ops : Array Oper} {chk : List (Nat × Sp) → Bool} {Q : St → Prop} {l : List Oper} {E : List (Nat × AV)} {H : List (Nat × Option Blk)} {n : Nat} {tr : List (Nat × Sp)}
variable {d' : Option Tmp} {env : Nat → AV} {HF : Nat → Option Blk}
variable {d : Nat} {ty : TypeId} {pos : String} {af : Array Edge} {g : Option (Nat × Bool)} {t u : TypeId} {x y : Operand}

theorem p_nilck_pt {i o : Nat} (hx : evA env x = .pt i o) : ReadOk P ⟨d', .nilCheck x, ty, pos, af, g⟩ env HF [] (.pt i o) := by
  refine ⟨fun i b h => mem_nil h, fun i hi => ids_ev hx i (by simpa [AV.ids] using hi), fun a w Z M hr _ => ?_⟩
  have h1 := hr x (by simp [Op.operands])
  rw [hx] at h1
  have h2 := h1
  rw [AV.rep] at h1
  obtain ⟨b, _, h3⟩ := h1
  refine ⟨a.eval x, ?_, h2⟩
  simp only [execOp, h3, Sem.run_pure]
theorem p_nilck_pe {i sz k f : Nat} (hx : evA env x = .pe i sz k f) : ReadOk P ⟨d', .nilCheck x, ty, pos, af, g⟩ env HF [] (.pe i sz k f) := by
  refine ⟨fun i b h => mem_nil h, fun i hi => ids_ev hx i (by simpa [AV.ids] using hi), fun a w Z M hr _ => ?_⟩
  have h1 := hr x (by simp [Op.operands])
  rw [hx] at h1
  have h2 := h1
  rw [AV.rep] at h1
  obtain ⟨b, _, h3⟩ := h1
  refine ⟨a.eval x, ?_, h2⟩
  simp only [execOp, h3, Sem.run_pure]
theorem p_nilck_rp {cs : List RV} (hx : evA env x = .rp cs) : ReadOk P ⟨d', .nilCheck x, ty, pos, af, g⟩ env HF [] (.rp cs) := by
  refine ⟨fun i b h => mem_nil h, fun i hi => ids_ev hx i (by simp [AV.ids] at hi), fun a w Z M hr _ => ?_⟩
  have h1 := hr x (by simp [Op.operands])
  rw [hx] at h1
  have h2 := h1
  rw [AV.rep] at h1
  obtain ⟨b, h3, _⟩ := h1
  refine ⟨a.eval x, ?_, h2⟩
  simp only [execOp, h3, Sem.run_pure]

theorem p_cuth_b {e b : Nat} [hT : SlT P t e 1 b] {k : IntKind} {a : Int} {m : Nat} {bs : List UInt8} (hx : evA env x = .r (.sl 1 (bys bs))) (hy : evA env y = .r (.v (.int k a))) (ha : a = (m : Int)) (hm : m ≤ bs.length) :
    ReadOk P ⟨d', .slice t x none (some y) none, ty, pos, af, g⟩ env HF [] (.r (.sl 1 (bys (bs.take m)))) := by
  rw [bys_take]; exact p_cuth hx hy ha (by rw [bys_len]; exact hm)
theorem p_cutl_b {e b : Nat} [hT : SlT P t e 1 b] {k : IntKind} {a : Int} {j : Nat} {bs : List UInt8} (hx : evA env x = .r (.sl 1 (bys bs))) (hy : evA env y = .r (.v (.int k a))) (ha : a = (j : Int)) (hj : j ≤ bs.length) :
    ReadOk P ⟨d', .slice t x (some y) none none, ty, pos, af, g⟩ env HF [] (.r (.sl 1 (bys (bs.drop j)))) := by
  rw [bys_drop]; exact p_cutl hx hy ha (by rw [bys_len]; exact hj)
theorem p_cut2_b {e b : Nat} [hT : SlT P t e 1 b] {k k' : IntKind} {a c : Int} {j m : Nat} {z : Operand} {bs : List UInt8} (hx : evA env x = .r (.sl 1 (bys bs))) (hy : evA env y = .r (.v (.int k a))) (hz : evA env z = .r (.v (.int k' c))) (ha : a = (j : Int)) (hc : c = (m : Int)) (hj : j ≤ m) (hm : m ≤ bs.length) :
    ReadOk P ⟨d', .slice t x (some y) (some z) none, ty, pos, af, g⟩ env HF [] (.r (.sl 1 (bys ((bs.drop j).take (m - j))))) := by
  rw [bys_take, bys_drop]; exact p_cut2 hx hy hz ha hc hj (by rw [bys_len]; exact hm)
/-- The contract of a function that hands back a pointer to a new variable. -/
def Makes (P : Program) (f : FuncId) (ds : List AV) (T : TypeId) (cs : List RV) : Prop :=
  ∀ (w : World) (Z : Nat → Value) (M : Nat → Prop) (us : List Value), (∀ x, M x → x < w.heap.size) → AV.reps Z M w ds us →
    Calls P f us.toArray w fun e w' => ∃ p vs, e = .returned (.pointer (some ⟨p, 0, none⟩)) ∧ w.heap.size ≤ p ∧ w'.heap[p]? = some (.cells vs T (0, 0)) ∧ RVs (fun q => M q ∨ w.heap.size ≤ q) w' cs vs.toList ∧ Below w.heap.size w w'
theorem w_new {f : FuncId} {xs : Array Operand} {ats : Array TypeId} {ds : List AV} {T : TypeId} {cs : List RV} (hm : Makes P f ds T cs) (hargs : CfL (getH H) (fun i => i) [] (xs.toList.map (evA (get E))) ds) (hf : callB P f = true) (hds : AV.idss ds = [])
    (hd : Nat.blt d N = true) (hg : Wanted ops (get E) ⟨some d, .call { callee := .value (.func f), args := xs, argTypes := ats }, ty, pos, af, g⟩ true)
    (h : wpA P L N ops chk Q l ⟨(d, .pt n 0) :: E, (n, some (.var T (cs.map .r))) :: H, n + 1⟩ ((n, ⟨true, [], .pt n 0, [], [.var T (cs.map .r)]⟩) :: tr)) :
    wpA P L N ops chk Q (⟨some d, .call { callee := .value (.func f), args := xs, argTypes := ats }, ty, pos, af, g⟩ :: l) ⟨E, H, n⟩ tr := by
  have hid : ∀ cs : List RV, AV.idss (cs.map .r) = [] := fun cs => by induction cs with | nil => rfl | cons c cs ih => rw [List.map_cons, AV.idss, ih]; rfl
  refine ⟨⟨true, [], .pt n 0, [], [.var T (cs.map .r)]⟩, ⟨fun x hx => ?_, hg, fun _ a w Z M hM hr hh hdist => ?_, (fun h => by cases h), fun D hD hDH hfree => ?_⟩, h⟩
  · injection hx with hx; subst hx; exact blt_t.1 hd
  · have hr' : ∀ x ∈ xs.toList, (evA (get E) x).rep Z M w (a.eval x) := fun x hx => hr x (by show x ∈ (#[Operand.func f] ++ xs).toList; rw [Array.toList_append]; exact List.mem_append_right _ hx)
    have hreps : AV.reps Z M w (xs.toList.map (evA (get E))) (xs.toList.map a.eval) := by
      revert hr'
      generalize xs.toList = ys
      intro hr'
      induction ys with
      | nil => rw [List.map_nil, AV.reps]; rfl
      | cons y ys ih => rw [List.map_cons, List.map_cons, AV.reps]; exact ⟨_, _, rfl, hr' y (by simp), ih fun x hx => hr' x (by simp [hx])⟩
    have hargs' := CfL.reps (Z := Z) (Z' := Z) (B := M) (B' := M) (w := w) (fun _ _ h => h) (fun j b hj hb => by cases hj) hargs (fun _ _ => rfl) _ hreps
    have hc := hm w Z M (xs.toList.map a.eval) hM hargs'
    refine exec_enter (exec_call hf a w) ?_
    have he : (xs.toList.map a.eval).toArray = xs.map a.eval := by rw [← Array.toList_map]
    rw [he] at hc
    refine hc.mono fun e w' ⟨p, vs, h1, h2, h3, h4, h5⟩ => ⟨_, h1, fun i => if i = n then .pointer (some ⟨p, 0, none⟩) else Z i, fun i hi => ?_, ?_, fun i b h => mem_nil h, fun j c hj => ?_, fun j j' q hj hj' hne => ?_, fun j q hj hq => .inl ?_, (Upto.of_below h5)⟩
    · have : i ≠ n := by simp at hi; omega
      simp [this]
    · simp only [AV.rep]
      exact ⟨p, by simp [blk], rfl⟩
    · have hj0 : j = 0 := by
        cases j with
        | zero => rfl
        | succ j => simp at hj
      subst hj0
      have : c = .var T (cs.map .r) := by simpa using hj.symm
      subst this
      have hr2 : ∀ (cs : List RV) (vs : List Value) (B : Nat → Prop), (∀ q, q < w'.heap.size → B q → M q ∨ w.heap.size ≤ q) → RVs (fun q => M q ∨ w.heap.size ≤ q) w' cs vs → AV.reps (fun i => if i = n then .pointer (some ⟨p, 0, none⟩) else Z i) B w' (cs.map .r) vs := by
        intro cs vs B hB h
        have h' := RVs.mono (Upto.refl _) hB h
        clear h
        induction h' with
        | nil => rw [List.map_nil, AV.reps]
        | cons h1 h2 _ ih => rw [List.map_cons, AV.reps]; exact ⟨_, _, rfl, by rw [AV.rep]; exact h2, ih⟩
      refine ⟨p, vs, by simp, h3, hr2 cs _ _ (fun q _ hq => ?_) h4, ?_⟩
      · rcases hq with h0 | ⟨j, hj, hq⟩
        · exact .inl h0
        · have : j = 0 := by simpa using hj
          subst this
          simp [blk] at hq
          exact .inr (by omega)
      · have := h4.one
        rw [Array.all_eq_true]
        intro i hi
        exact this _ (by simp)
    · simp at hj hj'; omega
    · have : j = 0 := by simpa using hj
      subst this
      simp [blk] at hq
      omega
  · refine ⟨fun i b h => mem_nil h, fun i o h => mem_nil h, fun i o h => mem_nil h, fun i h => mem_nil h, hfree, fun i hi => .inr ?_, fun c hc i hi => .inl ?_, fun i b h => mem_nil h⟩
    · have : i = n := by simpa [AV.ids] using hi
      subst this; simp
    · have : c = .var T (cs.map .r) := by simpa using hc
      subst this
      rw [Blk.ids, hid] at hi
      cases hi
end

theorem thenA_ret {K : St → Prop} {Q : Exit → St → Prop} {S : St} (h : Q .ret S) : thenA K Q .ret S := h
theorem blockA_ret {i : Nat} {Q : Exit → St → Prop} {S : St} (h : Q .ret S) : blockA i Q .ret S := h
/-! ## A fresh slice that is only read from then on -/
theorem row_read {Z : Nat → Value} {B B' : Nat → Prop} {w : World} {j T sz : Nat} {es : List (List RV)} (h : held Z B w j (.row T sz es)) (hB : ∀ q, q < w.heap.size → B' q → B q) (hn : ∀ x, blk (Z j) = some x → ¬ B' x) : RV.rep B' w (.sl sz es) (Z j) := by
  obtain ⟨us, h1, h2, h3⟩ := h
  exact rows_of_own (n := 0) h1 h2 h3 hB hn
theorem Meets.freeze {P : Program} {f : FuncId} {args : List AV} {T sz : Nat} {es : List (List RV)} (h : Meets P f args [] (.fr T sz es) []) : Meets P f args [] (.r (.sl sz es)) [] := by
  intro w Z M k us hM hk hargs hpre hd
  refine (h w Z M k us hM hk hargs hpre hd).mono fun e w' ⟨v, he, Z', A⟩ => ⟨v, he, Z, fun _ _ => rfl, ?_, fun i b h => by simp [callSp, numdP] at h, fun j b h => by simp [callSp, AV.unfr] at h, fun j j' x h => by simp [callSp, AV.unfr] at h, fun j x h => by simp [callSp, AV.unfr] at h, A.upto⟩
  have h1 := A.out
  have h2 := A.fr 0 (.row T sz es) (by simp [callSp, AV.unfr])
  have h3 := A.fresh 0
  simp only [callSp, AV.unfr, AV.rep, Nat.add_zero] at h1 h2 h3 ⊢
  rw [h1]
  refine row_read h2 (fun q _ hq => hq.imp (fun h => h) (fun ⟨j, hj, _⟩ => by simp at hj)) fun x hx hn => ?_
  have h4 := h3 x (by simp) hx
  rcases hn with h0 | ⟨j, hj, _⟩
  · rcases h4 with h4 | ⟨i, hi, _⟩
    · have := hM x h0; omega
    · simp [numdP] at hi
  · simp at hj
/-! ## What bears no slice -/
theorem vals_bys {T : Nat} (l : List UInt8) : (AV.fr T 1 (bys l)).vals := by
  simp only [AV.vals, bys, List.mem_map]
  rintro e ⟨b, _, rfl⟩ c hc
  simp only [List.mem_singleton] at hc
  exact ⟨_, hc⟩
theorem vals_v (x : Value) : (AV.r (.v x)).vals := by simp only [AV.vals]; exact ⟨x, rfl⟩
theorem vals_nil : AV.valss [] := by simp only [AV.valss]
theorem vals_cons {c : AV} {cs : List AV} (h : c.vals) (h' : AV.valss cs) : AV.valss (c :: cs) := by simp only [AV.valss]; exact ⟨h, h'⟩
theorem vals_tu {cs : List AV} (h : AV.valss cs) : (AV.tu cs).vals := by simp only [AV.vals]; exact h
theorem vals_ag {cs : List AV} (h : AV.valss cs) : (AV.ag cs).vals := by simp only [AV.vals]; exact h
end Go.Ab

/- The second layer: structs as arguments and results. No conditions. -/
namespace Go.Ab
open Go.RowKit
set_option linter.unusedVariables false
section
variable {H : Nat → Option Blk} {ρ : Nat → Nat} {G : List Nat} {as ds cs cs' : List AV} {env : Nat → AV} {x : Operand}
theorem cfl_r {c c' : RV} (h : CfL H ρ G cs cs') (e : c = c') : CfL H ρ G (.r c :: cs) (.r c' :: cs') := by subst e; exact .cons _ _ _ _ (.r _) h
theorem cfl_int {k : IntKind} {m p : Int} (h : CfL H ρ G cs cs') (e : m = p) : CfL H ρ G (.r (.v (.int k m)) :: cs) (.r (.v (.int k p)) :: cs') := cfl_r h (by rw [e])
theorem cl_ag (h : CfL H ρ G as ds) (hc : CfL H ρ G cs cs') (hx : evA env x = .ag cs) : CfL H ρ G (evA env x :: as) (.ag cs' :: ds) := by rw [hx]; exact .cons _ _ _ _ (.ag _ _ hc) h
end
/-- Nothing appended to a full slice. -/
theorem p_append_e {P : Program} {env : Nat → AV} {HF : Nat → Option Blk} {d' : Option Tmp} {ty : TypeId} {pos : String} {af : Array Edge} {g : Option (Nat × Bool)} {t : TypeId} {x y : Operand} {e sz b i : Nat} [hT : SlT P t e sz b] {es : List (List RV)} (hx : evA env x = .ow i) (hi : HF i = some (.full e sz es)) (hy : evA env y = .r (.sl sz [])) :
    ReadOk P ⟨d', .call { callee := .builtin .append, args := #[x, y], argTypes := #[t, t] }, ty, pos, af, g⟩ env HF [(i, .full e sz es)] (.ow i) := by
  refine ⟨fun j c hj => ?_, fun j hj => .inl ((ids_ev hx j (by simpa [AV.ids] using hj)).resolve_right fun ⟨_, _, h, _⟩ => by cases h), fun a w Z M hr hh => ?_⟩
  · have : j = i ∧ c = .full e sz es := by simpa using hj
    obtain ⟨rfl, rfl⟩ := this
    exact hi
  have h1 := hr x (by simp [Op.operands, Call.operands])
  have h2 := hr y (by simp [Op.operands, Call.operands])
  rw [hx, AV.rep] at h1
  rw [hy, AV.rep, RV.rep] at h2
  obtain ⟨A, c, h3, _, _, _, _⟩ := h2
  obtain ⟨q, us, fr, f1, f2, f3, f4, f5⟩ := hh i (.full e sz es) (by simp)
  obtain ⟨ti, z, t1, t2, t3, t4, t5⟩ := SlT.inf (P := P) (t := t) (e := e) (sz := sz) (b := b)
  have tu := SlT.und (P := P) (t := t) (e := e) (sz := sz) (b := b)
  refine ⟨Z i, ?_, by rw [AV.rep]⟩
  have key : (Builtin.append_ #[t, t] ty #[.slice (some ⟨q, 0, none⟩) es.length es.length, .slice A 0 c]).run P w = .ok (.slice (some ⟨q, 0, none⟩) es.length es.length) w := by
    cases A <;> simp [Builtin.append_, run_underlying tu, sizeOf, typeInfo, t1, Builtin.lenOf, Builtin.firstCells, storeCells, loadCells, loadCellsFrom]
  simp only [List.length_nil] at h3
  simp only [execOp, resolve, invoke, builtin, Sem.run_bind, Sem.run_pure, Result.andThen_ok, List.map_toArray, List.map_cons, List.map_nil, h1, f1, h3, key]
/-- Two results, the first of which is a struct in a variable. -/
theorem ret2c {post : List (Option Blk)} {P : Program} {L : Ln} {fn : Func} {S : St} {r s y : AV} {cs : List AV} {p u ty i n : Nat} {T : TypeId} {F F' : List Nat} [hT : AgT P ty n] (G : List Nat) (hrt : Rt (getH S.H) L.n G (.ag cs) r F) (hrs : Rt (getH S.H) L.n G y s F') (hres : fn.results = #[.cell p ty, .tmp u]) (hp : get S.env p = .pt i 0) (hi : getH S.H i = some (.var T cs)) (hl : cs.length = n) (hy : get S.env u = y)
    (hpo : ∀ i b, (i, some b) ∈ numdP 0 post → getH S.H i = some b ∧ b.ids = []) (hn : retNums L (F ++ (F' ++ [])) G = true) : (Exit.ret = .normal ∨ Exit.ret = .ret) ∧ RetOk P L fn S (.tu [r, s]) post := by
  obtain ⟨d, h1, h2⟩ := hT.und
  refine ⟨.inr rfl, ⟨⟨.tu [.ag cs, y], _, G, .two _ _ _ _ hres (.agg _ _ _ _ _ _ hp hi h1 h2 ?_) (.tmp _ _ hy), .tu _ _ _ (.cons _ _ _ _ _ _ hrt (.cons _ _ _ _ _ _ hrs .nil)), hn⟩, hpo⟩⟩
  rw [hT.size, hl]
section
variable {S : St} {ρ : Nat → Nat} {G : List Nat} {l : List (Nat × AV)} {t : Nat} {lh : List (Nat × Option Blk)}
theorem le_fz {j T sz : Nat} {es es' : List (List RV)} (h : eLe S ρ G l) (e : es = es') (hg : j ∈ G) (hx : get S.env t = .ow j) (hj : getH S.H j = some (.row T sz es)) : eLe S ρ G ((t, .r (.sl sz es')) :: l) := by
  subst e; refine ⟨?_, h⟩; rw [show S.envF t = .ow j from hx]; exact .fz _ _ _ _ hj hg
theorem hl_var {i : Nat} {T : TypeId} {cs cs' : List AV} (h : hLe S ρ G lh) (hc : CfL S.HF ρ G cs cs') (hx : getH S.H (ρ i) = some (.var T cs)) : hLe S ρ G ((i, some (.var T cs')) :: lh) := ⟨⟨_, hx, .var _ _ _ hc⟩, h⟩
end
end Go.Ab
