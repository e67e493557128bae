/- Texts of the second layer in one: Ab32 Ab33 Ab34. -/
import Derived.Test.YtibedaeefnjjlaaGreatG14
import Derived.RangeFuncRecord
set_option linter.unusedVariables false
set_option linter.unusedSimpArgs false
namespace Go.Ab
open Go.RowKit
def mpTB (P : Program) (t : Nat) : Bool := match P.underlying t with
 | some (.map kt et) => (match P.underlying kt with | some (.int .i64) => true | _ => false) && (match (P.info? et).bind (fun i => i.zero) with | some (.bool false) => true | _ => false)
 | _ => false
theorem mpTB_of {P : Program} {t : Nat} (h : mpTB P t = true) : ∃ kt et i, P.underlying t = some (.map kt et) ∧ P.underlying kt = some (.int .i64) ∧ P.info? et = some i ∧ i.zero = some (.bool false) := by
 unfold mpTB at h
 split at h
 ·rename_i kt et he
  rw [Bool.and_eq_true] at h
  obtain ⟨h1, h2⟩ := h
  split at h1
  ·rename_i hk
   split at h2
   ·rename_i hz
    rw [Option.bind_eq_some_iff] at hz
    obtain ⟨i, hi, hz⟩ := hz
    exact ⟨kt, et, i, he, hk, hi, hz⟩
   ·cases h2
  ·cases h1
 ·cases h
theorem findNow_mp (a : Int) : ∀ (l : List Int) (es : List MapEntry) (i : Nat), es.map (fun e => (e.key, e.val)) = l.map (fun k => (Value.int .i64 k, Value.bool true)) →
  (a ∈ l ∧ ∃ j, Instr.findNow (.int .i64) (.int .i64 a) es i = some (some (j, .bool true))) ∨ (a ∉ l ∧ Instr.findNow (.int .i64) (.int .i64 a) es i = some none)
 | [], es, i, h => by
  have : es = [] := by simpa using h
  subst this
  exact .inr ⟨by simp, rfl⟩
 | k :: l, es, i, h => by
  cases es with
  | nil => simp at h
  | cons e es =>
   simp only [List.map_cons, List.cons.injEq, Prod.mk.injEq] at h
   obtain ⟨⟨h1, h2⟩, h3⟩ := h
   by_cases hk : a = k
   ·subst hk
    exact .inl ⟨by simp, i, by simp [Instr.findNow, Instr.sameNow, h1, h2]⟩
   ·have hf : Instr.findNow (.int .i64) (.int .i64 a) (e :: es) i = Instr.findNow (.int .i64) (.int .i64 a) es (i + 1) := by
     have : (a == k) = false := by simpa using hk
     simp [Instr.findNow, Instr.sameNow, h1, this]
    rw [hf]
    rcases findNow_mp a l es (i + 1) h3 with ⟨g1, g2⟩ | ⟨g1, g2⟩
    ·exact .inl ⟨by simp [g1], g2⟩
    ·exact .inr ⟨by simp [hk, g1], g2⟩
theorem run_checkKey {P : Program} {kt : TypeId} (hk : P.underlying kt = some (.int .i64)) (b : Bool) (a : Int) (w : World) : (Instr.checkKey b 10000 kt (.int .i64 a)).run P w = .ok () w := by
 rw [show (10000 : Nat) = 9999 + 1 from rfl, Instr.checkKey]
 simp only [Sem.run_bind, run_underlying hk, Result.andThen_ok]
 rfl
section
variable {P : Program} {ty : TypeId} {pos : String} {af : Array Edge} {g : Option (Nat × Bool)} {t : TypeId} {x y : Operand}
theorem m_map {o : Option Tmp} {env : Nat → AV} {HF : Nat → Option Blk} {k : Nat} : MakeOk P ⟨o, .makeMap t none, ty, pos, af, g⟩ env HF [] k (.ow k) (.mp []) := by
 refine ⟨fun i b h => mem_nil h, rfl, fun i hi => by simp [Blk.ids] at hi, fun a w Z M hM hr _ => ?_⟩
 refine ⟨_, .map (some w.heap.size), w.alloc (.map #[] 0), ?_, (Below.refl _ _).alloc (Nat.le_refl _) _, fun q hq => by simp [blk] at hq; omega, fun Z' hz' hzo => ⟨by rw [AV.rep, hz'], fun _ => ?_⟩⟩
 ·simp only [execOp, Option.map_none, Sem.run_bind, Sem.run_pure]
  rfl
 ·exact ⟨w.heap.size, #[], 0, hz', heap_new _ _, rfl⟩
theorem p_lookup_mp {env : Nat → AV} {H : Nat → Option Blk} {d : Option Tmp} {i : Nat} {a : Int} {l : List Int} (hx : evA env x = .ow i) (hH : H i = some (.mp l)) (hy : evA env y = .r (.v (.int .i64 a))) (ht : mpTB P t = true) :
  ReadOk P ⟨d, .lookup t x y false, ty, pos, af, g⟩ env H [(i, .mp l)] (.r (.v (.bool (decide (a ∈ l))))) := by
 refine ⟨fun i b h => by obtain ⟨rfl, rfl⟩ := mem1 h; exact hH, fun i hi => by simp [AV.ids] at hi, fun ac w Z M hr hh => ?_⟩
 have h1 := hr x (by simp [Op.operands])
 have h2 := ev_v hy (hr y (by simp [Op.operands]))
 rw [hx, AV.rep] at h1
 obtain ⟨b, es, ck, e1, hg, he⟩ := hh i _ List.mem_cons_self
 obtain ⟨kt, et, ti, t1, t2, t3, t4⟩ := mpTB_of ht
 refine ⟨.bool (decide (a ∈ l)), ?_, by rw [AV.rep, RV.rep]⟩
 have hobj : (getObj b).run P w = .ok (.map es ck) w := by simp [getObj, Sem.run, hg]
 have hzero : (zeroValue et).run P w = .ok (.bool false) w := by simp [zeroValue, typeInfo, t3, t4]
 rcases findNow_mp a l es.toList 0 he with ⟨g1, j, g2⟩ | ⟨g1, g2⟩
 ·simp only [execOp, h1, h2, e1, Instr.lookup, Sem.run_bind, run_underlying t1, hobj, run_checkKey t2, Instr.findKey, run_underlying t2, g2, Sem.run_pure, Result.andThen_ok, decide_eq_true g1]
  rfl
 ·simp only [execOp, h1, h2, e1, Instr.lookup, Sem.run_bind, run_underlying t1, hobj, run_checkKey t2, Instr.findKey, run_underlying t2, g2, Sem.run_pure, Result.andThen_ok, decide_eq_false g1, hzero]
  rfl
end
section
variable {P : Program} {L : Ln} {N : Nat} {ops : Array Oper} {chk : List (Nat × Sp) → Bool} {Q : St → Prop} {l : List Oper} {E : List (Nat × AV)} {H : List (Nat × Option Blk)} {n : Nat} {tr : List (Nat × Sp)}
variable {ty : TypeId} {pos : String} {af : Array Edge} {g : Option (Nat × Bool)} {t : TypeId} {x y z : Operand}
theorem w_mapset {i : Nat} {a : Int} {m : List Int} (hx : evA (get E) x = .ow i) (hH : getH H i = some (.mp m)) (hy : evA (get E) y = .r (.v (.int .i64 a))) (hz : evA (get E) z = .r (.v (.bool true))) (ht : mpTB P t = true) (hn : a ∉ m)
  (hg : Wanted ops (get E) ⟨none, .mapUpdate t x y z, ty, pos, af, g⟩ true)
  (h : wpA P L N ops chk Q l ⟨E, (i, some (.mp (m ++ [a]))) :: H, n⟩ ((n, ⟨true, [(i, .mp m)], .r (.v undef), [(i, some (.mp (m ++ [a])))], []⟩) :: tr)) :
  wpA P L N ops chk Q (⟨none, .mapUpdate t x y z, ty, pos, af, g⟩ :: l) ⟨E, H, n⟩ tr := by
 refine ⟨⟨true, [(i, .mp m)], .r (.v undef), [(i, some (.mp (m ++ [a])))], []⟩, ⟨(fun x hx => by cases hx), hg, fun _ ac w Z M hM hr hh hdist => ?_, (fun h => by cases h), fun D hD hDH hf => ?_⟩, h⟩
 ·have h1 : (evA (get E) x).rep Z M w (ac.eval x) := hr x (by simp [Op.operands])
  have h2 := ev_v hy (hr y (by simp [Op.operands]))
  have h3 := ev_v hz (hr z (by simp [Op.operands]))
  rw [hx, AV.rep] at h1
  obtain ⟨⟨b, es, ck, e1, hq, he⟩, hMj⟩ := hh i (.mp m) (by simp)
  obtain ⟨kt, et, ti, t1, t2, t3, t4⟩ := mpTB_of ht
  have hobj : (getObj b).run P w = .ok (.map es ck) w := by simp [getObj, Sem.run, hq]
  have hlt : b < w.heap.size := heap_lt hq
  have hset : ∀ ob, (setObj b ob).run P w = .ok () (w.putObj b ob) := fun ob => by
   show (match w.heap[b]? with | some (.cells ..) => Result.halt (.stuck "setObj: a row of cells") w | some _ => _ | none => _) = _
   rw [hq]; rfl
  rcases findNow_mp a m es.toList 0 he with ⟨g1, _⟩ | ⟨g1, g2⟩
  ·exact absurd g1 hn
  ·have hex : (execOp ac.eval ⟨none, .mapUpdate t x y z, ty, pos, af, g⟩).run P w = .ok .skip (w.putObj b (.map (es.push { key := .int .i64 a, val := .bool true, born := ck }) (ck + 1))) := by
    simp only [execOp, h1, h2, h3, e1, Instr.mapUpdate, Sem.run_bind, run_underlying t1, hobj, run_checkKey t2, Instr.findKey, run_underlying t2, g2, Sem.run_pure, Result.andThen_ok, hset]
   have hU : Upto (fun q => q = b) w (w.putObj b (.map (es.push { key := .int .i64 a, val := .bool true, born := ck }) (ck + 1))) := ⟨rfl, rfl, rfl, by simp [World.putObj], fun k hk hne => World.putObj_heap_other hne⟩
   refine exec_skip hex ⟨Z, fun _ _ => rfl, by rw [AV.rep, RV.rep], fun i' c hi => ?_, fun j b h => by simp at h, fun j j' x h => by simp at h, fun j x h => by simp at h, ?_⟩
   ·simp only [List.mem_cons, List.not_mem_nil, or_false, Prod.mk.injEq, Option.some.injEq] at hi
    obtain ⟨rfl, rfl⟩ := hi
    refine ⟨b, _, _, e1, World.putObj_heap_same hlt, ?_⟩
    rw [Array.toList_push, List.map_append, he, List.map_append]
    rfl
   ·refine hU.mono fun q _ hq => ?_
    subst hq
    exact ⟨i, some (.mp (m ++ [a])), by simp, by rw [e1]; rfl⟩
 ·refine ⟨fun i' b hb => ?_, fun i' o' ho => ?_, fun i' o' ho => ?_, fun i' ho => ?_, hf, fun i' hi => by simp [AV.ids] at hi, fun b h => by simp at h, fun i' b hb i'' hi' => ?_⟩
  ·simp only [List.mem_cons, List.not_mem_nil, or_false, Prod.mk.injEq] at hb
   obtain ⟨rfl, rfl⟩ := hb
   exact hH
  ·simp only [List.mem_cons, List.not_mem_nil, or_false, Prod.mk.injEq] at ho
   obtain ⟨rfl, rfl⟩ := ho
   exact ⟨.mp m, by simp⟩
  ·simp only [List.mem_cons, List.not_mem_nil, or_false, Prod.mk.injEq] at ho
   obtain ⟨rfl, rfl⟩ := ho
   exact by simp [List.lookup_cons]
  ·simp at ho
  ·simp only [List.mem_cons, List.not_mem_nil, or_false, Prod.mk.injEq, Option.some.injEq] at hb
   obtain ⟨rfl, rfl⟩ := hb
   simp [Blk.ids] at hi'
end
end Go.Ab
namespace Go.Ab
open Go.RowKit
section
variable {P : Program} {L : Ln} {N : Nat} {ops : Array Oper} {chk : List (Nat × Sp) → Bool} {Q : St → Prop} {l : List Oper} {S : St} {tr : List (Nat × Sp)} {d : Option Tmp} {ty : TypeId} {pos : String} {af : Array Edge} {g : Option (Nat × Bool)}
theorem is_mkmap {t : TypeId} {x : Option Operand} (h : wpA P L N ops chk Q (⟨d, .makeMap t x, ty, pos, af, g⟩ :: l) S tr) : wpA P L N ops chk Q (⟨d, .makeMap t x, ty, pos, af, g⟩ :: l) S tr := h
theorem is_lookup {t : TypeId} {x y : Operand} {b : Bool} (h : wpA P L N ops chk Q (⟨d, .lookup t x y b, ty, pos, af, g⟩ :: l) S tr) : wpA P L N ops chk Q (⟨d, .lookup t x y b, ty, pos, af, g⟩ :: l) S tr := h
theorem is_mapup {t : TypeId} {x y z : Operand} (h : wpA P L N ops chk Q (⟨d, .mapUpdate t x y z, ty, pos, af, g⟩ :: l) S tr) : wpA P L N ops chk Q (⟨d, .mapUpdate t x y z, ty, pos, af, g⟩ :: l) S tr := h
end
section
variable {S : St} {ρ : Nat → Nat} {G : List Nat} {lh : List (Nat × Option Blk)} {i T sz : Nat} {es es' : List (List RV)} {cs cs' : List AV} {e : List RV}
theorem hl_rowc (h : hLe S ρ G lh) (hc : CfL S.HF ρ G cs (e.map AV.r)) (he : es' = es ++ [e]) (hx : getH S.H (ρ i) = some (.rowo T sz es cs)) : hLe S ρ G ((i, some (.row T sz es')) :: lh) := by subst he; exact ⟨⟨_, hx, .rowc _ _ _ _ _ hc⟩, h⟩
theorem hl_mp {m m' : List Int} (h : hLe S ρ G lh) (e : m = m') (hx : getH S.H (ρ i) = some (.mp m)) : hLe S ρ G ((i, some (.mp m')) :: lh) := by subst e; exact ⟨⟨_, hx, .mp _⟩, h⟩
end
section
variable {H : Nat → Option Blk} {ρ : Nat → Nat} {as ds : List Blk} {T sz : Nat} {es es' : List (List RV)} {cs cs' : List AV}
end
/-! ## Calls whose result bears no new slice -/
mutual
def AV.plainB : AV → Bool
 | .r _ => true
 | .rp _ => true
 | .ag cs => AV.plainsB cs
 | .tu cs => AV.plainsB cs
 | .na => true
 | _ => false
def AV.plainsB : List AV → Bool
 | [] => true
 | c :: cs => AV.plainB c && AV.plainsB cs
end
mutual
theorem plain_unfr : ∀ (a : AV) (k : Nat), a.plainB = true → a.unfr k = (a, []) ∧ a.ids = []
 | .r _, k, _ => ⟨rfl, rfl⟩
 | .rp _, k, _ => ⟨rfl, rfl⟩
 | .na, k, _ => ⟨rfl, rfl⟩
 | .ag cs, k, h => by
  obtain ⟨h1, h2⟩ := plains_unfr cs k (by simpa only [AV.plainB] using h)
  exact ⟨by rw [AV.unfr, h1], h2⟩
 | .tu cs, k, h => by
  obtain ⟨h1, h2⟩ := plains_unfr cs k (by simpa only [AV.plainB] using h)
  exact ⟨by rw [AV.unfr, h1], h2⟩
 | .ow _, k, h => by cases h
 | .pt _ _, k, h => by cases h
 | .pe _ _ _ _, k, h => by cases h
 | .fr _ _ _, k, h => by cases h
 | .ol _ _, k, h => by cases h
 | .sv _ _, k, h => by cases h
 | .so _ _ _ _, k, h => by cases h
 | .cl _ _, k, h => by cases h
theorem plains_unfr : ∀ (as : List AV) (k : Nat), AV.plainsB as = true → AV.unfrs as k = (as, []) ∧ AV.idss as = []
 | [], k, _ => ⟨rfl, rfl⟩
 | a :: as, k, h => by
  rw [AV.plainsB, Bool.and_eq_true] at h
  obtain ⟨h1, h2⟩ := plain_unfr a k h.1
  obtain ⟨h3, h4⟩ := plains_unfr as (k + 0) h.2
  exact ⟨by rw [AV.unfrs, h1]; simp only [List.length_nil, h3, List.append_nil], by rw [AV.idss, h2, h4]; rfl⟩
end
section
variable {P : Program} {L : Ln} {N : Nat} {ops : Array Oper} {chk : List (Nat × Sp) → Bool} {Q : St → Prop} {l : List Oper} {E : List (Nat × AV)} {H : List (Nat × Option Blk)} {n : Nat} {tr : List (Nat × Sp)}
variable {d : Nat} {ty : TypeId} {pos : String} {af : Array Edge} {g : Option (Nat × Bool)}
theorem w_call0 {f : FuncId} {xs : Array Operand} {ats : Array TypeId} {ds : List AV} {r : AV} (G : List Nat) (rd : List (Nat × Blk)) (hm : Meets P f ds [] r []) (hpl : r.plainB = true) (hargs : CfL (getH H) (fun i => i) G (xs.toList.map (evA (get E))) ds) (hf : callB P f = true)
  (hrd : ∀ g ∈ G, ∃ b, (g, b) ∈ rd ∧ getH H g = some b) (hrd2 : ∀ i b, (i, b) ∈ rd → getH H i = some b) (hv : G = [] ∨ r.vals) (hds : AV.idss ds = [])
  (hd : Nat.blt d N = true) (hg : Wanted ops (get E) ⟨some d, .call { callee := .value (.func f), args := xs, argTypes := ats }, ty, pos, af, g⟩ true)
  (h : wpA P L N ops chk Q l ⟨(d, r) :: E, H, n⟩ ((n, ⟨true, rd, r, [], []⟩) :: tr)) :
  wpA P L N ops chk Q (⟨some d, .call { callee := .value (.func f), args := xs, argTypes := ats }, ty, pos, af, g⟩ :: l) ⟨E, H, n⟩ tr := by
 obtain ⟨h1, h2⟩ := plain_unfr r n hpl
 refine w_call G rd hm hargs hf hrd hrd2 hv hds ?_ hd hg ?_
 ·rw [h1]; unfold rngB; rw [h2]; rfl
 ·rw [h1]; exact h
end
end Go.Ab
namespace Go.Ab
open Go.RowKit
section
variable {post : List (Option Blk)} {P : Program} {L : Ln} {fn : Func} {S : St} {r s x y : AV} {t u : Nat} {F F' F'' : List Nat}
theorem ret1X (G : List Nat) (hrt : Rt (getH S.H) L.n G x r F) (hres : fn.results = #[.tmp t]) (hx : get S.env t = x) (hp : RtP (getH S.H) L.n G 0 post F') (hn : retNumsX L (F ++ F') G = true) : (Exit.ret = .normal ∨ Exit.ret = .ret) ∧ RetOkX P L fn S r post :=
 ⟨.inr rfl, ⟨⟨x, F, F', G, .one _ _ hres (.tmp _ _ hx), hrt, hp, hn⟩⟩⟩
end
section
variable {H : Nat → Option Blk} {L : Nat} {G : List Nat} {cs ds : List AV} {F F' : List Nat} {i T sz : Nat} {es es' : List (List RV)} {l : List (Option Blk)}
theorem rtl_nil : RtL H L G [] [] [] := .nil
theorem rtl_r {c c' : RV} (h : RtL H L G cs ds F) (e : c = c') : RtL H L G (.r c :: cs) (.r c' :: ds) F := by subst e; exact .cons _ _ _ _ [] _ (.r _) h
theorem rtl_fr (h : RtL H L G cs ds F) (e : es = es') (hi : H i = some (.row T sz es)) : RtL H L G (.ow i :: cs) (.fr T sz es' :: ds) (i :: F) := by subst e; exact .cons _ _ _ _ [i] _ (.fr _ _ _ _ hi) h
theorem rtl_ow (h : RtL H L G cs ds F) (hi : Nat.blt i L = true) : RtL H L G (.ow i :: cs) (.ow i :: ds) F := .cons _ _ _ _ [] _ (.ow _ (blt_t.1 hi)) h
theorem rtp_rowo (h : RtP H L G (i + 1) l F') (hi : H i = some (.rowo T sz es cs)) (e : es = es') (hc : RtL H L G cs ds F) : RtP H L G i (some (.rowo T sz es' ds) :: l) (F ++ F') := by subst e; exact .so _ _ _ _ _ _ hi (.rowo _ _ _ _ _ _ hc) h
theorem rtp_row (h : RtP H L G (i + 1) l F') (hi : H i = some (.row T sz es)) (e : es = es') : RtP H L G i (some (.row T sz es') :: l) F' := by subst e; exact .so _ _ _ _ [] _ hi (.row _ _ _) h
end
end Go.Ab
