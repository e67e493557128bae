/- Texts of the second layer in one: Ab7 Ab8. -/
import Derived.Test.YtibedaeefnjjlaaGreatG4
import Derived.IntWalk
import Derived.Laws.Small
import Derived.Laws.Unary
import Derived.Laws.Tables
import Derived.Deep.MidRow
/- The second layer: the words about single operations. No conditions. -/
namespace Go.Ab
open Go.RowKit
set_option linter.unusedVariables false
set_option linter.unusedSimpArgs false

/-- A type of integers. -/
class ItT (P : Program) (t : Nat) (k : outParam IntKind) : Prop where ok : P.underlying t = some (.int k)
/-- An operation that looks at own blocks at most. -/
structure ReadOk (P : Program) (o : Oper) (env : Nat → AV) (H : Nat → Option Blk) (rd : List (Nat × Blk)) (out : AV) : Prop where
  rdH : ∀ i b, (i, b) ∈ rd → H i = some b
  ids : ∀ i ∈ out.ids, (∃ t, i ∈ (env t).ids) ∨ ∃ j b, (j, b) ∈ rd ∧ (i = j ∨ i ∈ b.ids)
  run : ∀ (a : Act) (w : World) (Z : Nat → Value) (M : Nat → Prop), (∀ x ∈ o.op.operands.toList, (evA env x).rep Z M w (a.eval x)) → (∀ i b, (i, b) ∈ rd → held Z M w i b) → ∃ v, (execOp a.eval o).run P w = .ok (.value v) w ∧ out.rep Z M w v

theorem exec_value {P : Program} {o : Oper} {a : Act} {w w' : World} {v : Value} {R : Value → World → Prop} (h : (execOp a.eval o).run P w = .ok (.value v) w') (hR : R v w') : Exec P o a w R := by
  unfold Exec; rw [h]; exact hR
theorem exec_skip {P : Program} {o : Oper} {a : Act} {w w' : World} {R : Value → World → Prop} (h : (execOp a.eval o).run P w = .ok .skip w') (hR : R undef w') : Exec P o a w R := by
  unfold Exec; rw [h]; exact hR
theorem exec_enter {P : Program} {o : Oper} {a : Act} {w : World} {f : FuncId} {args : Array Value} {R : Value → World → Prop} (h : (execOp a.eval o).run P w = .ok (.enter f args) w) (hR : Calls P f args w fun e w'' => ∃ v, e = .returned v ∧ R v w'') : Exec P o a w R := by
  unfold Exec; rw [h]; exact hR

theorem new_nil {k : Nat} {sp : Sp} {Z : Nat → Value} {M : Nat → Prop} (h : sp.frs = []) {x : Nat} : New k sp Z M x → M x := by
  rintro (h0 | ⟨j, hj, _⟩)
  · exact h0
  · rw [h] at hj; simp at hj

section
variable {P : Program} {L : Ln} {N : Nat} {ops : Array Oper} {chk : List (Nat × Sp) → Bool} {Q : St → Prop} {l : List Oper} {E : List (Nat × AV)} {H : List (Nat × Option Blk)} {n : Nat} {tr : List (Nat × Sp)}

theorem step_read {o : Oper} {rd : List (Nat × Blk)} {out : AV} (hd : (match o.dst with | some d => Nat.blt d N | none => true) = true) (hg : Wanted ops (get E) o true) (hp : ReadOk P o (get E) (getH H) rd out) :
    StepA P L N ops o (get E) (getH H) n ⟨true, rd, out, [], []⟩ := by
  refine ⟨fun x hx => ?_, hg, fun _ a w Z M hM hx hr hdist => ?_, (fun h => by cases h), fun D hD hDH hf => ?_⟩
  · rw [hx] at hd; exact blt_t.1 hd
  · obtain ⟨v, h1, h2⟩ := hp.run a w Z M hx (fun i b hb => (hr i b hb).1)
    refine exec_value h1 ⟨Z, fun _ _ => rfl, ?_, fun i b h => by simp at h, fun j b h => by simp at h, fun j j' x h => by simp at h, fun j x h => by simp at h, Upto.refl _⟩
    exact AV.rep_mono (Upto.refl _) (fun q _ hq => new_nil rfl hq) _ (fun _ _ => rfl) _ h2
  · refine ⟨hp.rdH, fun i o h => by simp at h, fun i o h => by simp at h, fun i h => by simp at h, hf, fun i hi => .inl ?_, fun b h => by simp at h, fun i b h => by simp at h⟩
    rcases hp.ids i hi with ⟨t, ht⟩ | ⟨j, b, hj, hij⟩
    · exact hD t i ht
    · have := hDH j b (hp.rdH j b hj)
      rcases hij with rfl | hij
      · exact this.1
      · exact this.2 i hij
theorem w_read {d : Nat} {op : Op} {ty : TypeId} {pos : String} {af : Array Edge} {g : Option (Nat × Bool)} {rd : List (Nat × Blk)} {out : AV} (hd : Nat.blt d N = true) (hg : Wanted ops (get E) ⟨some d, op, ty, pos, af, g⟩ true)
    (hp : ReadOk P ⟨some d, op, ty, pos, af, g⟩ (get E) (getH H) rd out) (h : wpA P L N ops chk Q l ⟨(d, out) :: E, H, n⟩ ((n, ⟨true, rd, out, [], []⟩) :: tr)) :
    wpA P L N ops chk Q (⟨some d, op, ty, pos, af, g⟩ :: l) ⟨E, H, n⟩ tr :=
  ⟨_, step_read hd hg hp, h⟩
/-- An operation whose guard says no. -/
theorem w_skip {d : Nat} {op : Op} {ty : TypeId} {pos : String} {af : Array Edge} {g : Option (Nat × Bool)} (hd : Nat.blt d N = true) (hg : Wanted ops (get E) ⟨some d, op, ty, pos, af, g⟩ false)
    (h : wpA P L N ops chk Q l ⟨(d, .r (.v undef)) :: E, H, n⟩ ((n, skipSp) :: tr)) : wpA P L N ops chk Q (⟨some d, op, ty, pos, af, g⟩ :: l) ⟨E, H, n⟩ tr := by
  refine ⟨skipSp, ⟨fun x hx => ?_, hg, (fun h => by cases h), fun _ => rfl, fun D hD hDH hf => ?_⟩, h⟩
  · injection hx with hx; subst hx; exact blt_t.1 hd
  · exact ⟨fun i b h => by simp [skipSp] at h, fun i o h => by simp [skipSp] at h, fun i o h => by simp [skipSp] at h, fun i h => by simp [skipSp] at h, hf, fun i hi => by simp [skipSp, AV.ids] at hi, fun b h => by simp [skipSp] at h, fun i b h => by simp [skipSp] at h⟩
/-- A test: its two ways. -/
theorem w_dec {d : Nat} {op : Op} {ty : TypeId} {pos : String} {af : Array Edge} {g : Option (Nat × Bool)} {rd : List (Nat × Blk)} {p : Prop} [Decidable p] (hd : Nat.blt d N = true) (hg : Wanted ops (get E) ⟨some d, op, ty, pos, af, g⟩ true)
    (hp : ReadOk P ⟨some d, op, ty, pos, af, g⟩ (get E) (getH H) rd (.r (.v (.bool (decide p)))))
    (ht : p → wpA P L N ops chk Q l ⟨(d, .r (.v (.bool true))) :: E, H, n⟩ ((n, ⟨true, rd, .r (.v (.bool true)), [], []⟩) :: tr))
    (hf : ¬ p → wpA P L N ops chk Q l ⟨(d, .r (.v (.bool false))) :: E, H, n⟩ ((n, ⟨true, rd, .r (.v (.bool false)), [], []⟩) :: tr)) :
    wpA P L N ops chk Q (⟨some d, op, ty, pos, af, g⟩ :: l) ⟨E, H, n⟩ tr := by
  by_cases h : p
  · rw [decide_eq_true h] at hp
    exact w_read hd hg hp (ht h)
  · rw [decide_eq_false h] at hp
    exact w_read hd hg hp (hf h)
theorem w_nilT {S : St} (h : Q S) : wpA P L N ops (fun _ => true) Q [] S tr := ⟨rfl, h⟩
theorem w_nil (hc : chk tr.reverse = true) {S : St} (h : Q S) : wpA P L N ops chk Q [] S tr := ⟨hc, h⟩
end

def nthDst : List Oper → Nat → Option Tmp
  | [], _ => none
  | o :: _, 0 => o.dst
  | _ :: l, j + 1 => nthDst l j
theorem nthDst_eq : ∀ (l : List Oper) (j : Nat), nthDst l j = (l[j]?).bind (·.dst)
  | [], j => by simp [nthDst]
  | o :: l, 0 => by simp [nthDst]
  | o :: l, j + 1 => by simp [nthDst, nthDst_eq l j]
/-- A guard, read off the list. -/
theorem wanted_list {l : List Oper} {env : Nat → AV} {o : Oper} {j : Nat} {want x b : Bool} {t : Tmp} (hg : o.guard = some (j, want)) (ht : nthDst l j = some t) (he : env t = .r (.v (.bool x))) (hb : b = (x == want)) : Wanted l.toArray env o b :=
  .inr (.inl ⟨j, want, t, x, hg, by rw [nthDst_eq] at ht; simpa using ht, he, hb⟩)
/-- A guard that was left out itself. -/
theorem wanted_undef {l : List Oper} {env : Nat → AV} {o : Oper} {j : Nat} {want : Bool} {t : Tmp} (hg : o.guard = some (j, want)) (ht : nthDst l j = some t) (he : env t = .r (.v undef)) : Wanted l.toArray env o false :=
  .inr (.inr ⟨j, want, t, hg, by rw [nthDst_eq] at ht; simpa using ht, he, rfl⟩)
theorem ret1 {P : Program} {L : Ln} {fn : Func} {S : St} {r x : AV} {t : Nat} {F : List Nat} (G : List Nat) (hrt : Rt (getH S.H) L.n G x r F) (hres : fn.results = #[.tmp t]) (hx : get S.env t = x) (hn : retNums L F G = true) : (Exit.ret = .normal ∨ Exit.ret = .ret) ∧ RetOk P L fn S r [] :=
  ⟨.inr rfl, ⟨⟨x, F, G, .one _ _ hres (.tmp _ _ hx), hrt, hn⟩, fun i b h => by simp [numdP] at h⟩⟩
theorem ret1P {post : List (Option Blk)} {P : Program} {L : Ln} {fn : Func} {S : St} {r x : AV} {t : Nat} {F : List Nat} (G : List Nat) (hrt : Rt (getH S.H) L.n G x r F) (hres : fn.results = #[.tmp t]) (hx : get S.env t = x) (hp : ∀ i b, (i, some b) ∈ numdP 0 post → getH S.H i = some b ∧ b.ids = []) (hn : retNums L F G = true) : (Exit.ret = .normal ∨ Exit.ret = .ret) ∧ RetOk P L fn S r post :=
  ⟨.inr rfl, ⟨⟨x, F, G, .one _ _ hres (.tmp _ _ hx), hrt, hn⟩, hp⟩⟩
theorem ret2 {P : Program} {L : Ln} {fn : Func} {S : St} {r s x y : AV} {t u : Nat} {F F' : List Nat} (G : List Nat) (hrt : Rt (getH S.H) L.n G x r F) (hrs : Rt (getH S.H) L.n G y s F') (hres : fn.results = #[.tmp t, .tmp u]) (hx : get S.env t = x) (hy : get S.env u = y) (hn : retNums L (F ++ (F' ++ [])) G = true) : (Exit.ret = .normal ∨ Exit.ret = .ret) ∧ RetOk P L fn S (.tu [r, s]) [] :=
  ⟨.inr rfl, ⟨⟨.tu [x, y], _, G, .two _ _ _ _ hres (.tmp _ _ hx) (.tmp _ _ hy), .tu _ _ _ (.cons _ _ _ _ _ _ hrt (.cons _ _ _ _ _ _ hrs .nil)), hn⟩, fun i b h => by simp [numdP] at h⟩⟩
theorem post_none : ∀ {post : List (Option Blk)} {S : St}, (post.all fun o => o.isNone) = true → ∀ i b, (i, some b) ∈ numdP 0 post → getH S.H i = some b ∧ b.ids = [] := by
  intro post S h i b hib
  have h1 := List.mem_of_getElem? (numdP_mem.1 hib).2
  have := List.all_eq_true.1 h _ h1
  cases this
theorem Rt.int {H : Nat → Option Blk} {L : Nat} {G : List Nat} {k : IntKind} {x y : Int} (h : x = y) : Rt H L G (.r (.v (.int k x))) (.r (.v (.int k y))) [] := h ▸ .r _
theorem Rt.bool {H : Nat → Option Blk} {L : Nat} {G : List Nat} {x y : Bool} (h : x = y) : Rt H L G (.r (.v (.bool x))) (.r (.v (.bool y))) [] := h ▸ .r _

theorem lit_cast (n : Nat) : (OfNat.ofNat n : Int) = ((OfNat.ofNat n : Nat) : Int) := rfl

/-! ## Without a look at own blocks -/
section
variable {P : Program} {env : Nat → AV} {H : Nat → Option Blk} {d : Option Tmp} {ty : TypeId} {pos : String} {af : Array Edge} {g : Option (Nat × Bool)}

theorem ev_v {Z : Nat → Value} {M : Nat → Prop} {w : World} {x : Operand} {X v : Value} (h : evA env x = .r (.v X)) (hr : (evA env x).rep Z M w v) : v = X := by
  rw [h, AV.rep, RV.rep] at hr; exact hr

theorem p_move {x : Operand} {out : AV} (hx : evA env x = out) : ReadOk P ⟨d, .move x, ty, pos, af, g⟩ env H [] out := by
  subst hx
  refine ⟨fun i b h => by simp at h, fun i hi => ?_, fun a w Z M hr _ => ⟨a.eval x, rfl, hr x (by simp [Op.operands])⟩⟩
  cases x with
  | tmp t => exact .inl ⟨t, hi⟩
  | const v => simp [evA, AV.ids] at hi
  | global g => simp [evA, AV.ids] at hi
  | func f => simp [evA, AV.ids] at hi
theorem p_assign {x : Operand} {out : AV} (hx : evA env x = out) : ReadOk P ⟨d, .assign x, ty, pos, af, g⟩ env H [] out := by
  have := p_move (P := P) (H := H) (d := d) (ty := ty) (pos := pos) (af := af) (g := g) hx
  exact ⟨this.rdH, this.ids, this.run⟩
theorem ids_ev {x : Operand} {out : AV} (hx : evA env x = out) : ∀ i ∈ out.ids, (∃ t, i ∈ (env t).ids) ∨ ∃ j b, (j, b) ∈ ([] : List (Nat × Blk)) ∧ (i = j ∨ i ∈ b.ids) := by
  intro i hi
  subst hx
  cases x with
  | tmp t => exact .inl ⟨t, hi⟩
  | const v => simp [evA, AV.ids] at hi
  | global g => simp [evA, AV.ids] at hi
  | func f => simp [evA, AV.ids] at hi
theorem p_pick {c x y : Operand} {b : Bool} {out : AV} (hc : evA env c = .r (.v (.bool b))) (ho : evA env (bif b then x else y) = out) : ReadOk P ⟨d, .pick c x y, ty, pos, af, g⟩ env H [] out := by
  refine ⟨fun i b h => by simp at h, ids_ev ho, fun a w Z M hr _ => ?_⟩
  have h1 := ev_v hc (hr c (by simp [Op.operands]))
  refine ⟨a.eval (bif b then x else y), ?_, ?_⟩
  · simp only [execOp, h1]
    cases b <;> rfl
  · rw [← ho]
    cases b
    · exact hr y (by simp [Op.operands])
    · exact hr x (by simp [Op.operands])
/-- An operation on values that are known exactly. -/
theorem p_exact1 {op : Op} {x : Operand} {X U : Value} (hops : op.operands = #[x]) (hx : evA env x = .r (.v X)) (h : ∀ (ρ : Operand → Value) (w : World), ρ x = X → (execOp ρ ⟨d, op, ty, pos, af, g⟩).run P w = .ok (.value U) w) : ReadOk P ⟨d, op, ty, pos, af, g⟩ env H [] (.r (.v U)) :=
  ⟨fun i b h => by simp at h, fun i hi => by simp [AV.ids] at hi, fun a w Z M hr _ => ⟨U, h a.eval w (ev_v hx (hr x (by simp [hops]))), by rw [AV.rep, RV.rep]⟩⟩
theorem p_exact2 {op : Op} {x y : Operand} {X Y U : Value} (hops : op.operands = #[x, y]) (hx : evA env x = .r (.v X)) (hy : evA env y = .r (.v Y)) (h : ∀ (ρ : Operand → Value) (w : World), ρ x = X → ρ y = Y → (execOp ρ ⟨d, op, ty, pos, af, g⟩).run P w = .ok (.value U) w) : ReadOk P ⟨d, op, ty, pos, af, g⟩ env H [] (.r (.v U)) :=
  ⟨fun i b h => by simp at h, fun i hi => by simp [AV.ids] at hi, fun a w Z M hr _ => ⟨U, h a.eval w (ev_v hx (hr x (by simp [hops]))) (ev_v hy (hr y (by simp [hops]))), by rw [AV.rep, RV.rep]⟩⟩

section
variable {t yt : TypeId} {x y : Operand} {k : IntKind} {m p c : Int}
theorem p_add (hx : evA env x = .r (.v (.int k m))) (hy : evA env y = .r (.v (.int k p))) (hc : k.wrap (m + p) = c) : ReadOk P ⟨d, .binOp .add t x y yt, ty, pos, af, g⟩ env H [] (.r (.v (.int k c))) :=
  p_exact2 rfl hx hy fun ρ w h1 h2 => by subst hc; simp [execOp, h1, h2, go_sem, Op.intArith]
theorem p_sub (hx : evA env x = .r (.v (.int k m))) (hy : evA env y = .r (.v (.int k p))) (hc : k.wrap (m - p) = c) : ReadOk P ⟨d, .binOp .sub t x y yt, ty, pos, af, g⟩ env H [] (.r (.v (.int k c))) :=
  p_exact2 rfl hx hy fun ρ w h1 h2 => by subst hc; simp [execOp, h1, h2, go_sem, Op.intArith]
theorem p_mul (hx : evA env x = .r (.v (.int k m))) (hy : evA env y = .r (.v (.int k p))) (hc : k.wrap (m * p) = c) : ReadOk P ⟨d, .binOp .mul t x y yt, ty, pos, af, g⟩ env H [] (.r (.v (.int k c))) :=
  p_exact2 rfl hx hy fun ρ w h1 h2 => by subst hc; simp [execOp, h1, h2, go_sem, Op.intArith]
theorem p_quo (hx : evA env x = .r (.v (.int k m))) (hy : evA env y = .r (.v (.int k p))) (h0 : p ≠ 0) (hc : k.wrap (m.tdiv p) = c) : ReadOk P ⟨d, .binOp .quo t x y yt, ty, pos, af, g⟩ env H [] (.r (.v (.int k c))) :=
  p_exact2 rfl hx hy fun ρ w h1 h2 => by subst hc; simp [execOp, h1, h2, go_sem, Op.intDiv, h0]
theorem p_rem (hx : evA env x = .r (.v (.int k m))) (hy : evA env y = .r (.v (.int k p))) (h0 : p ≠ 0) (hc : m.tmod p = c) : ReadOk P ⟨d, .binOp .rem t x y yt, ty, pos, af, g⟩ env H [] (.r (.v (.int k c))) :=
  p_exact2 rfl hx hy fun ρ w h1 h2 => by subst hc; simp [execOp, h1, h2, go_sem, Op.intDiv, h0]
theorem p_and (hx : evA env x = .r (.v (.int k m))) (hy : evA env y = .r (.v (.int k p))) (hc : bits .and k m p = c) : ReadOk P ⟨d, .binOp .and t x y yt, ty, pos, af, g⟩ env H [] (.r (.v (.int k c))) :=
  p_exact2 rfl hx hy fun ρ w h1 h2 => by subst hc; simp [execOp, h1, h2, go_sem, Op.intBits, bits]
theorem p_or (hx : evA env x = .r (.v (.int k m))) (hy : evA env y = .r (.v (.int k p))) (hc : bits .or k m p = c) : ReadOk P ⟨d, .binOp .or t x y yt, ty, pos, af, g⟩ env H [] (.r (.v (.int k c))) :=
  p_exact2 rfl hx hy fun ρ w h1 h2 => by subst hc; simp [execOp, h1, h2, go_sem, Op.intBits, bits]
theorem p_xor (hx : evA env x = .r (.v (.int k m))) (hy : evA env y = .r (.v (.int k p))) (hc : bits .xor k m p = c) : ReadOk P ⟨d, .binOp .xor t x y yt, ty, pos, af, g⟩ env H [] (.r (.v (.int k c))) :=
  p_exact2 rfl hx hy fun ρ w h1 h2 => by subst hc; simp [execOp, h1, h2, go_sem, Op.intBits, bits]
theorem p_shl {yk : IntKind} (hx : evA env x = .r (.v (.int k m))) (hy : evA env y = .r (.v (.int yk p))) (h0 : 0 ≤ p) (hc : k.wrap (m * 2 ^ (min p.toNat k.bits)) = c) : ReadOk P ⟨d, .binOp .shl t x y yt, ty, pos, af, g⟩ env H [] (.r (.v (.int k c))) :=
  p_exact2 rfl hx hy fun ρ w h1 h2 => by subst hc; simp [execOp, h1, h2, go_sem, Op.shift, show ¬ p < 0 by omega]
theorem p_shr {yk : IntKind} (hx : evA env x = .r (.v (.int k m))) (hy : evA env y = .r (.v (.int yk p))) (h0 : 0 ≤ p) (hc : m.fdiv (2 ^ (min p.toNat k.bits)) = c) : ReadOk P ⟨d, .binOp .shr t x y yt, ty, pos, af, g⟩ env H [] (.r (.v (.int k c))) :=
  p_exact2 rfl hx hy fun ρ w h1 h2 => by subst hc; simp [execOp, h1, h2, go_sem, Op.shift, show ¬ p < 0 by omega]
theorem p_lss (hx : evA env x = .r (.v (.int k m))) (hy : evA env y = .r (.v (.int k p))) : ReadOk P ⟨d, .binOp .lss t x y yt, ty, pos, af, g⟩ env H [] (.r (.v (.bool (decide (m < p))))) :=
  p_exact2 rfl hx hy fun ρ w h1 h2 => by simp [execOp, h1, h2, go_sem]
theorem p_leq (hx : evA env x = .r (.v (.int k m))) (hy : evA env y = .r (.v (.int k p))) : ReadOk P ⟨d, .binOp .leq t x y yt, ty, pos, af, g⟩ env H [] (.r (.v (.bool (decide (m ≤ p))))) :=
  p_exact2 rfl hx hy fun ρ w h1 h2 => by simp [execOp, h1, h2, go_sem]
theorem p_gtr (hx : evA env x = .r (.v (.int k m))) (hy : evA env y = .r (.v (.int k p))) : ReadOk P ⟨d, .binOp .gtr t x y yt, ty, pos, af, g⟩ env H [] (.r (.v (.bool (decide (p < m))))) :=
  p_exact2 rfl hx hy fun ρ w h1 h2 => by simp [execOp, h1, h2, go_sem]
theorem p_geq (hx : evA env x = .r (.v (.int k m))) (hy : evA env y = .r (.v (.int k p))) : ReadOk P ⟨d, .binOp .geq t x y yt, ty, pos, af, g⟩ env H [] (.r (.v (.bool (decide (p ≤ m))))) :=
  p_exact2 rfl hx hy fun ρ w h1 h2 => by simp [execOp, h1, h2, go_sem]
theorem p_eql (hx : evA env x = .r (.v (.int k m))) (hy : evA env y = .r (.v (.int k p))) : ReadOk P ⟨d, .binOp .eql t x y yt, ty, pos, af, g⟩ env H [] (.r (.v (.bool (decide (m = p))))) :=
  p_exact2 rfl hx hy fun ρ w h1 h2 => by simp [execOp, h1, h2, go_sem]; rw [Bool.eq_iff_iff]; simp
theorem p_neq (hx : evA env x = .r (.v (.int k m))) (hy : evA env y = .r (.v (.int k p))) : ReadOk P ⟨d, .binOp .neq t x y yt, ty, pos, af, g⟩ env H [] (.r (.v (.bool (decide (¬ m = p))))) :=
  p_exact2 rfl hx hy fun ρ w h1 h2 => by simp [execOp, h1, h2, go_sem]; rw [Bool.eq_iff_iff]; simp
theorem p_eqlb {a b : Bool} (ht : P.underlying t = some .bool) (hx : evA env x = .r (.v (.bool a))) (hy : evA env y = .r (.v (.bool b))) : ReadOk P ⟨d, .binOp .eql t x y yt, ty, pos, af, g⟩ env H [] (.r (.v (.bool (a == b)))) :=
  p_exact2 rfl hx hy fun ρ w h1 h2 => by
    have : (eqGuard .eql t x y (.bool a) (.bool b)) = pure () := rfl
    simp only [execOp, h1, h2, this, Sem.run_bind, Sem.run_pure, Result.andThen_ok, run_eql_bool w t a b ht]
theorem p_neqb {a b : Bool} (ht : P.underlying t = some .bool) (hx : evA env x = .r (.v (.bool a))) (hy : evA env y = .r (.v (.bool b))) : ReadOk P ⟨d, .binOp .neq t x y yt, ty, pos, af, g⟩ env H [] (.r (.v (.bool (!(a == b))))) :=
  p_exact2 rfl hx hy fun ρ w h1 h2 => by
    have : (eqGuard .neq t x y (.bool a) (.bool b)) = pure () := rfl
    simp only [execOp, h1, h2, this, Sem.run_bind, Sem.run_pure, Result.andThen_ok, run_neq_bool w t a b ht]
theorem p_not {b : Bool} (hx : evA env x = .r (.v (.bool b))) : ReadOk P ⟨d, .unOp .not t x, ty, pos, af, g⟩ env H [] (.r (.v (.bool !b))) :=
  p_exact1 rfl hx fun ρ w h1 => by simp [execOp, h1, go_sem]
theorem p_neg (hx : evA env x = .r (.v (.int k m))) (hc : k.wrap (0 - m) = c) : ReadOk P ⟨d, .unOp .neg t x, ty, pos, af, g⟩ env H [] (.r (.v (.int k c))) :=
  p_exact1 rfl hx fun ρ w h1 => by subst hc; simp [execOp, h1, go_sem, Op.intArith]
theorem p_conv {src dst : TypeId} {k' : IntKind} [hI : ItT P dst k'] (hx : evA env x = .r (.v (.int k m))) (hs : (P.underlying src).isSome = true) (hc : k'.wrap m = c) : ReadOk P ⟨d, .convert src dst x, ty, pos, af, g⟩ env H [] (.r (.v (.int k' c))) :=
  p_exact1 rfl hx fun ρ w h1 => by
    subst hc
    have hd := hI.ok
    have hk : P.intKind dst = k' := by simp [Program.intKind, hd]
    have := run_convert_int (P := P) w src dst k m hs (by rw [hk]; exact hd)
    rw [hk] at this
    simp only [execOp, h1, Sem.run_bind, this, Result.andThen_ok]
    rfl
end

/-! ### Slices and pointers that are only read -/
section
variable {t : TypeId} {x y : Operand} {sz : Nat} {es : List (List RV)} {cs e : List RV}
theorem p_len (hx : evA env x = .r (.sl sz es)) (ht : P.underlying t = some (.slice (P.elem t))) : ReadOk P ⟨d, .call { callee := .builtin .len, args := #[x], argTypes := #[t] }, ty, pos, af, g⟩ env H [] (.r (.v (.int .i64 es.length))) := by
  refine ⟨fun i b h => by simp at h, fun i hi => by simp [AV.ids] at hi, fun a w Z M hr _ => ?_⟩
  have h1 := hr x (by simp [Op.operands, Call.operands])
  rw [hx, AV.rep, RV.rep] at h1
  obtain ⟨A, c, h2, _⟩ := h1
  refine ⟨.int .i64 es.length, ?_, by rw [AV.rep, RV.rep]⟩
  have := run_len_slice (P := P) w t ty A es.length c ht
  simp [execOp, resolve, h2, invoke, builtin, this, goInt]
theorem p_len_nil {A : Option Addr} {m c : Nat} (hx : evA env x = .r (.v (.slice A m c))) (ht : P.underlying t = some (.slice (P.elem t))) : ReadOk P ⟨d, .call { callee := .builtin .len, args := #[x], argTypes := #[t] }, ty, pos, af, g⟩ env H [] (.r (.v (.int .i64 m))) := by
  refine ⟨fun i b h => by simp at h, fun i hi => by simp [AV.ids] at hi, fun a w Z M hr _ => ?_⟩
  have h2 := ev_v hx (hr x (by simp [Op.operands, Call.operands]))
  refine ⟨.int .i64 m, ?_, by rw [AV.rep, RV.rep]⟩
  have := run_len_slice (P := P) w t ty A m c ht
  simp [execOp, resolve, h2, invoke, builtin, this, goInt]
theorem run_sizeOf {t : TypeId} {k : Nat} (h : (P.info? t).map (·.size) = some k) (w : World) : (sizeOf t).run P w = .ok k w := by
  cases hi : P.info? t with
  | none => simp [hi] at h
  | some i => simp [hi] at h; simp [sizeOf, typeInfo, hi, h]
theorem p_index {k : IntKind} {i : Int} {j : Nat} (hx : evA env x = .r (.sl sz es)) (hy : evA env y = .r (.v (.int k i))) (hi : i = (j : Int)) (he : es[j]? = some e) (ht : P.underlying t = some (.slice (P.elem t))) (hs : (P.info? (P.elem t)).map (·.size) = some sz) :
    ReadOk P ⟨d, .indexAddr t x y, ty, pos, af, g⟩ env H [] (.rp e) := by
  subst hi
  have hj : j < es.length := by
    rcases Nat.lt_or_ge j es.length with h' | h'
    · exact h'
    · rw [List.getElem?_eq_none h'] at he; cases he
  refine ⟨fun i b h => by simp at h, fun i hi => by simp [AV.ids] at hi, fun a w Z M hr _ => ?_⟩
  have h1 := hr x (by simp [Op.operands])
  have h2 := ev_v hy (hr y (by simp [Op.operands]))
  rw [hx, AV.rep, RV.rep] at h1
  obtain ⟨A, c, h3, h4, h5, h6, h7⟩ := h1
  obtain ⟨ad, rfl, h8, h9, h10⟩ := h7 (by rintro rfl; simp at hj)
  refine ⟨.pointer (some (ad.add (j * sz))), ?_, ?_⟩
  · have := run_indexAt_slice (P := P) w t ad es.length c k (j : Int) ht
    rw [if_pos ⟨by omega, by omega⟩, run_sizeOf hs] at this
    simp only [execOp, h2, h3, Sem.run_bind, this, Result.andThen_ok, Int.toNat_natCast]
    rfl
  · rw [AV.rep]
    exact ⟨_, rfl, by rw [add_block]; exact h8, by rw [add_block]; exact h9, RV.rows_get h10 h6 he⟩
theorem p_load1 {c : RV} (hx : evA env x = .rp (c :: cs)) (hu' : (P.underlying t).map isAggD = some false) : ReadOk P ⟨d, .load t x, ty, pos, af, g⟩ env H [] (.r c) := by
  obtain ⟨D, hu, hD⟩ := Option.map_eq_some_iff.1 hu'
  refine ⟨fun i b h => by simp at h, fun i hi => by simp [AV.ids] at hi, fun a w Z M hr _ => ?_⟩
  have h1 := hr x (by simp [Op.operands])
  rw [hx, AV.rep] at h1
  simp only [RV.row] at h1
  obtain ⟨ad, h2, h3, h4, ⟨u, h5, h6, h7⟩, _⟩ := h1
  refine ⟨u, ?_, by rw [AV.rep]; exact h7⟩
  have hz : ad.add 0 = ad := rfl
  rw [hz] at h5
  simp only [execOp, h2, Instr.loadAt, Instr.sureAddr, Sem.run_bind, Sem.run_pure, Result.andThen_ok, run_loadVar_one w ad t D u hu hD h5]
theorem rvs_reps {Z : Nat → Value} {B : Nat → Prop} {w : World} {cs : List RV} {us : List Value} (h : RVs B w cs us) : AV.reps Z B w (cs.map .r) us := by
  induction h with
  | nil => rw [List.map_nil, AV.reps]
  | cons h1 h2 _ ih => rw [List.map_cons, AV.reps]; exact ⟨_, _, rfl, by rw [AV.rep]; exact h2, ih⟩
theorem p_loadN (hx : evA env x = .rp cs) (hu' : (P.underlying t).map isAggD = some true) (hs : (P.info? t).map (·.size) = some cs.length) : ReadOk P ⟨d, .load t x, ty, pos, af, g⟩ env H [] (.ag (cs.map .r)) := by
  obtain ⟨D, hu, hD⟩ := Option.map_eq_some_iff.1 hu'
  refine ⟨fun i b h => by simp at h, fun i hi => ?_, fun a w Z M hr _ => ?_⟩
  · exfalso
    have : ∀ l : List RV, AV.idss (l.map .r) = [] := by
      intro l
      induction l with
      | nil => rfl
      | cons x l ih => simp [AV.idss, AV.ids, ih]
    rw [AV.ids, this] at hi
    cases hi
  have h1 := hr x (by simp [Op.operands])
  rw [hx, AV.rep] at h1
  obtain ⟨ad, h2, h3, h4, h5⟩ := h1
  obtain ⟨us, h6, h7⟩ := (RV.row_vals ad cs 0).1 h5
  have hl : (loadCells ad us.length).run P w = .ok us.toArray w := run_loadCells_list (P := P) w ad us (fun j v hv => by have := h7 j v hv; rwa [Nat.zero_add] at this)
  refine ⟨.agg us.toArray, ?_, by rw [AV.rep]; exact ⟨_, rfl, rvs_reps h6⟩⟩
  have hagg : (isAgg t).run P w = .ok true w := by
    simp only [isAgg, Sem.run_bind, run_underlying hu, Result.andThen_ok]
    cases D <;> first | rfl | (simp [isAggD] at hD)
  have hz : (sizeOf t).run P w = .ok us.length w := by rw [run_sizeOf hs, h6.len]
  simp only [execOp, h2, Instr.loadAt, Instr.sureAddr, loadVar, Sem.run_bind, Sem.run_pure, Result.andThen_ok, hagg, hz, if_true, hl]
end
end

/-! ## Which operation stands next -/
section
variable {P : Program} {L : Ln} {N : Nat} {ops : Array Oper} {chk : List (Nat × Sp) → Bool} {Q : St → Prop} {l : List Oper} {S : St} {tr : List (Nat × Sp)} {d : Option Tmp} {ty : TypeId} {pos : String} {af : Array Edge} {g : Option (Nat × Bool)}
theorem is_move {x : Operand} (h : wpA P L N ops chk Q (⟨d, .move x, ty, pos, af, g⟩ :: l) S tr) : wpA P L N ops chk Q (⟨d, .move x, ty, pos, af, g⟩ :: l) S tr := h
theorem is_assign {x : Operand} (h : wpA P L N ops chk Q (⟨d, .assign x, ty, pos, af, g⟩ :: l) S tr) : wpA P L N ops chk Q (⟨d, .assign x, ty, pos, af, g⟩ :: l) S tr := h
theorem is_pick {c : Operand} {x : Operand} {y : Operand} (h : wpA P L N ops chk Q (⟨d, .pick c x y, ty, pos, af, g⟩ :: l) S tr) : wpA P L N ops chk Q (⟨d, .pick c x y, ty, pos, af, g⟩ :: l) S tr := h
theorem is_bin {b : BinOp} {t : TypeId} {x : Operand} {y : Operand} {yt : TypeId} (h : wpA P L N ops chk Q (⟨d, .binOp b t x y yt, ty, pos, af, g⟩ :: l) S tr) : wpA P L N ops chk Q (⟨d, .binOp b t x y yt, ty, pos, af, g⟩ :: l) S tr := h
theorem is_un {u : UnOp} {t : TypeId} {x : Operand} (h : wpA P L N ops chk Q (⟨d, .unOp u t x, ty, pos, af, g⟩ :: l) S tr) : wpA P L N ops chk Q (⟨d, .unOp u t x, ty, pos, af, g⟩ :: l) S tr := h
theorem is_conv {s : TypeId} {t : TypeId} {x : Operand} (h : wpA P L N ops chk Q (⟨d, .convert s t x, ty, pos, af, g⟩ :: l) S tr) : wpA P L N ops chk Q (⟨d, .convert s t x, ty, pos, af, g⟩ :: l) S tr := h
theorem is_call {c : Call} (h : wpA P L N ops chk Q (⟨d, .call c, ty, pos, af, g⟩ :: l) S tr) : wpA P L N ops chk Q (⟨d, .call c, ty, pos, af, g⟩ :: l) S tr := h
theorem is_load {t : TypeId} {x : Operand} (h : wpA P L N ops chk Q (⟨d, .load t x, ty, pos, af, g⟩ :: l) S tr) : wpA P L N ops chk Q (⟨d, .load t x, ty, pos, af, g⟩ :: l) S tr := h
theorem is_store {t : TypeId} {x : Operand} {y : Operand} (h : wpA P L N ops chk Q (⟨d, .store t x y, ty, pos, af, g⟩ :: l) S tr) : wpA P L N ops chk Q (⟨d, .store t x y, ty, pos, af, g⟩ :: l) S tr := h
theorem is_iaddr {t : TypeId} {x : Operand} {y : Operand} (h : wpA P L N ops chk Q (⟨d, .indexAddr t x y, ty, pos, af, g⟩ :: l) S tr) : wpA P L N ops chk Q (⟨d, .indexAddr t x y, ty, pos, af, g⟩ :: l) S tr := h
theorem is_faddr {t : TypeId} {x : Operand} {i : Nat} (h : wpA P L N ops chk Q (⟨d, .fieldAddr t x i, ty, pos, af, g⟩ :: l) S tr) : wpA P L N ops chk Q (⟨d, .fieldAddr t x i, ty, pos, af, g⟩ :: l) S tr := h
theorem is_extract {x : Operand} {i : Nat} (h : wpA P L N ops chk Q (⟨d, .extract x i, ty, pos, af, g⟩ :: l) S tr) : wpA P L N ops chk Q (⟨d, .extract x i, ty, pos, af, g⟩ :: l) S tr := h
theorem is_alloc {t : TypeId} (h : wpA P L N ops chk Q (⟨d, .alloc t, ty, pos, af, g⟩ :: l) S tr) : wpA P L N ops chk Q (⟨d, .alloc t, ty, pos, af, g⟩ :: l) S tr := h
theorem is_box {t : TypeId} {x : Operand} (h : wpA P L N ops chk Q (⟨d, .box t x, ty, pos, af, g⟩ :: l) S tr) : wpA P L N ops chk Q (⟨d, .box t x, ty, pos, af, g⟩ :: l) S tr := h
theorem is_build {t : TypeId} {p : Array (Nat × Operand)} (h : wpA P L N ops chk Q (⟨d, .build t p, ty, pos, af, g⟩ :: l) S tr) : wpA P L N ops chk Q (⟨d, .build t p, ty, pos, af, g⟩ :: l) S tr := h
theorem is_bslice {t : TypeId} {m : Nat} {p : Array (Nat × Operand)} (h : wpA P L N ops chk Q (⟨d, .buildSlice t m p, ty, pos, af, g⟩ :: l) S tr) : wpA P L N ops chk Q (⟨d, .buildSlice t m p, ty, pos, af, g⟩ :: l) S tr := h
theorem is_slice {t : TypeId} {x : Operand} {lo : Option Operand} {hi : Option Operand} {mx : Option Operand} (h : wpA P L N ops chk Q (⟨d, .slice t x lo hi mx, ty, pos, af, g⟩ :: l) S tr) : wpA P L N ops chk Q (⟨d, .slice t x lo hi mx, ty, pos, af, g⟩ :: l) S tr := h
theorem is_mslice {t : TypeId} {m : Operand} {c : Operand} (h : wpA P L N ops chk Q (⟨d, .makeSlice t m c, ty, pos, af, g⟩ :: l) S tr) : wpA P L N ops chk Q (⟨d, .makeSlice t m c, ty, pos, af, g⟩ :: l) S tr := h
theorem is_nilc {x : Operand} (h : wpA P L N ops chk Q (⟨d, .nilCheck x, ty, pos, af, g⟩ :: l) S tr) : wpA P L N ops chk Q (⟨d, .nilCheck x, ty, pos, af, g⟩ :: l) S tr := h
theorem is_index {t : TypeId} {x : Operand} {y : Operand} (h : wpA P L N ops chk Q (⟨d, .index t x y, ty, pos, af, g⟩ :: l) S tr) : wpA P L N ops chk Q (⟨d, .index t x y, ty, pos, af, g⟩ :: l) S tr := h
theorem is_b_add {t : TypeId} {x y : Operand} {yt : TypeId} (h : wpA P L N ops chk Q (⟨d, .binOp .add t x y yt, ty, pos, af, g⟩ :: l) S tr) : wpA P L N ops chk Q (⟨d, .binOp .add t x y yt, ty, pos, af, g⟩ :: l) S tr := h
theorem is_b_sub {t : TypeId} {x y : Operand} {yt : TypeId} (h : wpA P L N ops chk Q (⟨d, .binOp .sub t x y yt, ty, pos, af, g⟩ :: l) S tr) : wpA P L N ops chk Q (⟨d, .binOp .sub t x y yt, ty, pos, af, g⟩ :: l) S tr := h
theorem is_b_mul {t : TypeId} {x y : Operand} {yt : TypeId} (h : wpA P L N ops chk Q (⟨d, .binOp .mul t x y yt, ty, pos, af, g⟩ :: l) S tr) : wpA P L N ops chk Q (⟨d, .binOp .mul t x y yt, ty, pos, af, g⟩ :: l) S tr := h
theorem is_b_quo {t : TypeId} {x y : Operand} {yt : TypeId} (h : wpA P L N ops chk Q (⟨d, .binOp .quo t x y yt, ty, pos, af, g⟩ :: l) S tr) : wpA P L N ops chk Q (⟨d, .binOp .quo t x y yt, ty, pos, af, g⟩ :: l) S tr := h
theorem is_b_rem {t : TypeId} {x y : Operand} {yt : TypeId} (h : wpA P L N ops chk Q (⟨d, .binOp .rem t x y yt, ty, pos, af, g⟩ :: l) S tr) : wpA P L N ops chk Q (⟨d, .binOp .rem t x y yt, ty, pos, af, g⟩ :: l) S tr := h
theorem is_b_and {t : TypeId} {x y : Operand} {yt : TypeId} (h : wpA P L N ops chk Q (⟨d, .binOp .and t x y yt, ty, pos, af, g⟩ :: l) S tr) : wpA P L N ops chk Q (⟨d, .binOp .and t x y yt, ty, pos, af, g⟩ :: l) S tr := h
theorem is_b_or {t : TypeId} {x y : Operand} {yt : TypeId} (h : wpA P L N ops chk Q (⟨d, .binOp .or t x y yt, ty, pos, af, g⟩ :: l) S tr) : wpA P L N ops chk Q (⟨d, .binOp .or t x y yt, ty, pos, af, g⟩ :: l) S tr := h
theorem is_b_xor {t : TypeId} {x y : Operand} {yt : TypeId} (h : wpA P L N ops chk Q (⟨d, .binOp .xor t x y yt, ty, pos, af, g⟩ :: l) S tr) : wpA P L N ops chk Q (⟨d, .binOp .xor t x y yt, ty, pos, af, g⟩ :: l) S tr := h
theorem is_b_shl {t : TypeId} {x y : Operand} {yt : TypeId} (h : wpA P L N ops chk Q (⟨d, .binOp .shl t x y yt, ty, pos, af, g⟩ :: l) S tr) : wpA P L N ops chk Q (⟨d, .binOp .shl t x y yt, ty, pos, af, g⟩ :: l) S tr := h
theorem is_b_shr {t : TypeId} {x y : Operand} {yt : TypeId} (h : wpA P L N ops chk Q (⟨d, .binOp .shr t x y yt, ty, pos, af, g⟩ :: l) S tr) : wpA P L N ops chk Q (⟨d, .binOp .shr t x y yt, ty, pos, af, g⟩ :: l) S tr := h
theorem is_b_lss {t : TypeId} {x y : Operand} {yt : TypeId} (h : wpA P L N ops chk Q (⟨d, .binOp .lss t x y yt, ty, pos, af, g⟩ :: l) S tr) : wpA P L N ops chk Q (⟨d, .binOp .lss t x y yt, ty, pos, af, g⟩ :: l) S tr := h
theorem is_b_leq {t : TypeId} {x y : Operand} {yt : TypeId} (h : wpA P L N ops chk Q (⟨d, .binOp .leq t x y yt, ty, pos, af, g⟩ :: l) S tr) : wpA P L N ops chk Q (⟨d, .binOp .leq t x y yt, ty, pos, af, g⟩ :: l) S tr := h
theorem is_b_gtr {t : TypeId} {x y : Operand} {yt : TypeId} (h : wpA P L N ops chk Q (⟨d, .binOp .gtr t x y yt, ty, pos, af, g⟩ :: l) S tr) : wpA P L N ops chk Q (⟨d, .binOp .gtr t x y yt, ty, pos, af, g⟩ :: l) S tr := h
theorem is_b_geq {t : TypeId} {x y : Operand} {yt : TypeId} (h : wpA P L N ops chk Q (⟨d, .binOp .geq t x y yt, ty, pos, af, g⟩ :: l) S tr) : wpA P L N ops chk Q (⟨d, .binOp .geq t x y yt, ty, pos, af, g⟩ :: l) S tr := h
theorem is_b_eql {t : TypeId} {x y : Operand} {yt : TypeId} (h : wpA P L N ops chk Q (⟨d, .binOp .eql t x y yt, ty, pos, af, g⟩ :: l) S tr) : wpA P L N ops chk Q (⟨d, .binOp .eql t x y yt, ty, pos, af, g⟩ :: l) S tr := h
theorem is_b_neq {t : TypeId} {x y : Operand} {yt : TypeId} (h : wpA P L N ops chk Q (⟨d, .binOp .neq t x y yt, ty, pos, af, g⟩ :: l) S tr) : wpA P L N ops chk Q (⟨d, .binOp .neq t x y yt, ty, pos, af, g⟩ :: l) S tr := h
theorem is_u_not {t : TypeId} {x : Operand} (h : wpA P L N ops chk Q (⟨d, .unOp .not t x, ty, pos, af, g⟩ :: l) S tr) : wpA P L N ops chk Q (⟨d, .unOp .not t x, ty, pos, af, g⟩ :: l) S tr := h
theorem is_u_neg {t : TypeId} {x : Operand} (h : wpA P L N ops chk Q (⟨d, .unOp .neg t x, ty, pos, af, g⟩ :: l) S tr) : wpA P L N ops chk Q (⟨d, .unOp .neg t x, ty, pos, af, g⟩ :: l) S tr := h
theorem is_c_len {xs : Array Operand} {ats : Array TypeId} (h : wpA P L N ops chk Q (⟨d, .call { callee := .builtin .len, args := xs, argTypes := ats }, ty, pos, af, g⟩ :: l) S tr) : wpA P L N ops chk Q (⟨d, .call { callee := .builtin .len, args := xs, argTypes := ats }, ty, pos, af, g⟩ :: l) S tr := h
theorem is_c_append {xs : Array Operand} {ats : Array TypeId} (h : wpA P L N ops chk Q (⟨d, .call { callee := .builtin .append, args := xs, argTypes := ats }, ty, pos, af, g⟩ :: l) S tr) : wpA P L N ops chk Q (⟨d, .call { callee := .builtin .append, args := xs, argTypes := ats }, ty, pos, af, g⟩ :: l) S tr := h
theorem is_c_copy {xs : Array Operand} {ats : Array TypeId} (h : wpA P L N ops chk Q (⟨d, .call { callee := .builtin .copy, args := xs, argTypes := ats }, ty, pos, af, g⟩ :: l) S tr) : wpA P L N ops chk Q (⟨d, .call { callee := .builtin .copy, args := xs, argTypes := ats }, ty, pos, af, g⟩ :: l) S tr := h
theorem is_c_min {xs : Array Operand} {ats : Array TypeId} (h : wpA P L N ops chk Q (⟨d, .call { callee := .builtin .min, args := xs, argTypes := ats }, ty, pos, af, g⟩ :: l) S tr) : wpA P L N ops chk Q (⟨d, .call { callee := .builtin .min, args := xs, argTypes := ats }, ty, pos, af, g⟩ :: l) S tr := h
theorem is_c_max {xs : Array Operand} {ats : Array TypeId} (h : wpA P L N ops chk Q (⟨d, .call { callee := .builtin .max, args := xs, argTypes := ats }, ty, pos, af, g⟩ :: l) S tr) : wpA P L N ops chk Q (⟨d, .call { callee := .builtin .max, args := xs, argTypes := ats }, ty, pos, af, g⟩ :: l) S tr := h
theorem is_f (f : FuncId) {xs : Array Operand} {ats : Array TypeId} (h : wpA P L N ops chk Q (⟨d, .call { callee := .value (.func f), args := xs, argTypes := ats }, ty, pos, af, g⟩ :: l) S tr) : wpA P L N ops chk Q (⟨d, .call { callee := .value (.func f), args := xs, argTypes := ats }, ty, pos, af, g⟩ :: l) S tr := h
end
end Go.Ab

/- The second layer: words for lists of bytes and numbers, tests, and the end of a round. No conditions. -/
namespace Go.Ab
open Go.RowKit
set_option linter.unusedVariables false

/-! ## Elements -/
def bys (l : List UInt8) : List (List RV) := l.map fun b => [.v (.int .u8 (b.toNat : Int))]
def nums (k : IntKind) (l : List Int) : List (List RV) := l.map fun x => [.v (.int k x)]
theorem bys_len (l : List UInt8) : (bys l).length = l.length := by simp [bys]
theorem nums_len (k : IntKind) (l : List Int) : (nums k l).length = l.length := by simp [nums]
theorem bys_get {l : List UInt8} {j : Nat} (h : j < l.length) : (bys l)[j]? = some [.v (.int .u8 ((l.getD j 0).toNat : Int))] := by simp [bys, h]
theorem nums_get {k : IntKind} {l : List Int} {j : Nat} (h : j < l.length) : (nums k l)[j]? = some [.v (.int k (l.getD j 0))] := by simp [nums, h]
theorem nums_append (k : IntKind) (a b : List Int) : nums k (a ++ b) = nums k a ++ nums k b := by simp [nums]
theorem bys_take (a : List UInt8) (k : Nat) : bys (a.take k) = (bys a).take k := by simp [bys, List.map_take]
theorem bys_drop (a : List UInt8) (k : Nat) : bys (a.drop k) = (bys a).drop k := by simp [bys, List.map_drop]
/-! ## int's arithmetic on numbers that are counted -/
theorem i64_inc (a : Nat) (h : a < 9223372036854775807) : IntKind.i64.wrap ((a : Int) + 1) = ((a + 1 : Nat) : Int) := by rw [IntWalk.i64_in _ (by omega)]; omega
theorem i64_dec (a : Nat) (h : 0 < a) (h2 : a < 9223372036854775808) : IntKind.i64.wrap ((a : Int) - 1) = ((a - 1 : Nat) : Int) := by rw [IntWalk.i64_in _ (by omega)]; omega
theorem i64_addn (a b : Nat) (h : a + b < 9223372036854775808) : IntKind.i64.wrap ((a : Int) + (b : Int)) = ((a + b : Nat) : Int) := by rw [IntWalk.i64_in _ (by omega)]; omega
theorem i64_subn (a b : Nat) (h : b ≤ a) (h2 : a < 9223372036854775808) : IntKind.i64.wrap ((a : Int) - (b : Int)) = ((a - b : Nat) : Int) := by rw [IntWalk.i64_in _ (by omega)]; omega

section
variable {P : Program} {L : Ln} {N : Nat} {Q : Exit → St → Prop} {S : St}
theorem awp_condT {c : Operand} {x y : Code} (hc : evA S.envF c = .r (.v (.bool true))) (h : awp P L N x Q S) : awp P L N (.cond c x y) Q S := awp_cond hc (fun _ => h) (fun h => by cases h)
theorem awp_condF {c : Operand} {x y : Code} (hc : evA S.envF c = .r (.v (.bool false))) (h : awp P L N y Q S) : awp P L N (.cond c x y) Q S := awp_cond hc (fun h => by cases h) (fun _ => h)
end

/-! ## The end of a round -/
section
variable {S : St} {ρ : Nat → Nat} {G : List Nat} {t : Nat} {l : List (Nat × AV)}
theorem le_nil : eLe S ρ G [] := trivial
theorem le_na (h : eLe S ρ G l) : eLe S ρ G ((t, .na) :: l) := ⟨.na _, h⟩
theorem le_r {c c' : RV} (h : eLe S ρ G l) (e : c = c') (hx : get S.env t = .r c) : eLe S ρ G ((t, .r c') :: l) := by
  subst e; refine ⟨?_, h⟩; rw [show S.envF t = .r c from hx]; exact .r _
theorem le_int {k : IntKind} {m p : Int} (h : eLe S ρ G l) (e : m = p) (hx : get S.env t = .r (.v (.int k m))) : eLe S ρ G ((t, .r (.v (.int k p))) :: l) := le_r h (by rw [e]) hx
theorem le_ow {i j : Nat} (h : eLe S ρ G l) (e : ρ i = j) (hx : get S.env t = .ow j) : eLe S ρ G ((t, .ow i) :: l) := by
  subst e; refine ⟨?_, h⟩; rw [show S.envF t = .ow (ρ i) from hx]; exact .ow _
theorem le_pt {i j o : Nat} (h : eLe S ρ G l) (e : ρ i = j) (hx : get S.env t = .pt j o) : eLe S ρ G ((t, .pt i o) :: l) := by
  subst e; refine ⟨?_, h⟩; rw [show S.envF t = .pt (ρ i) o from hx]; exact .pt _ _
theorem hl_nil : hLe S ρ G [] := trivial
theorem hl_row {i T sz : Nat} {es es' : List (List RV)} {l : List (Nat × Option Blk)} (h : hLe S ρ G l) (e : es = es') (hx : getH S.H (ρ i) = some (.row T sz es)) : hLe S ρ G ((i, some (.row T sz es')) :: l) := by
  subst e; exact ⟨⟨_, hx, .row _ _ _⟩, h⟩
theorem hl_full {i T sz : Nat} {es es' : List (List RV)} {l : List (Nat × Option Blk)} (h : hLe S ρ G l) (e : es = es') (hx : getH S.H (ρ i) = some (.full T sz es)) : hLe S ρ G ((i, some (.full T sz es')) :: l) := by
  subst e; exact ⟨⟨_, hx, .full _ _ _⟩, h⟩
end
end Go.Ab
