/- The second layer: structs as arguments and results. No conditions. -/
import Derived.Test.YtabgmodllifgjaaAb15
namespace Go.Ab
open Go.RowKit
set_option linter.unusedVariables false
section
variable {H : Nat → Option Blk} {ρ : Nat → Nat} {G : List Nat} {as ds cs cs' : List AV} {env : Nat → AV} {x : Operand}
theorem cfl_r {c c' : RV} (h : CfL H ρ G cs cs') (e : c = c') : CfL H ρ G (.r c :: cs) (.r c' :: cs') := by subst e; exact .cons _ _ _ _ (.r _) h
theorem cfl_int {k : IntKind} {m p : Int} (h : CfL H ρ G cs cs') (e : m = p) : CfL H ρ G (.r (.v (.int k m)) :: cs) (.r (.v (.int k p)) :: cs') := cfl_r h (by rw [e])
theorem cl_ag (h : CfL H ρ G as ds) (hc : CfL H ρ G cs cs') (hx : evA env x = .ag cs) : CfL H ρ G (evA env x :: as) (.ag cs' :: ds) := by rw [hx]; exact .cons _ _ _ _ (.ag _ _ hc) h
end
theorem Rt.ag3 {H : Nat → Option Blk} {L : Nat} {G : List Nat} {k k' k'' : IntKind} {a b c a' b' c' : Int} (h : a = a') (h' : b = b') (h'' : c = c') : Rt H L G (.ag [.r (.v (.int k a)), .r (.v (.int k' b)), .r (.v (.int k'' c))]) (.ag [.r (.v (.int k a')), .r (.v (.int k' b')), .r (.v (.int k'' c'))]) [] := by
  subst h h' h''
  exact .ag _ _ _ (.cons _ _ _ _ [] [] (.r _) (.cons _ _ _ _ [] [] (.r _) (.cons _ _ _ _ [] [] (.r _) .nil)))
/-- Nothing appended to a full slice. -/
theorem p_append_e {P : Program} {env : Nat → AV} {HF : Nat → Option Blk} {d' : Option Tmp} {ty : TypeId} {pos : String} {af : Array Edge} {g : Option (Nat × Bool)} {t : TypeId} {x y : Operand} {e sz b i : Nat} [hT : SlT P t e sz b] {es : List (List RV)} (hx : evA env x = .ow i) (hi : HF i = some (.full e sz es)) (hy : evA env y = .r (.sl sz [])) :
    ReadOk P ⟨d', .call { callee := .builtin .append, args := #[x, y], argTypes := #[t, t] }, ty, pos, af, g⟩ env HF [(i, .full e sz es)] (.ow i) := by
  refine ⟨fun j c hj => ?_, fun j hj => .inl ((ids_ev hx j (by simpa [AV.ids] using hj)).resolve_right fun ⟨_, _, h, _⟩ => by cases h), fun a w Z M hr hh => ?_⟩
  · have : j = i ∧ c = .full e sz es := by simpa using hj
    obtain ⟨rfl, rfl⟩ := this
    exact hi
  have h1 := hr x (by simp [Op.operands, Call.operands])
  have h2 := hr y (by simp [Op.operands, Call.operands])
  rw [hx, AV.rep] at h1
  rw [hy, AV.rep, RV.rep] at h2
  obtain ⟨A, c, h3, _, _, _, _⟩ := h2
  obtain ⟨q, us, fr, f1, f2, f3, f4, f5⟩ := hh i (.full e sz es) (by simp)
  obtain ⟨ti, z, t1, t2, t3, t4, t5⟩ := SlT.inf (P := P) (t := t) (e := e) (sz := sz) (b := b)
  have tu := SlT.und (P := P) (t := t) (e := e) (sz := sz) (b := b)
  refine ⟨Z i, ?_, by rw [AV.rep]⟩
  have key : (Builtin.append_ #[t, t] ty #[.slice (some ⟨q, 0, none⟩) es.length es.length, .slice A 0 c]).run P w = .ok (.slice (some ⟨q, 0, none⟩) es.length es.length) w := by
    cases A <;> simp [Builtin.append_, run_underlying tu, sizeOf, typeInfo, t1, Builtin.lenOf, Builtin.firstCells, storeCells, loadCells, loadCellsFrom]
  simp only [List.length_nil] at h3
  simp only [execOp, resolve, invoke, builtin, Sem.run_bind, Sem.run_pure, Result.andThen_ok, List.map_toArray, List.map_cons, List.map_nil, h1, f1, h3, key]
/-- Two results, the first of which is a struct in a variable. -/
theorem ret2c {post : List (Option Blk)} {P : Program} {L : Ln} {fn : Func} {S : St} {r s y : AV} {cs : List AV} {p u ty i n : Nat} {T : TypeId} {F F' : List Nat} [hT : AgT P ty n] (G : List Nat) (hrt : Rt (getH S.H) L.n G (.ag cs) r F) (hrs : Rt (getH S.H) L.n G y s F') (hres : fn.results = #[.cell p ty, .tmp u]) (hp : get S.env p = .pt i 0) (hi : getH S.H i = some (.var T cs)) (hl : cs.length = n) (hy : get S.env u = y)
    (hpo : ∀ i b, (i, some b) ∈ numdP 0 post → getH S.H i = some b ∧ b.ids = []) (hn : retNums L (F ++ (F' ++ [])) G = true) : (Exit.ret = .normal ∨ Exit.ret = .ret) ∧ RetOk P L fn S (.tu [r, s]) post := by
  obtain ⟨d, h1, h2⟩ := hT.und
  refine ⟨.inr rfl, ⟨⟨.tu [.ag cs, y], _, G, .two _ _ _ _ hres (.agg _ _ _ _ _ _ hp hi h1 h2 ?_) (.tmp _ _ hy), .tu _ _ _ (.cons _ _ _ _ _ _ hrt (.cons _ _ _ _ _ _ hrs .nil)), hn⟩, hpo⟩⟩
  rw [hT.size, hl]
section
variable {S : St} {ρ : Nat → Nat} {G : List Nat} {l : List (Nat × AV)} {t : Nat} {lh : List (Nat × Option Blk)}
theorem le_fz {j T sz : Nat} {es es' : List (List RV)} (h : eLe S ρ G l) (e : es = es') (hg : j ∈ G) (hx : get S.env t = .ow j) (hj : getH S.H j = some (.row T sz es)) : eLe S ρ G ((t, .r (.sl sz es')) :: l) := by
  subst e; refine ⟨?_, h⟩; rw [show S.envF t = .ow j from hx]; exact .fz _ _ _ _ hj hg
theorem hl_var {i : Nat} {T : TypeId} {cs cs' : List AV} (h : hLe S ρ G lh) (hc : CfL S.HF ρ G cs cs') (hx : getH S.H (ρ i) = some (.var T cs)) : hLe S ρ G ((i, some (.var T cs')) :: lh) := ⟨⟨_, hx, .var _ _ _ hc⟩, h⟩
end
end Go.Ab
