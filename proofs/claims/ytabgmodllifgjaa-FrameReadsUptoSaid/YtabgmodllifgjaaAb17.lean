/- The second layer: structs of numbers that are compared; own rows with their room; cuts of own slices. No conditions. -/
import Derived.Test.YtabgmodllifgjaaAb16
import Derived.Laws.StructEq
namespace Go.Ab
open Go.RowKit
set_option linter.unusedVariables false
set_option linter.unusedSimpArgs false

/-! ## Structs of numbers, compared -/
def eqTB (P : Program) (t n : Nat) : Bool :=
  (match P.underlying t with
   | some (.struct fs) => Nat.beq fs.size n && (fs.toList.zipIdx.all fun p => !(p.1.name == "_") && Nat.beq p.1.offset p.2 && (match P.underlying p.1.type with | some (.int _) => true | _ => false))
   | _ => false) && !P.stoodInHeld t && !P.eqGuardType P.depth t
class EqT (P : Program) (t : Nat) (n : outParam Nat) : Prop where ok : eqTB P t n = true
/-- Whether two lists of numbers are equal. -/
def eqA : List AV → List AV → Bool
  | [], [] => true
  | .r (.v (.int _ a)) :: as, .r (.v (.int _ b)) :: bs => (a == b) && eqA as bs
  | _, _ => false
def okA : List AV → List AV → Bool
  | [], [] => true
  | .r (.v (.int k _)) :: as, .r (.v (.int k' _)) :: bs => decide (k = k') && okA as bs
  | _, _ => false
theorem fieldsOf_eq {P : Program} {t : Nat} {fs : Array Field} (h : P.underlying t = some (.struct fs)) : P.fieldsOf t = fs := by
  unfold Program.fieldsOf; rw [h]
theorem run_part_int {P : Program} {u : TypeId} {k : IntKind} {xs : Array Value} {off : Nat} {v : Value} (hu : P.underlying u = some (.int k)) (hx : xs[off]? = some v) (w : World) : (part u xs off).run P w = .ok v w := by
  simp only [part, Sem.run_bind, run_agg (b := false) hu rfl, Result.andThen_ok, Bool.false_eq_true, if_false, hx, Sem.run_pure]
theorem run_eqFields_ints {P : Program} {Z : Nat → Value} {B : Nat → Prop} {w : World} (d : Nat) (xs ys : Array Value) : ∀ (fs : List Field) (j : Nat) (as bs : List AV), okA as bs = true → as.length = fs.length → AV.reps Z B w as (xs.toList.drop j) → AV.reps Z B w bs (ys.toList.drop j) →
    ((fs.zipIdx j).all fun p => !(p.1.name == "_") && Nat.beq p.1.offset p.2 && (match P.underlying p.1.type with | some (.int _) => true | _ => false)) = true → (Op.eqFields (d + 1) xs ys fs).run P w = .ok (eqA as bs) w
  | [], j, as, bs, ho, hl, _, _, _ => by
    have : as = [] := List.eq_nil_of_length_eq_zero hl
    subst this
    cases bs with
    | nil => simp [Op.eqFields, eqA]
    | cons b bs => simp [okA] at ho
  | f :: fs, j, as, bs, ho, hl, hx, hy, hf => by
    cases as with
    | nil => simp at hl
    | cons a as =>
      cases bs with
      | nil => unfold okA at ho; split at ho <;> simp_all
      | cons b bs =>
        unfold okA at ho
        split at ho
        · simp_all
        · rename_i k m as' k' m' bs' e1 e2
          injection e1 with e1 e1'
          injection e2 with e2 e2'
          subst e1 e2 e1' e2'
          rw [AV.reps] at hx hy
          obtain ⟨u, us, g1, g2, g3⟩ := hx
          obtain ⟨v, vs, g4, g5, g6⟩ := hy
          rw [AV.rep, RV.rep] at g2 g5
          subst g2 g5
          have hd : ∀ (l : List Value) (x : Value) (xs : List Value), l.drop j = x :: xs → l[j]? = some x ∧ l.drop (j + 1) = xs := by
            intro l x xs h
            refine ⟨?_, ?_⟩
            · have := congrArg (fun l => l[0]?) h
              simpa using this
            · rw [← List.drop_drop, h]; rfl
          obtain ⟨hx1, hx2⟩ := hd _ _ _ g1
          obtain ⟨hy1, hy2⟩ := hd _ _ _ g4
          rw [List.zipIdx_cons, List.all_cons, Bool.and_eq_true] at hf
          obtain ⟨hf1, hf2⟩ := hf
          simp only [Bool.and_eq_true] at hf1
          obtain ⟨⟨hn, hoff⟩, hint⟩ := hf1
          have hoff := Nat.eq_of_beq_eq_true hoff
          have hoff : f.offset = j := hoff
          have hn' : f.name ≠ "_" := by simpa using hn
          cases hu : P.underlying f.type with
          | none => rw [hu] at hint; cases hint
          | some D =>
            rw [hu] at hint
            cases D <;> try (cases hint; done)
            rename_i kk
            rw [Bool.and_eq_true, decide_eq_true_eq] at ho
            obtain ⟨hk, ho⟩ := ho
            subst hk
            have ih := run_eqFields_ints (P := P) d xs ys fs (j + 1) as bs ho (by simpa using hl) (by rw [hx2]; exact g3) (by rw [hy2]; exact g6) hf2
            have p1 : (part f.type xs f.offset).run P w = .ok (.int k m) w := run_part_int hu (by rw [hoff, ← Array.getElem?_toList]; exact hx1) w
            have p2 : (part f.type ys f.offset).run P w = .ok (.int k m') w := run_part_int hu (by rw [hoff, ← Array.getElem?_toList]; exact hy1) w
            have p3 := run_equalIn_int w d f.type k kk m m' hu
            simp only [Op.eqFields, if_pos hn', Sem.run_bind, p1, p2, p3, Result.andThen_ok, Sem.run_ite, eqA]
            by_cases hmm : m = m'
            · subst hmm; simp [ih]
            · simp [hmm]
        · simp_all

section
variable {P : Program} {env : Nat → AV} {H : Nat → Option Blk} {d : Option Tmp} {ty : TypeId} {pos : String} {af : Array Edge} {g : Option (Nat × Bool)}
variable {t u : TypeId} {x y : Operand}
theorem eqT_all {n : Nat} [h : EqT P t n] : P.underlying t = some (.struct (P.fieldsOf t)) ∧ (P.fieldsOf t).size = n ∧ ((P.fieldsOf t).toList.zipIdx.all fun p => !(p.1.name == "_") && Nat.beq p.1.offset p.2 && (match P.underlying p.1.type with | some (.int _) => true | _ => false)) = true ∧ P.stoodInHeld t = false ∧ P.eqGuardType P.depth t = false := by
  have h0 := h.ok
  unfold eqTB at h0
  simp only [Bool.and_eq_true, Bool.not_eq_true'] at h0
  obtain ⟨⟨h1, h2⟩, h3⟩ := h0
  split at h1
  · rename_i fs hu
    rw [fieldsOf_eq hu]
    rw [Bool.and_eq_true] at h1
    exact ⟨hu, Nat.eq_of_beq_eq_true h1.1, h1.2, h2, h3⟩
  · cases h1
theorem p_eqag {n : Nat} [EqT P t n] {as bs : List AV} (hx : evA env x = .ag as) (hy : evA env y = .ag bs) (ho : okA as bs = true) (hl : as.length = n) : ReadOk P ⟨d, .binOp .eql t x y u, ty, pos, af, g⟩ env H [] (.r (.v (.bool (decide (eqA as bs = true))))) := by
  refine ⟨fun i b h => mem_nil h, fun i hi => by simp [AV.ids] at hi, fun a w Z M hr _ => ?_⟩
  have h1 := hr x (by simp [Op.operands])
  have h2 := hr y (by simp [Op.operands])
  rw [hx, AV.rep] at h1
  rw [hy, AV.rep] at h2
  obtain ⟨us, e1, h3⟩ := h1
  obtain ⟨vs, e2, h4⟩ := h2
  obtain ⟨t1, t2, t3, t4, t5⟩ := eqT_all (P := P) (t := t) (n := n)
  refine ⟨.bool (eqA as bs), ?_, by rw [AV.rep, RV.rep]; simp⟩
  have k1 : (eqGuard .eql t x y (.agg us) (.agg vs)).run P w = .ok () w := run_eqGuard_agg w .eql t x y us vs t5
  have k2 := run_eqFields_ints (P := P) (w := w) 9998 us vs (P.fieldsOf t).toList 0 as bs ho (by rw [hl, Array.length_toList, t2]) h3 h4 t3
  simp only [execOp, e1, e2, Sem.run_bind, k1, Result.andThen_ok, run_eql_struct, run_equalIn_struct w 9999 t us vs t1 t4, k2, Sem.run_pure]
theorem p_neqag {n : Nat} [EqT P t n] {as bs : List AV} (hx : evA env x = .ag as) (hy : evA env y = .ag bs) (ho : okA as bs = true) (hl : as.length = n) : ReadOk P ⟨d, .binOp .neq t x y u, ty, pos, af, g⟩ env H [] (.r (.v (.bool (decide (¬ eqA as bs = true))))) := by
  refine ⟨fun i b h => mem_nil h, fun i hi => by simp [AV.ids] at hi, fun a w Z M hr _ => ?_⟩
  have h1 := hr x (by simp [Op.operands])
  have h2 := hr y (by simp [Op.operands])
  rw [hx, AV.rep] at h1
  rw [hy, AV.rep] at h2
  obtain ⟨us, e1, h3⟩ := h1
  obtain ⟨vs, e2, h4⟩ := h2
  obtain ⟨t1, t2, t3, t4, t5⟩ := eqT_all (P := P) (t := t) (n := n)
  refine ⟨.bool (!eqA as bs), ?_, by rw [AV.rep, RV.rep]; simp⟩
  have k1 : (eqGuard .neq t x y (.agg us) (.agg vs)).run P w = .ok () w := run_eqGuard_agg w .neq t x y us vs t5
  have k2 := run_eqFields_ints (P := P) (w := w) 9998 us vs (P.fieldsOf t).toList 0 as bs ho (by rw [hl, Array.length_toList, t2]) h3 h4 t3
  simp only [execOp, e1, e2, Sem.run_bind, k1, Result.andThen_ok, run_neq_struct, run_equalIn_struct w 9999 t us vs t1 t4, k2, Sem.run_pure]
end
/-- One result, a struct in a variable. -/
theorem ret1c {post : List (Option Blk)} {P : Program} {L : Ln} {fn : Func} {S : St} {r : AV} {cs : List AV} {p ty i n : Nat} {T : TypeId} {F : List Nat} [hT : AgT P ty n] (G : List Nat) (hrt : Rt (getH S.H) L.n G (.ag cs) r F) (hres : fn.results = #[.cell p ty]) (hp : get S.env p = .pt i 0) (hi : getH S.H i = some (.var T cs)) (hl : cs.length = n)
    (hpo : ∀ i b, (i, some b) ∈ numdP 0 post → getH S.H i = some b ∧ b.ids = []) (hn : retNums L F G = true) : (Exit.ret = .normal ∨ Exit.ret = .ret) ∧ RetOk P L fn S r post := by
  obtain ⟨d, h1, h2⟩ := hT.und
  refine ⟨.inr rfl, ⟨⟨.ag cs, _, G, .one _ _ hres (.agg _ _ _ _ _ _ hp hi h1 h2 ?_), hrt, hn⟩, hpo⟩⟩
  rw [hT.size, hl]
end Go.Ab
