/- Texts of the second layer in one: Eq1 Eq2. -/
import Derived.Test.YtibedaeefnjjlaaGreatG30
/- Equality of structs whose parts are numbers, bools, arrays and structs of such: whole numbers, fractions, cones. No conditions. --ext6 -/
namespace Go.Proofs.YtibedaeefnjjlaaGreat
open Go.RowKit Go.Ab Go.Wd
set_option maxRecDepth 100000
set_option linter.unusedVariables false
set_option linter.unusedSimpArgs false

/-- Two values are equal just if b. -/
def EqR (P : Program) (d : Nat) (t : TypeId) (v u : Value) (b : Bool) : Prop := ∀ w, (Op.equalIn d t v u).run P w = .ok b w
theorem eqr_int {P : Program} {d : Nat} {t : TypeId} {k k' : IntKind} {a c : Int} (h : P.underlying t = some (.int k')) : EqR P (d + 1) t (.int k a) (.int k c) (a == c) := fun w => by
  rw [run_equalIn_int w d t k k' a c h]
theorem eqr_bool {P : Program} {d : Nat} {t : TypeId} {a c : Bool} (h : P.underlying t = some .bool) : EqR P (d + 1) t (.bool a) (.bool c) (a == c) := fun w => by
  rw [run_equalIn_bool' w d t a c h]
theorem eqr_items {P : Program} {d : Nat} {e : TypeId} {xs ys : Array Value} {w : World} (f : Nat → Bool) : ∀ (is : List Nat), (∀ i ∈ is, ∃ v u, (Go.part e xs (i * 1)).run P w = .ok v w ∧ (Go.part e ys (i * 1)).run P w = .ok u w ∧ EqR P d e v u (f i)) → (Op.eqItems d e 1 xs ys is).run P w = .ok (is.all f) w
  | [], _ => rfl
  | i :: is, h => by
    obtain ⟨v, u, h1, h2, h3⟩ := h i (by simp)
    have ih := eqr_items f is (fun j hj => h j (by simp [hj]))
    simp only [Op.eqItems, Sem.run_bind, h1, h2, h3 w, Result.andThen_ok]
    rw [List.all_cons]
    cases f i <;> simp [ih]
theorem eqr_fields {P : Program} {d : Nat} {xs ys : Array Value} {w : World} (f : TypeId → Nat → Bool) : ∀ (fs : List Field), (∀ x ∈ fs, (x.name == "_") = false ∧ ∃ v u, (Go.part x.type xs x.offset).run P w = .ok v w ∧ (Go.part x.type ys x.offset).run P w = .ok u w ∧ EqR P d x.type v u (f x.type x.offset)) → (Op.eqFields d xs ys fs).run P w = .ok (fs.all fun x => f x.type x.offset) w
  | [], _ => rfl
  | x :: fs, h => by
    obtain ⟨h0, v, u, h1, h2, h3⟩ := h x (by simp)
    have ih := eqr_fields f fs (fun j hj => h j (by simp [hj]))
    simp only [Op.eqFields, Sem.run_bind, Sem.run_ite, h0, h1, h2, h3 w, Result.andThen_ok, Bool.false_eq_true, if_false]
    have h0' : ¬ x.name = "_" := by simpa using h0
    rw [List.all_cons]
    cases f x.type x.offset <;> simp [ih, h0']
theorem fields_all {P : Program} {t : TypeId} {l : List (TypeId × Nat)} (h : (P.fieldsOf t).toList.map (fun f => (f.type, f.offset)) = l) (f : TypeId → Nat → Bool) : ((P.fieldsOf t).toList.all fun x => f x.type x.offset) = l.all fun p => f p.1 p.2 := by
  rw [← h, List.all_map]; rfl
theorem run_part_cellE {P : Program} {t : TypeId} {D : TypeDesc} {xs : Array Value} {off : Nat} {v : Value} (hu : P.underlying t = some D) (hD : isAggD D = false) (hx : xs[off]? = some v) (w : World) : (Go.part t xs off).run P w = .ok v w := by
  have : (isAgg t).run P w = .ok false w := by
    simp only [isAgg, Sem.run_bind, run_underlying hu, Result.andThen_ok, Sem.run_pure]
    cases D <;> first | rfl | (cases hD)
  simp only [Go.part, Sem.run_bind, this, Result.andThen_ok, Bool.false_eq_true, if_false, hx, Sem.run_pure]
theorem run_part_aggE {P : Program} {t : TypeId} {D : TypeDesc} {xs : Array Value} {off n : Nat} (hu : P.underlying t = some D) (hD : isAggD D = true) (hs : (P.info? t).map (·.size) = some n) (w : World) : (Go.part t xs off).run P w = .ok (.agg (xs.extract off (off + n))) w := by
  have : (isAgg t).run P w = .ok true w := by
    simp only [isAgg, Sem.run_bind, run_underlying hu, Result.andThen_ok, Sem.run_pure]
    cases D <;> first | rfl | (cases hD)
  simp only [Go.part, Sem.run_bind, this, Result.andThen_ok, if_true, Go.Ab.run_sizeOf hs, Sem.run_pure]
/-- Two structs, field by field. -/
theorem eqr_struct {P : Program} {d : Nat} {t : TypeId} {xs ys : Array Value} {l : List (TypeId × Nat)} (f : TypeId → Nat → Bool) (hs : P.underlying t = some (.struct (P.fieldsOf t))) (hp : P.stoodInHeld t = false) (hl : (P.fieldsOf t).toList.map (fun f => (f.type, f.offset)) = l) (hn : ((P.fieldsOf t).toList.all fun x => !(x.name == "_")) = true)
    (h : ∀ w, ∀ p ∈ l, ∃ v u, (Go.part p.1 xs p.2).run P w = .ok v w ∧ (Go.part p.1 ys p.2).run P w = .ok u w ∧ EqR P d p.1 v u (f p.1 p.2)) : EqR P (d + 1) t (.agg xs) (.agg ys) (l.all fun p => f p.1 p.2) := fun w => by
  rw [run_equalIn_struct w d _ _ _ hs hp, ← fields_all hl f]
  refine eqr_fields f _ fun x hx => ?_
  have hm : (x.type, x.offset) ∈ l := by rw [← hl]; exact List.mem_map.2 ⟨x, hx, rfl⟩
  have hnx := List.all_eq_true.1 hn x hx
  refine ⟨by simpa using hnx, ?_⟩
  exact h w _ hm
theorem eqr_w4 {d : Nat} {a b c e a' b' c' e' : Int} : EqR Tryz.prog (d + 2) 34 (.agg #[.int .u64 a, .int .u64 b, .int .u64 c, .int .u64 e]) (.agg #[.int .u64 a', .int .u64 b', .int .u64 c', .int .u64 e']) ((a == a') && ((b == b') && ((c == c') && ((e == e') && true)))) := fun w => by
  have hu : Tryz.prog.underlying 34 = some (.array 4 33) := by kernel_rfl
  have hq : Tryz.prog.underlying 33 = some (.int .u64) := by kernel_rfl
  have hc : Tryz.prog.cellsOf 33 = 1 := by kernel_rfl
  obtain ⟨i, hi⟩ : ∃ i, Tryz.prog.info? 33 = some i := by
    cases h : Tryz.prog.info? 33 with
    | some i => exact ⟨i, rfl⟩
    | none => have : (Tryz.prog.info? 33).isSome = true := by kernel_rfl
              rw [h] at this; cases this
  rw [run_equalIn_array (w := w) (d + 1) _ _ hu hi, hc]
  refine eqr_items (fun i => [a, b, c, e].getD i 0 == [a', b', c', e'].getD i 0) _ fun j hj => ?_
  have hj4 := List.mem_range.1 hj
  have hcase : j = 0 ∨ j = 1 ∨ j = 2 ∨ j = 3 := by omega
  rcases hcase with rfl | rfl | rfl | rfl
  · exact ⟨.int .u64 a, .int .u64 a', run_part_int hq rfl w, run_part_int hq rfl w, eqr_int hq⟩
  · exact ⟨.int .u64 b, .int .u64 b', run_part_int hq rfl w, run_part_int hq rfl w, eqr_int hq⟩
  · exact ⟨.int .u64 c, .int .u64 c', run_part_int hq rfl w, run_part_int hq rfl w, eqr_int hq⟩
  · exact ⟨.int .u64 e, .int .u64 e', run_part_int hq rfl w, run_part_int hq rfl w, eqr_int hq⟩
theorem eqr_wide {d : Nat} {s s' : Bool} {a b c e a' b' c' e' : Int} : EqR Tryz.prog (d + 3) 36 (.agg #[.bool s, .int .u64 a, .int .u64 b, .int .u64 c, .int .u64 e]) (.agg #[.bool s', .int .u64 a', .int .u64 b', .int .u64 c', .int .u64 e']) ((s == s') && (((a == a') && ((b == b') && ((c == c') && ((e == e') && true)))) && true)) := by
  have hb : Tryz.prog.underlying 4 = some .bool := by kernel_rfl
  have hu : Tryz.prog.underlying 34 = some (.array 4 33) := by kernel_rfl
  refine eqr_struct (l := [(4, 0), (34, 1)]) (fun _ o => if o = 0 then (s == s') else ((a == a') && ((b == b') && ((c == c') && ((e == e') && true))))) (by kernel_rfl) (by kernel_rfl) (by kernel_rfl) (by kernel_rfl) fun w p hp => ?_
  simp only [List.mem_cons, List.not_mem_nil, or_false] at hp
  rcases hp with rfl | rfl
  · exact ⟨.bool s, .bool s', run_part_cellE hb rfl rfl w, run_part_cellE hb rfl rfl w, eqr_bool hb⟩
  · exact ⟨_, _, run_part_aggE (n := 4) hu rfl (by kernel_rfl) w, run_part_aggE (n := 4) hu rfl (by kernel_rfl) w, eqr_w4⟩
/-- The cells of a whole number, as values. -/
def wdVs (b : Bool) (n : Nat) : List Value := [.bool b, .int .u64 ((n % B64 : Nat) : Int), .int .u64 ((n / B64 % B64 : Nat) : Int), .int .u64 ((n / B64 / B64 % B64 : Nat) : Int), .int .u64 ((n / B64 / B64 / B64 % B64 : Nat) : Int)]
def wzVs (z : Int) : List Value := wdVs (decide (z < 0)) z.natAbs
theorem words_eq {m n : Nat} (hm : m < B64 ^ 4) (hn : n < B64 ^ 4) (h0 : m % B64 = n % B64) (h1 : m / B64 % B64 = n / B64 % B64) (h2 : m / B64 / B64 % B64 = n / B64 / B64 % B64) (h3 : m / B64 / B64 / B64 % B64 = n / B64 / B64 / B64 % B64) : m = n := by
  have e : ws m 4 = ws n 4 := by
    show [m % B64, m / B64 % B64, m / B64 / B64 % B64, m / B64 / B64 / B64 % B64] = [n % B64, n / B64 % B64, n / B64 / B64 % B64, n / B64 / B64 / B64 % B64]
    rw [h0, h1, h2, h3]
  have := congrArg val e
  rwa [val_ws 4 m hm, val_ws 4 n hn] at this
theorem eqr_wz {d : Nat} {x y : Int} (hx : x.natAbs < B64 ^ 4) (hy : y.natAbs < B64 ^ 4) : EqR Tryz.prog (d + 3) 36 (.agg (wzVs x).toArray) (.agg (wzVs y).toArray) (decide (x = y)) := by
  have h := eqr_wide (d := d) (s := decide (x < 0)) (s' := decide (y < 0)) (a := ((x.natAbs % B64 : Nat) : Int)) (b := ((x.natAbs / B64 % B64 : Nat) : Int)) (c := ((x.natAbs / B64 / B64 % B64 : Nat) : Int)) (e := ((x.natAbs / B64 / B64 / B64 % B64 : Nat) : Int)) (a' := ((y.natAbs % B64 : Nat) : Int)) (b' := ((y.natAbs / B64 % B64 : Nat) : Int)) (c' := ((y.natAbs / B64 / B64 % B64 : Nat) : Int)) (e' := ((y.natAbs / B64 / B64 / B64 % B64 : Nat) : Int))
  have e : (((decide (x < 0)) == (decide (y < 0))) && (((((x.natAbs % B64 : Nat) : Int) == ((y.natAbs % B64 : Nat) : Int)) && ((((x.natAbs / B64 % B64 : Nat) : Int) == ((y.natAbs / B64 % B64 : Nat) : Int)) && ((((x.natAbs / B64 / B64 % B64 : Nat) : Int) == ((y.natAbs / B64 / B64 % B64 : Nat) : Int)) && ((((x.natAbs / B64 / B64 / B64 % B64 : Nat) : Int) == ((y.natAbs / B64 / B64 / B64 % B64 : Nat) : Int)) && true)))) && true)) = decide (x = y) := by
    by_cases hxy : x = y
    · subst hxy; simp
    · rw [decide_eq_false hxy, Bool.eq_false_iff]
      intro hall
      simp only [Bool.and_eq_true, beq_iff_eq, Bool.and_true] at hall
      obtain ⟨k0, k1, k2, k3, k4⟩ := hall
      have hn := words_eq hx hy (by omega) (by omega) (by omega) (by omega)
      have hs : (x < 0) = (y < 0) := by simpa using k0
      have : x < 0 ↔ y < 0 := by rw [hs]
      exact hxy (by omega)
  rw [e] at h
  exact h
end Go.Proofs.YtibedaeefnjjlaaGreat

/- Equality of fractions and cones; the operations. No conditions. --ext6 -/
namespace Go.Proofs.YtibedaeefnjjlaaGreat
open Go.RowKit Go.Ab Go.Wd
set_option maxRecDepth 100000
set_option linter.unusedVariables false
set_option linter.unusedSimpArgs false

def W4 (z : Int) : Prop := z.natAbs < B64 ^ 4
def rtVs (p q : Int) : List Value := wzVs p ++ wzVs q
def cnVs (o : Bool) (p q r s : Int) : List Value := .bool o :: (rtVs p q ++ rtVs r s)
theorem eqr_rt {d : Nat} {p q p' q' : Int} (hp : W4 p) (hq : W4 q) (hp' : W4 p') (hq' : W4 q') : EqR Tryz.prog (d + 4) 38 (.agg (rtVs p q).toArray) (.agg (rtVs p' q').toArray) (decide (p = p' ∧ q = q')) := by
  have hu : Tryz.prog.underlying 36 = some (.struct (Tryz.prog.fieldsOf 36)) := by kernel_rfl
  have h : EqR Tryz.prog (d + 3 + 1) 38 (.agg (rtVs p q).toArray) (.agg (rtVs p' q').toArray) (decide (p = p') && (decide (q = q') && true)) := by
    refine eqr_struct (l := [(36, 0), (36, 5)]) (fun _ o => if o = 0 then decide (p = p') else decide (q = q')) (by kernel_rfl) (by kernel_rfl) (by kernel_rfl) (by kernel_rfl) fun w x hx => ?_
    simp only [List.mem_cons, List.not_mem_nil, or_false] at hx
    rcases hx with rfl | rfl
    · exact ⟨_, _, run_part_aggE (n := 5) hu rfl (by kernel_rfl) w, run_part_aggE (n := 5) hu rfl (by kernel_rfl) w, eqr_wz hp hp'⟩
    · exact ⟨_, _, run_part_aggE (n := 5) hu rfl (by kernel_rfl) w, run_part_aggE (n := 5) hu rfl (by kernel_rfl) w, eqr_wz hq hq'⟩
  rwa [show (decide (p = p') && (decide (q = q') && true)) = decide (p = p' ∧ q = q') by simp] at h
theorem eqr_cn {d : Nat} {o o' : Bool} {p q r s p' q' r' s' : Int} (hp : W4 p) (hq : W4 q) (hp' : W4 p') (hq' : W4 q') (hr : W4 r) (hs : W4 s) (hr' : W4 r') (hs' : W4 s') : EqR Tryz.prog (d + 5) 40 (.agg (cnVs o p q r s).toArray) (.agg (cnVs o' p' q' r' s').toArray) (decide (o = o' ∧ p = p' ∧ q = q' ∧ r = r' ∧ s = s')) := by
  have hb : Tryz.prog.underlying 4 = some .bool := by kernel_rfl
  have hu : Tryz.prog.underlying 38 = some (.struct (Tryz.prog.fieldsOf 38)) := by kernel_rfl
  have h : EqR Tryz.prog (d + 4 + 1) 40 (.agg (cnVs o p q r s).toArray) (.agg (cnVs o' p' q' r' s').toArray) ((o == o') && (decide (p = p' ∧ q = q') && (decide (r = r' ∧ s = s') && true))) := by
    refine eqr_struct (l := [(4, 0), (38, 1), (38, 11)]) (fun _ i => if i = 0 then (o == o') else if i = 1 then decide (p = p' ∧ q = q') else decide (r = r' ∧ s = s')) (by kernel_rfl) (by kernel_rfl) (by kernel_rfl) (by kernel_rfl) fun w x hx => ?_
    simp only [List.mem_cons, List.not_mem_nil, or_false] at hx
    rcases hx with rfl | rfl | rfl
    · exact ⟨.bool o, .bool o', run_part_cellE hb rfl rfl w, run_part_cellE hb rfl rfl w, eqr_bool hb⟩
    · exact ⟨_, _, run_part_aggE (n := 10) hu rfl (by kernel_rfl) w, run_part_aggE (n := 10) hu rfl (by kernel_rfl) w, eqr_rt hp hq hp' hq'⟩
    · exact ⟨_, _, run_part_aggE (n := 10) hu rfl (by kernel_rfl) w, run_part_aggE (n := 10) hu rfl (by kernel_rfl) w, eqr_rt hr hs hr' hs'⟩
  have e : ((o == o') && (decide (p = p' ∧ q = q') && (decide (r = r' ∧ s = s') && true))) = decide (o = o' ∧ p = p' ∧ q = q' ∧ r = r' ∧ s = s') := by
    cases o <;> cases o' <;> simp [Bool.decide_and, Bool.and_assoc]
  rwa [e] at h
def vsA (vs : List Value) : List AV := vs.map fun x => .r (.v x)
theorem reps_vsA {Z : Nat → Value} {M : Nat → Prop} {w : World} : ∀ (vs us : List Value), AV.reps Z M w (vsA vs) us → us = vs
  | [], us, h => by simpa [vsA, AV.reps] using h
  | v :: vs, us, h => by
    rw [vsA, List.map_cons, AV.reps] at h
    obtain ⟨u, us', rfl, h1, h2⟩ := h
    rw [AV.rep, RV.rep] at h1
    rw [h1, reps_vsA vs us' h2]
section
variable {env : Nat → AV} {H : Nat → Option Blk} {d : Option Tmp} {ty : TypeId} {pos : String} {af : Array Edge} {g : Option (Nat × Bool)} {u : TypeId} {x y : Operand}
/-- Two values of cells: whether they are equal. -/
theorem p_eqR {t : TypeId} {vs us : List Value} {b : Bool} (hg : Tryz.prog.eqGuardType Tryz.prog.depth t = false) (hE : EqR Tryz.prog 10000 t (.agg vs.toArray) (.agg us.toArray) b) (hx : evA env x = .ag (vsA vs)) (hy : evA env y = .ag (vsA us)) : ReadOk Tryz.prog ⟨d, .binOp .eql t x y u, ty, pos, af, g⟩ env H [] (.r (.v (.bool b))) := by
  refine ⟨fun i b h => by simp at h, fun i hi => by simp [AV.ids] at hi, fun a w Z M hr _ => ?_⟩
  have h1 := hr x (by simp [Op.operands])
  have h2 := hr y (by simp [Op.operands])
  rw [hx, AV.rep] at h1
  rw [hy, AV.rep] at h2
  obtain ⟨xs, e1, h1⟩ := h1
  obtain ⟨ys, e2, h2⟩ := h2
  have k1 := reps_vsA vs xs.toList h1
  have k2 := reps_vsA us ys.toList h2
  have e3 : xs = vs.toArray := by rw [← k1]
  have e4 : ys = us.toArray := by rw [← k2]
  subst e3 e4
  have g1 := run_eqGuard_agg (P := Tryz.prog) w .eql t x y vs.toArray us.toArray hg
  refine ⟨.bool b, ?_, by rw [AV.rep, RV.rep]⟩
  simp only [execOp, e1, e2, Sem.run_bind, g1, Result.andThen_ok, run_eql_struct, hE w, Sem.run_pure]
theorem p_neqR {t : TypeId} {vs us : List Value} {b : Bool} (hg : Tryz.prog.eqGuardType Tryz.prog.depth t = false) (hE : EqR Tryz.prog 10000 t (.agg vs.toArray) (.agg us.toArray) b) (hx : evA env x = .ag (vsA vs)) (hy : evA env y = .ag (vsA us)) : ReadOk Tryz.prog ⟨d, .binOp .neq t x y u, ty, pos, af, g⟩ env H [] (.r (.v (.bool (!b)))) := by
  refine ⟨fun i b h => by simp at h, fun i hi => by simp [AV.ids] at hi, fun a w Z M hr _ => ?_⟩
  have h1 := hr x (by simp [Op.operands])
  have h2 := hr y (by simp [Op.operands])
  rw [hx, AV.rep] at h1
  rw [hy, AV.rep] at h2
  obtain ⟨xs, e1, h1⟩ := h1
  obtain ⟨ys, e2, h2⟩ := h2
  have k1 := reps_vsA vs xs.toList h1
  have k2 := reps_vsA us ys.toList h2
  have e3 : xs = vs.toArray := by rw [← k1]
  have e4 : ys = us.toArray := by rw [← k2]
  subst e3 e4
  have g1 := run_eqGuard_agg (P := Tryz.prog) w .neq t x y vs.toArray us.toArray hg
  refine ⟨.bool (!b), ?_, by rw [AV.rep, RV.rep]⟩
  simp only [execOp, e1, e2, Sem.run_bind, g1, Result.andThen_ok, run_neq_struct, hE w, Sem.run_pure]
/-- Two whole numbers. -/
theorem p_eqwz {a b : Int} {c : Bool} (ha : W4 a) (hb : W4 b) (hc : decide (a = b) = c) (hx : evA env x = wz a) (hy : evA env y = wz b) : ReadOk Tryz.prog ⟨d, .binOp .eql 36 x y u, ty, pos, af, g⟩ env H [] (.r (.v (.bool c))) := by
  rw [← hc]
  exact p_eqR (vs := wzVs a) (us := wzVs b) (by kernel_rfl) (eqr_wz (d := 9997) ha hb) hx hy
end
end Go.Proofs.YtibedaeefnjjlaaGreat
