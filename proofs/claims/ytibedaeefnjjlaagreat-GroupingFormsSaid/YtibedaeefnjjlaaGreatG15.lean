/- Texts of the second layer in one: Eq1 Eq2 Rt1 Rt2 Si1. -/
import Derived.Test.YtibedaeefnjjlaaGreatG12
import Derived.Test.YtibedaeefnjjlaaGreatG14
import Derived.Test.YtibedaeefnjjlaaGreatG11
set_option maxHeartbeats 4000000
set_option maxRecDepth 100000
set_option linter.unusedVariables false
set_option linter.unusedSimpArgs false
namespace Go.Proofs.YtibedaeefnjjlaaGreat
open Go.RowKit Go.Ab Go.Wd
def EqR (P : Program) (d : Nat) (t : TypeId) (v u : Value) (b : Bool) : Prop := ∀ w, (Op.equalIn d t v u).run P w = .ok b w
theorem zdg {P : Program} {d : Nat} {t : TypeId} {k k' : IntKind} {a c : Int} (h : P.underlying t = some (.int k')) : EqR P (d + 1) t (.int k a) (.int k c) (a == c) := fun w => by
 rw [run_equalIn_int w d t k k' a c h]
theorem ziS {P : Program} {d : Nat} {t : TypeId} {a c : Bool} (h : P.underlying t = some .bool) : EqR P (d + 1) t (.bool a) (.bool c) (a == c) := fun w => by
 rw [run_equalIn_bool' w d t a c h]
theorem zjN {P : Program} {d : Nat} {e : TypeId} {xs ys : Array Value} {w : World} (f : Nat → Bool) : ∀ (is : List Nat), (∀ i ∈ is, ∃ v u, (Go.part e xs (i * 1)).run P w = .ok v w ∧ (Go.part e ys (i * 1)).run P w = .ok u w ∧ EqR P d e v u (f i)) → (Op.eqItems d e 1 xs ys is).run P w = .ok (is.all f) w
 | [], _ => rfl
 | i :: is, h => by
  obtain ⟨v, u, h1, h2, h3⟩ := h i (by simp)
  have ih := zjN f is (fun j hj => h j (by simp [hj]))
  simp only [Op.eqItems, Sem.run_bind, h1, h2, h3 w, Result.andThen_ok]
  rw [List.all_cons]
  cases f i <;> simp [ih]
theorem zh9 {P : Program} {d : Nat} {xs ys : Array Value} {w : World} (f : TypeId → Nat → Bool) : ∀ (fs : List Field), (∀ x ∈ fs, (x.name == "_") = false ∧ ∃ v u, (Go.part x.type xs x.offset).run P w = .ok v w ∧ (Go.part x.type ys x.offset).run P w = .ok u w ∧ EqR P d x.type v u (f x.type x.offset)) → (Op.eqFields d xs ys fs).run P w = .ok (fs.all fun x => f x.type x.offset) w
 | [], _ => rfl
 | x :: fs, h => by
  obtain ⟨h0, v, u, h1, h2, h3⟩ := h x (by simp)
  have ih := zh9 f fs (fun j hj => h j (by simp [hj]))
  simp only [Op.eqFields, Sem.run_bind, Sem.run_ite, h0, h1, h2, h3 w, Result.andThen_ok, Bool.false_eq_true, if_false]
  have h0' : ¬ x.name = "_" := by simpa using h0
  rw [List.all_cons]
  cases f x.type x.offset <;> simp [ih, h0']
theorem zmG {P : Program} {t : TypeId} {l : List (TypeId × Nat)} (h : (P.fieldsOf t).toList.map (fun f => (f.type, f.offset)) = l) (f : TypeId → Nat → Bool) : ((P.fieldsOf t).toList.all fun x => f x.type x.offset) = l.all fun p => f p.1 p.2 := by
 rw [← h, List.all_map]; rfl
theorem zay {P : Program} {t : TypeId} {D : TypeDesc} {xs : Array Value} {off : Nat} {v : Value} (hu : P.underlying t = some D) (hD : zcU D = false) (hx : xs[off]? = some v) (w : World) : (Go.part t xs off).run P w = .ok v w := by
 have : (isAgg t).run P w = .ok false w := by
  simp only [isAgg, Sem.run_bind, run_underlying hu, Result.andThen_ok, Sem.run_pure]
  cases D <;> first | rfl | (cases hD)
 simp only [Go.part, Sem.run_bind, this, Result.andThen_ok, Bool.false_eq_true, if_false, hx, Sem.run_pure]
theorem zaA {P : Program} {t : TypeId} {D : TypeDesc} {xs : Array Value} {off n : Nat} (hu : P.underlying t = some D) (hD : zcU D = true) (hs : (P.info? t).map (·.size) = some n) (w : World) : (Go.part t xs off).run P w = .ok (.agg (xs.extract off (off + n))) w := by
 have : (isAgg t).run P w = .ok true w := by
  simp only [isAgg, Sem.run_bind, run_underlying hu, Result.andThen_ok, Sem.run_pure]
  cases D <;> first | rfl | (cases hD)
 simp only [Go.part, Sem.run_bind, this, Result.andThen_ok, if_true, Go.Ab.run_sizeOf hs, Sem.run_pure]
theorem zcE {P : Program} {d : Nat} {t : TypeId} {xs ys : Array Value} {l : List (TypeId × Nat)} (f : TypeId → Nat → Bool) (hs : P.underlying t = some (.struct (P.fieldsOf t))) (hp : P.stoodInHeld t = false) (hl : (P.fieldsOf t).toList.map (fun f => (f.type, f.offset)) = l) (hn : ((P.fieldsOf t).toList.all fun x => !(x.name == "_")) = true)
  (h : ∀ w, ∀ p ∈ l, ∃ v u, (Go.part p.1 xs p.2).run P w = .ok v w ∧ (Go.part p.1 ys p.2).run P w = .ok u w ∧ EqR P d p.1 v u (f p.1 p.2)) : EqR P (d + 1) t (.agg xs) (.agg ys) (l.all fun p => f p.1 p.2) := fun w => by
 rw [run_equalIn_struct w d _ _ _ hs hp, ← zmG hl f]
 refine zh9 f _ fun x hx => ?_
 have hm : (x.type, x.offset) ∈ l := by rw [← hl]; exact List.mem_map.2 ⟨x, hx, rfl⟩
 have hnx := List.all_eq_true.1 hn x hx
 refine ⟨by simpa using hnx, ?_⟩
 exact h w _ hm
theorem zsZ {d : Nat} {a b c e a' b' c' e' : Int} : EqR Tryz.prog (d + 2) 34 (.agg #[.int .u64 a, .int .u64 b, .int .u64 c, .int .u64 e]) (.agg #[.int .u64 a', .int .u64 b', .int .u64 c', .int .u64 e']) ((a == a') && ((b == b') && ((c == c') && ((e == e') && true)))) := fun w => by
 have hu : Tryz.prog.underlying 34 = some (.array 4 33) := by kernel_rfl
 have hq : Tryz.prog.underlying 33 = some (.int .u64) := by kernel_rfl
 have hc : Tryz.prog.cellsOf 33 = 1 := by kernel_rfl
 obtain ⟨i, hi⟩ : ∃ i, Tryz.prog.info? 33 = some i := by
  cases h : Tryz.prog.info? 33 with
  | some i => exact ⟨i, rfl⟩
  | none => have : (Tryz.prog.info? 33).isSome = true := by kernel_rfl
            rw [h] at this; cases this
 rw [run_equalIn_array (w := w) (d + 1) _ _ hu hi, hc]
 refine zjN (fun i => [a, b, c, e].getD i 0 == [a', b', c', e'].getD i 0) _ fun j hj => ?_
 have hj4 := List.mem_range.1 hj
 have hcase : j = 0 ∨ j = 1 ∨ j = 2 ∨ j = 3 := by omega
 rcases hcase with rfl | rfl | rfl | rfl
 ·exact ⟨.int .u64 a, .int .u64 a', zbr hq rfl w, zbr hq rfl w, zdg hq⟩
 ·exact ⟨.int .u64 b, .int .u64 b', zbr hq rfl w, zbr hq rfl w, zdg hq⟩
 ·exact ⟨.int .u64 c, .int .u64 c', zbr hq rfl w, zbr hq rfl w, zdg hq⟩
 ·exact ⟨.int .u64 e, .int .u64 e', zbr hq rfl w, zbr hq rfl w, zdg hq⟩
theorem zlG {d : Nat} {s s' : Bool} {a b c e a' b' c' e' : Int} : EqR Tryz.prog (d + 3) 36 (.agg #[.bool s, .int .u64 a, .int .u64 b, .int .u64 c, .int .u64 e]) (.agg #[.bool s', .int .u64 a', .int .u64 b', .int .u64 c', .int .u64 e']) ((s == s') && (((a == a') && ((b == b') && ((c == c') && ((e == e') && true)))) && true)) := by
 have hb : Tryz.prog.underlying 4 = some .bool := by kernel_rfl
 have hu : Tryz.prog.underlying 34 = some (.array 4 33) := by kernel_rfl
 refine zcE (l := [(4, 0), (34, 1)]) (fun _ o => if o = 0 then (s == s') else ((a == a') && ((b == b') && ((c == c') && ((e == e') && true))))) (by kernel_rfl) (by kernel_rfl) (by kernel_rfl) (by kernel_rfl) fun w p hp => ?_
 simp only [List.mem_cons, List.not_mem_nil, or_false] at hp
 rcases hp with rfl | rfl
 ·exact ⟨.bool s, .bool s', zay hb rfl rfl w, zay hb rfl rfl w, ziS hb⟩
 ·exact ⟨_, _, zaA (n := 4) hu rfl (by kernel_rfl) w, zaA (n := 4) hu rfl (by kernel_rfl) w, zsZ⟩
def wdVs (b : Bool) (n : Nat) : List Value := [.bool b, .int .u64 ((n % B64 : Nat) : Int), .int .u64 ((n / B64 % B64 : Nat) : Int), .int .u64 ((n / B64 / B64 % B64 : Nat) : Int), .int .u64 ((n / B64 / B64 / B64 % B64 : Nat) : Int)]
def wzVs (z : Int) : List Value := wdVs (decide (z < 0)) z.natAbs
theorem zmy {m n : Nat} (hm : m < B64 ^ 4) (hn : n < B64 ^ 4) (h0 : m % B64 = n % B64) (h1 : m / B64 % B64 = n / B64 % B64) (h2 : m / B64 / B64 % B64 = n / B64 / B64 % B64) (h3 : m / B64 / B64 / B64 % B64 = n / B64 / B64 / B64 % B64) : m = n := by
 have e : ws m 4 = ws n 4 := by
  show [m % B64, m / B64 % B64, m / B64 / B64 % B64, m / B64 / B64 / B64 % B64] = [n % B64, n / B64 % B64, n / B64 / B64 % B64, n / B64 / B64 / B64 % B64]
  rw [h0, h1, h2, h3]
 have := congrArg val e
 rwa [zcX 4 m hm, zcX 4 n hn] at this
theorem znY {d : Nat} {x y : Int} (hx : x.natAbs < B64 ^ 4) (hy : y.natAbs < B64 ^ 4) : EqR Tryz.prog (d + 3) 36 (.agg (wzVs x).toArray) (.agg (wzVs y).toArray) (decide (x = y)) := by
 have h := zlG (d := d) (s := decide (x < 0)) (s' := decide (y < 0)) (a := ((x.natAbs % B64 : Nat) : Int)) (b := ((x.natAbs / B64 % B64 : Nat) : Int)) (c := ((x.natAbs / B64 / B64 % B64 : Nat) : Int)) (e := ((x.natAbs / B64 / B64 / B64 % B64 : Nat) : Int)) (a' := ((y.natAbs % B64 : Nat) : Int)) (b' := ((y.natAbs / B64 % B64 : Nat) : Int)) (c' := ((y.natAbs / B64 / B64 % B64 : Nat) : Int)) (e' := ((y.natAbs / B64 / B64 / B64 % B64 : Nat) : Int))
 have e : (((decide (x < 0)) == (decide (y < 0))) && (((((x.natAbs % B64 : Nat) : Int) == ((y.natAbs % B64 : Nat) : Int)) && ((((x.natAbs / B64 % B64 : Nat) : Int) == ((y.natAbs / B64 % B64 : Nat) : Int)) && ((((x.natAbs / B64 / B64 % B64 : Nat) : Int) == ((y.natAbs / B64 / B64 % B64 : Nat) : Int)) && ((((x.natAbs / B64 / B64 / B64 % B64 : Nat) : Int) == ((y.natAbs / B64 / B64 / B64 % B64 : Nat) : Int)) && true)))) && true)) = decide (x = y) := by
  by_cases hxy : x = y
  ·subst hxy; simp
  ·rw [decide_eq_false hxy, Bool.eq_false_iff]
   intro hall
   simp only [Bool.and_eq_true, beq_iff_eq, Bool.and_true] at hall
   obtain ⟨k0, k1, k2, k3, k4⟩ := hall
   have hn := zmy hx hy (by omega) (by omega) (by omega) (by omega)
   have hs : (x < 0) = (y < 0) := by simpa using k0
   have : x < 0 ↔ y < 0 := by rw [hs]
   exact hxy (by omega)
 rw [e] at h
 exact h
def W4 (z : Int) : Prop := z.natAbs < B64 ^ 4
def rtVs (p q : Int) : List Value := wzVs p ++ wzVs q
def cnVs (o : Bool) (p q r s : Int) : List Value := .bool o :: (rtVs p q ++ rtVs r s)
theorem zlF {d : Nat} {p q p' q' : Int} (hp : W4 p) (hq : W4 q) (hp' : W4 p') (hq' : W4 q') : EqR Tryz.prog (d + 4) 38 (.agg (rtVs p q).toArray) (.agg (rtVs p' q').toArray) (decide (p = p' ∧ q = q')) := by
 have hu : Tryz.prog.underlying 36 = some (.struct (Tryz.prog.fieldsOf 36)) := by kernel_rfl
 have h : EqR Tryz.prog (d + 3 + 1) 38 (.agg (rtVs p q).toArray) (.agg (rtVs p' q').toArray) (decide (p = p') && (decide (q = q') && true)) := by
  refine zcE (l := [(36, 0), (36, 5)]) (fun _ o => if o = 0 then decide (p = p') else decide (q = q')) (by kernel_rfl) (by kernel_rfl) (by kernel_rfl) (by kernel_rfl) fun w x hx => ?_
  simp only [List.mem_cons, List.not_mem_nil, or_false] at hx
  rcases hx with rfl | rfl
  ·exact ⟨_, _, zaA (n := 5) hu rfl (by kernel_rfl) w, zaA (n := 5) hu rfl (by kernel_rfl) w, znY hp hp'⟩
  ·exact ⟨_, _, zaA (n := 5) hu rfl (by kernel_rfl) w, zaA (n := 5) hu rfl (by kernel_rfl) w, znY hq hq'⟩
 rwa [show (decide (p = p') && (decide (q = q') && true)) = decide (p = p' ∧ q = q') by simp] at h
theorem zqI {d : Nat} {o o' : Bool} {p q r s p' q' r' s' : Int} (hp : W4 p) (hq : W4 q) (hp' : W4 p') (hq' : W4 q') (hr : W4 r) (hs : W4 s) (hr' : W4 r') (hs' : W4 s') : EqR Tryz.prog (d + 5) 40 (.agg (cnVs o p q r s).toArray) (.agg (cnVs o' p' q' r' s').toArray) (decide (o = o' ∧ p = p' ∧ q = q' ∧ r = r' ∧ s = s')) := by
 have hb : Tryz.prog.underlying 4 = some .bool := by kernel_rfl
 have hu : Tryz.prog.underlying 38 = some (.struct (Tryz.prog.fieldsOf 38)) := by kernel_rfl
 have h : EqR Tryz.prog (d + 4 + 1) 40 (.agg (cnVs o p q r s).toArray) (.agg (cnVs o' p' q' r' s').toArray) ((o == o') && (decide (p = p' ∧ q = q') && (decide (r = r' ∧ s = s') && true))) := by
  refine zcE (l := [(4, 0), (38, 1), (38, 11)]) (fun _ i => if i = 0 then (o == o') else if i = 1 then decide (p = p' ∧ q = q') else decide (r = r' ∧ s = s')) (by kernel_rfl) (by kernel_rfl) (by kernel_rfl) (by kernel_rfl) fun w x hx => ?_
  simp only [List.mem_cons, List.not_mem_nil, or_false] at hx
  rcases hx with rfl | rfl | rfl
  ·exact ⟨.bool o, .bool o', zay hb rfl rfl w, zay hb rfl rfl w, ziS hb⟩
  ·exact ⟨_, _, zaA (n := 10) hu rfl (by kernel_rfl) w, zaA (n := 10) hu rfl (by kernel_rfl) w, zlF hp hq hp' hq'⟩
  ·exact ⟨_, _, zaA (n := 10) hu rfl (by kernel_rfl) w, zaA (n := 10) hu rfl (by kernel_rfl) w, zlF hr hs hr' hs'⟩
 have e : ((o == o') && (decide (p = p' ∧ q = q') && (decide (r = r' ∧ s = s') && true))) = decide (o = o' ∧ p = p' ∧ q = q' ∧ r = r' ∧ s = s') := by
  cases o <;> cases o' <;> simp [Bool.decide_and, Bool.and_assoc]
 rwa [e] at h
def vsA (vs : List Value) : List AV := vs.map fun x => .r (.v x)
theorem zfV {Z : Nat → Value} {M : Nat → Prop} {w : World} : ∀ (vs us : List Value), AV.reps Z M w (vsA vs) us → us = vs
 | [], us, h => by simpa [vsA, AV.reps] using h
 | v :: vs, us, h => by
  rw [vsA, List.map_cons, AV.reps] at h
  obtain ⟨u, us', rfl, h1, h2⟩ := h
  rw [AV.rep, RV.rep] at h1
  rw [h1, zfV vs us' h2]
section
variable {env : Nat → AV} {H : Nat → Option Blk} {d : Option Tmp} {ty : TypeId} {pos : String} {af : Array Edge} {g : Option (Nat × Bool)} {u : TypeId} {x y : Operand}
theorem zou {t : TypeId} {vs us : List Value} {b : Bool} (hg : Tryz.prog.eqGuardType Tryz.prog.depth t = false) (hE : EqR Tryz.prog 10000 t (.agg vs.toArray) (.agg us.toArray) b) (hx : evA env x = .ag (vsA vs)) (hy : evA env y = .ag (vsA us)) : zax Tryz.prog ⟨d, .binOp .eql t x y u, ty, pos, af, g⟩ env H [] (.r (.v (.bool b))) := by
 refine ⟨fun i b h => by simp at h, fun i hi => by simp [AV.ids] at hi, fun a w Z M hr _ => ?_⟩
 have h1 := hr x (by simp [Op.operands])
 have h2 := hr y (by simp [Op.operands])
 rw [hx, AV.rep] at h1
 rw [hy, AV.rep] at h2
 obtain ⟨xs, e1, h1⟩ := h1
 obtain ⟨ys, e2, h2⟩ := h2
 have k1 := zfV vs xs.toList h1
 have k2 := zfV us ys.toList h2
 have e3 : xs = vs.toArray := by rw [← k1]
 have e4 : ys = us.toArray := by rw [← k2]
 subst e3 e4
 have g1 := run_eqGuard_agg (P := Tryz.prog) w .eql t x y vs.toArray us.toArray hg
 refine ⟨.bool b, ?_, by rw [AV.rep, RV.rep]⟩
 simp only [execOp, e1, e2, Sem.run_bind, g1, Result.andThen_ok, run_eql_struct, hE w, Sem.run_pure]
theorem ztn {t : TypeId} {vs us : List Value} {b : Bool} (hg : Tryz.prog.eqGuardType Tryz.prog.depth t = false) (hE : EqR Tryz.prog 10000 t (.agg vs.toArray) (.agg us.toArray) b) (hx : evA env x = .ag (vsA vs)) (hy : evA env y = .ag (vsA us)) : zax Tryz.prog ⟨d, .binOp .neq t x y u, ty, pos, af, g⟩ env H [] (.r (.v (.bool (!b)))) := by
 refine ⟨fun i b h => by simp at h, fun i hi => by simp [AV.ids] at hi, fun a w Z M hr _ => ?_⟩
 have h1 := hr x (by simp [Op.operands])
 have h2 := hr y (by simp [Op.operands])
 rw [hx, AV.rep] at h1
 rw [hy, AV.rep] at h2
 obtain ⟨xs, e1, h1⟩ := h1
 obtain ⟨ys, e2, h2⟩ := h2
 have k1 := zfV vs xs.toList h1
 have k2 := zfV us ys.toList h2
 have e3 : xs = vs.toArray := by rw [← k1]
 have e4 : ys = us.toArray := by rw [← k2]
 subst e3 e4
 have g1 := run_eqGuard_agg (P := Tryz.prog) w .neq t x y vs.toArray us.toArray hg
 refine ⟨.bool (!b), ?_, by rw [AV.rep, RV.rep]⟩
 simp only [execOp, e1, e2, Sem.run_bind, g1, Result.andThen_ok, run_neq_struct, hE w, Sem.run_pure]
theorem zow {a b : Int} {c : Bool} (ha : W4 a) (hb : W4 b) (hc : decide (a = b) = c) (hx : evA env x = wz a) (hy : evA env y = wz b) : zax Tryz.prog ⟨d, .binOp .eql 36 x y u, ty, pos, af, g⟩ env H [] (.r (.v (.bool c))) := by
 rw [← hc]
 exact zou (vs := wzVs a) (us := wzVs b) (by kernel_rfl) (znY (d := 9997) ha hb) hx hy
end
def N127 : Nat := 170141183460469231731687303715884105728
theorem zo8 (a : Nat) : Int.fdiv (a : Int) (2 ^ (min (Int.toNat 63) IntKind.u64.bits)) = ((a / 9223372036854775808 : Nat) : Int) := by
 rw [show min (Int.toNat 63) IntKind.u64.bits = 63 from rfl, show (2 : Int) ^ 63 = 9223372036854775808 from rfl, Int.fdiv_eq_ediv_of_nonneg _ (by omega)]
 omega
theorem zqo (b : Bool) (n : Nat) (hn : n < B64 ^ 4) : zan Tryz.prog 126 [wd b n] [] (.r (.v (.bool (decide (n < N127))))) [] := by
 have c1 := zo8 (n / B64 % B64)
 have k1 : ¬ ((n / B64 / B64 / B64 % B64 : Nat) : Int) = 0 → false = decide (n < N127) := fun h => by
  refine (decide_eq_false ?_).symm
  unfold N127; unfold B64 at h; omega
 have k2 : ¬ ((n / B64 / B64 % B64 : Nat) : Int) = 0 → false = decide (n < N127) := fun h => by
  refine (decide_eq_false ?_).symm
  unfold N127; unfold B64 at h; omega
 have k3 : ¬ ((n / B64 % B64 / 9223372036854775808 : Nat) : Int) = 0 → false = decide (n < N127) := fun h => by
  refine (decide_eq_false ?_).symm
  unfold N127; unfold B64 at h; omega
 have k4 : ((n / B64 / B64 / B64 % B64 : Nat) : Int) = 0 → ((n / B64 / B64 % B64 : Nat) : Int) = 0 → ((n / B64 % B64 / 9223372036854775808 : Nat) : Int) = 0 → true = decide (n < N127) := fun h1 h2 h3 => by
  refine (decide_eq_true ?_).symm
  rw [zfg] at hn
  unfold N127; unfold B64 at h1 h2 h3; omega
 unfold wd
 clear hn
 generalize decide (n < N127) = r at *
 generalize n / B64 % B64 / 9223372036854775808 = y at *
 generalize n / B64 / B64 / B64 % B64 = w3 at *
 generalize n / B64 / B64 % B64 = w2 at *
 generalize n / B64 % B64 = w1 at *
 generalize n % B64 = w0 at *
 refine zap Tryz.func126 rfl (Nat.le_of_ble_eq_true rfl) rfl rfl ?_
 (repeat' (first | refine zad ?_ | (refine zac (fun hb => ?_) (fun hb => ?_) <;> (try (exfalso; omega))) | fail))
 all_goals (first | (exfalso; omega) | exact ret1 [] (.bool (k4 (by assumption) (by assumption) (by assumption))) rfl rfl rfl | exact ret1 [] (.bool (k1 (by assumption))) rfl rfl rfl | exact ret1 [] (.bool (k2 (by assumption))) rfl rfl rfl | exact ret1 [] (.bool (k3 (by assumption))) rfl rfl rfl)
def dgS (m n : Nat) : St := ⟨[(2, .pt 0 0), (3, .pt 1 0), (4, .pt 2 0)], [(0, some (.var 36 (zaM (wd false m)))), (1, some (.var 36 (zaM (wd false n)))), (2, some (.var 36 (zaM (wd false 0))))], 3⟩
theorem znT (a b : Int) (ha : W4 a) (hb0 : W4 b) : zan Tryz.prog 127 [wz a, wz b] [] (wz ((Nat.gcd a.natAbs b.natAbs : Nat) : Int)) [] := by
 unfold W4 at ha hb0
 rw [zat]
 unfold wz
 generalize decide (a < 0) = s1 at *
 generalize decide (b < 0) = s2 at *
 generalize a.natAbs = m0 at *
 generalize b.natAbs = n0 at *
 refine zap Tryz.func127 rfl (Nat.le_of_ble_eq_true rfl) rfl rfl ?_
 (repeat' (first | refine zad ?_ | (refine zac (fun hb => ?_) (fun hb => ?_) <;> (try (exfalso; omega))) | fail))
 refine zas (fun x : Nat × Nat => dgS x.1 x.2) (fun x => Nat.gcd x.1 x.2 = Nat.gcd m0 n0 ∧ x.1 < B64 ^ 4 ∧ x.2 < B64 ^ 4) (fun x => x.2) (m0, n0) ⟨rfl, ha, hb0⟩ (by (refine Le.mk [(0,0),(1,1),(2,2)] [] zaj zao zaq zal)) fun x hx => ?_
 obtain ⟨m, n⟩ := x
 obtain ⟨hx1, hx2, hx3⟩ := hx
 dsimp only at hx1 hx2 hx3
 change awp _ _ _ _ _ (dgS m n)
 have cS := zgr (n : Int) (by simpa using hx3)
 rw [zat] at cS
 by_cases h0 : n = 0
 ·subst h0
  rw [Nat.gcd_zero_right] at hx1
  rw [← hx1]
  have hs : sgZ ((0 : Nat) : Int) = 0 := rfl
  rw [hs] at cS
  (repeat' (first | refine zad ?_ | (refine is_f 112 ?_; refine zaa (cS) ?_) | (refine zac (fun hb => ?_) (fun hb => ?_) <;> (try (exfalso; omega))) | fail))
  all_goals (first | (exfalso; omega) | exact absurd rfl hb | exact zbO [] (Rt.wd false m) rfl rfl rfl rfl (zak rfl) rfl)
 ·have hs : ¬ sgZ (n : Int) = 0 := by unfold sgZ; rw [if_neg (by omega), if_neg (by omega)]; omega
  have cD := zkx (m : Int) (n : Int) (by simpa using hx2) (by simpa using hx3) (by omega)
  rw [show (m : Int) / (n : Int) = ((m / n : Nat) : Int) by simp, show (m : Int) % (n : Int) = ((m % n : Nat) : Int) by simp, zat, zat, zat, zat] at cD
  have hlt := Nat.mod_lt m (Nat.pos_of_ne_zero h0)
  have hg : Nat.gcd n (m % n) = Nat.gcd m0 n0 := by rw [← hx1, Nat.gcd_comm m n, Nat.gcd_rec n m, Nat.gcd_comm]
  generalize sgZ (n : Int) = sg at *
  generalize m / n = q at *
  generalize m % n = r at *
  (repeat' (first | refine zad ?_ | (refine is_f 112 ?_; refine zaa (cS) ?_) | (refine is_f 146 ?_; refine zaa (cD) ?_) | (refine zac (fun hb => ?_) (fun hb => ?_) <;> (try (exfalso; omega))) | fail))
  all_goals (first | (exfalso; omega) | exact ⟨(n, r), ⟨hg, hx3, by show r < B64 ^ 4; omega⟩, by show Le _ _ (dgS n r); (refine Le.mk [(0,0),(1,1),(2,2)] [] zaj zao zaq zal), by show r < n; omega⟩)
def rt (p q : Int) : AV := .ag (vsA (rtVs p q))
def VR (p q : Int) : Prop := 0 < q ∧ p.natAbs < N127 ∧ q.natAbs < N127 ∧ Nat.gcd p.natAbs q.natAbs = 1
instance (p q : Int) : Decidable (VR p q) := by unfold VR; infer_instance
theorem Rt.rt {H : Nat → Option Blk} {L : Nat} {G : List Nat} (p q : Int) : Rt H L G (Go.Proofs.YtibedaeefnjjlaaGreat.rt p q) (Go.Proofs.YtibedaeefnjjlaaGreat.rt p q) [] := by
 refine .ag _ _ _ ?_
 have : vsA (rtVs p q) = ((rtVs p q).map RV.v).map AV.r := by unfold vsA; rw [List.map_map]; rfl
 rw [this]; exact Rt.agR _
theorem zmt (z : Int) (hz : W4 z) : zan Tryz.prog 125 [wz z] [] (.r (.v (.bool true))) [] := by
 have h := zf3 (decide (z < 0)) z.natAbs hz
 have e : vW (decide (z < 0)) z.natAbs = true := by
  unfold vW
  by_cases h : z < 0
  ·rw [decide_eq_true h, decide_eq_true (by omega : z.natAbs ≠ 0)]; rfl
  ·rw [decide_eq_false h]; rfl
 rw [e] at h
 exact h
theorem zmm (z : Int) (hz : W4 z) : zan Tryz.prog 126 [wz z] [] (.r (.v (.bool (decide (z.natAbs < N127))))) [] := zqo _ _ hz
theorem za7 {n : Nat} (h : n < B64 ^ 4) : W4 (n : Int) := by unfold W4; simpa using h
theorem zqL {a b : Int} (ha : W4 a) (hb : W4 b) : W4 ((Nat.gcd a.natAbs b.natAbs : Nat) : Int) := by
 refine za7 ?_
 unfold W4 at ha hb
 rcases Nat.eq_zero_or_pos a.natAbs with h | h
 ·rw [h, Nat.gcd_zero_left]; exact hb
 ·exact Nat.lt_of_le_of_lt (Nat.gcd_le_left _ h) ha
theorem wone : W4 1 := by unfold W4; rw [zfg]; decide
theorem zpu : zan Tryz.prog 111 [.r (.v (.int .i64 1))] [] (wz 1) [] := ztK 1 (by constructor <;> decide)
theorem zfe (p q : Int) (hp : W4 p) (hq : W4 q) : zan Tryz.prog 94 [rt p q] [] (.r (.v (.bool (decide (VR p q))))) [] := by
 have v1 := zmt p hp
 have v2 := zmt q hq
 have cS := zgr q hq
 have s1 := zmm p hp
 have s2 := zmm q hq
 have cD := znT p q hp hq
 have cO := zpu
 have hgw := zqL hp hq
 have h1w := wone
 by_cases h0 : 0 < q
 ·have hsg : sgZ q = 1 := by unfold sgZ; rw [if_neg (by omega), if_neg (by omega)]
  rw [hsg] at cS
  by_cases h1 : p.natAbs < N127
  ·rw [decide_eq_true h1] at s1
   by_cases h2 : q.natAbs < N127
   ·rw [decide_eq_true h2] at s2
    have e : decide (VR p q) = decide (((Nat.gcd p.natAbs q.natAbs : Nat) : Int) = 1) := by
     unfold VR
     simp only [h0, h1, h2, true_and]
     by_cases hg : Nat.gcd p.natAbs q.natAbs = 1
     ·rw [decide_eq_true hg, decide_eq_true (by omega)]
     ·rw [decide_eq_false hg, decide_eq_false (by omega)]
    rw [e]
    generalize ((Nat.gcd p.natAbs q.natAbs : Nat) : Int) = gg at *
    refine zap Tryz.func94 rfl (Nat.le_of_ble_eq_true rfl) rfl rfl ?_
    (repeat' (first | (refine zbP ?_; refine zbl ?_; refine zag rfl zab (zow hgw h1w rfl rfl rfl) ?_) | refine zad ?_ | (refine is_f 125 ?_; refine zaa (v1) ?_) | (refine is_f 125 ?_; refine zaa (v2) ?_) | (refine is_f 112 ?_; refine zaa (cS) ?_) | (refine is_f 126 ?_; refine zaa (s1) ?_) | (refine is_f 126 ?_; refine zaa (s2) ?_) | (refine is_f 127 ?_; refine zaa (cD) ?_) | (refine is_f 111 ?_; refine zaa (cO) ?_) | (refine zac (fun hb => ?_) (fun hb => ?_) <;> (try (exfalso; omega))) | fail))
    all_goals (first | (exfalso; omega) | exact ret1 [] (.bool rfl) rfl rfl rfl)
   ·rw [decide_eq_false h2] at s2
    have e : false = decide (VR p q) := (decide_eq_false fun h => h2 h.2.2.1).symm
    rw [← e]
    clear e cD cO
    refine zap Tryz.func94 rfl (Nat.le_of_ble_eq_true rfl) rfl rfl ?_
    (repeat' (first | refine zad ?_ | (refine is_f 125 ?_; refine zaa (v1) ?_) | (refine is_f 125 ?_; refine zaa (v2) ?_) | (refine is_f 112 ?_; refine zaa (cS) ?_) | (refine is_f 126 ?_; refine zaa (s1) ?_) | (refine is_f 126 ?_; refine zaa (s2) ?_) | (refine zac (fun hb => ?_) (fun hb => ?_) <;> (try (exfalso; omega))) | fail))
    all_goals (first | (exfalso; omega) | exact ret1 [] (.bool rfl) rfl rfl rfl)
  ·rw [decide_eq_false h1] at s1
   have e : false = decide (VR p q) := (decide_eq_false fun h => h1 h.2.1).symm
   rw [← e]
   clear e cD cO s2
   refine zap Tryz.func94 rfl (Nat.le_of_ble_eq_true rfl) rfl rfl ?_
   (repeat' (first | refine zad ?_ | (refine is_f 125 ?_; refine zaa (v1) ?_) | (refine is_f 125 ?_; refine zaa (v2) ?_) | (refine is_f 112 ?_; refine zaa (cS) ?_) | (refine is_f 126 ?_; refine zaa (s1) ?_) | (refine zac (fun hb => ?_) (fun hb => ?_) <;> (try (exfalso; omega))) | fail))
   all_goals (first | (exfalso; omega) | exact ret1 [] (.bool rfl) rfl rfl rfl)
 ·have hsg : sgZ q ≤ 0 := by unfold sgZ; split <;> omega
  have e : false = decide (VR p q) := (decide_eq_false fun h => h0 h.1).symm
  rw [← e]
  clear e cD cO s1 s2
  generalize sgZ q = sg at *
  refine zap Tryz.func94 rfl (Nat.le_of_ble_eq_true rfl) rfl rfl ?_
  (repeat' (first | refine zad ?_ | (refine is_f 125 ?_; refine zaa (v1) ?_) | (refine is_f 125 ?_; refine zaa (v2) ?_) | (refine is_f 112 ?_; refine zaa (cS) ?_) | (refine zac (fun hb => ?_) (fun hb => ?_) <;> (try (exfalso; omega))) | fail))
  all_goals (first | (exfalso; omega) | exact ret1 [] (.bool rfl) rfl rfl rfl)
theorem zth (v : Int) (hv : I64 v) : zan Tryz.prog 75 [.r (.v (.int .i64 v))] [] (rt v 1) [] := by
 have c1 := ztK v hv
 have c2 := zpu
 refine zap Tryz.func75 rfl (Nat.le_of_ble_eq_true rfl) rfl rfl ?_
 (repeat' (first | refine zad ?_ | (refine is_f 111 ?_; refine zaa (c1) ?_) | (refine is_f 111 ?_; refine zaa (c2) ?_) | (refine zac (fun hb => ?_) (fun hb => ?_) <;> (try (exfalso; omega))) | fail))
 all_goals exact zbO [] (Rt.rt v 1) rfl rfl rfl rfl (zak rfl) rfl
theorem zlz (p q : Int) (hv : VR p q) (hp : W4 p) (hq : W4 q) : zan Tryz.prog 128 [rt p q] [] (rt p q) [] := by
 have cV := zfe p q hp hq
 rw [decide_eq_true hv] at cV
 refine zap Tryz.func128 rfl (Nat.le_of_ble_eq_true rfl) rfl rfl ?_
 (repeat' (first | refine zad ?_ | (refine is_f 94 ?_; refine zaa (cV) ?_) | (refine zac (fun hb => ?_) (fun hb => ?_) <;> (try (exfalso; omega))) | fail))
 all_goals exact zbO [] (Rt.rt p q) rfl rfl rfl rfl (zak rfl) rfl
theorem zaR {n : Nat} (h : n < N127) : n < B64 ^ 4 := by rw [zfg]; unfold N127 at h; omega
theorem zdr {a b : Int} (ha : a.natAbs < N127) (hb : b.natAbs < N127) : W4 (a * b) := by
 unfold W4
 rw [Int.natAbs_mul]
 have : a.natAbs * b.natAbs ≤ N127 * N127 := Nat.mul_le_mul (by omega) (by omega)
 refine Nat.lt_of_le_of_lt this ?_
 rw [zfg]; decide
theorem zik (a b : Int) (ha : a.natAbs < N127) (hb : b.natAbs < N127) : zan Tryz.prog 130 [wz a, wz b] [] (wz (a * b)) [] := by
 have c := zpt a b (zaR ha) (zaR hb) (zdr ha hb)
 generalize a * b = z at *
 refine zap Tryz.func130 rfl (Nat.le_of_ble_eq_true rfl) rfl rfl ?_
 (repeat' (first | refine zad ?_ | (refine is_f 148 ?_; refine zaa (c) ?_) | (refine zac (fun hb => ?_) (fun hb => ?_) <;> (try (exfalso; omega))) | fail))
 all_goals exact zbO [] (Rt.wz _) rfl rfl rfl rfl (zak rfl) rfl
theorem zgv (p q r s : Int) (h1 : VR p q) (h2 : VR r s) : zan Tryz.prog 95 [rt p q, rt r s] [] (.r (.v (.int .i64 (cmpZ (p * s) (r * q))))) [] := by
 have c1 := zlz p q h1 (zaR h1.2.1) (zaR h1.2.2.1)
 have c2 := zlz r s h2 (zaR h2.2.1) (zaR h2.2.2.1)
 have m1 := zik p s h1.2.1 h2.2.2.1
 have m2 := zik r q h2.2.1 h1.2.2.1
 have cC := ziy (p * s) (r * q) (zdr h1.2.1 h2.2.2.1) (zdr h2.2.1 h1.2.2.1)
 generalize p * s = x at *
 generalize r * q = y at *
 refine zap Tryz.func95 rfl (Nat.le_of_ble_eq_true rfl) rfl rfl ?_
 (repeat' (first | refine zad ?_ | (refine is_f 128 ?_; refine zaa (c1) ?_) | (refine is_f 128 ?_; refine zaa (c2) ?_) | (refine is_f 130 ?_; refine zaa (m1) ?_) | (refine is_f 130 ?_; refine zaa (m2) ?_) | (refine is_f 129 ?_; refine zaa (cC) ?_) | (refine zac (fun hb => ?_) (fun hb => ?_) <;> (try (exfalso; omega))) | fail))
 all_goals exact ret1 [] (.int rfl) rfl rfl rfl
def posF (a b c d : Nat) : Nat × Nat :=
 if h : b = 0 ∨ d = 0 ∨ a % b = 0 then (a / b, 1)
 else if a / b < c / d then (a / b + 1, 1)
 else (a / b * (posF d (c % d) b (a % b)).1 + (posF d (c % d) b (a % b)).2, (posF d (c % d) b (a % b)).1)
termination_by b + d
decreasing_by all_goals (have h1 := Nat.mod_lt a (show b > 0 by omega); have h2 := Nat.mod_lt c (show d > 0 by omega); omega)
theorem zfR {a b c d : Nat} (hb : 0 < b) (hd : 0 < d) (hle : a * d ≤ c * b) (hr : a % b ≠ 0) (hq : ¬ a / b < c / d) : a / b = c / d ∧ d * (a % b) ≤ b * (c % d) ∧ 0 < c % d := by
 have ea := Nat.mod_add_div a b
 have ec := Nat.mod_add_div c d
 have hra := Nat.mod_lt a hb
 have hrc := Nat.mod_lt c hd
 have hge : a / b ≤ c / d := by
  rw [Nat.le_div_iff_mul_le hd]
  have h1 : a / b * d * b ≤ c * b := by
   have : a / b * d * b = b * (a / b) * d := by rw [Nat.mul_comm (a / b * d) b, ← Nat.mul_assoc]
   rw [this]
   exact Nat.le_trans (Nat.mul_le_mul (by omega) (Nat.le_refl d)) hle
  exact Nat.le_of_mul_le_mul_right h1 hb
 have he : a / b = c / d := by omega
 generalize a % b = r at *
 generalize c % d = s at *
 generalize c / d = w at *
 rw [he] at ea
 have h2 : r * d ≤ s * b := by
  rw [← ea, ← ec, Nat.add_mul, Nat.add_mul] at hle
  have : b * w * d = d * w * b := by simp only [Nat.mul_assoc, Nat.mul_comm, Nat.mul_left_comm]
  omega
 refine ⟨he, by rw [Nat.mul_comm d r, Nat.mul_comm b s]; exact h2, ?_⟩
 rcases Nat.eq_zero_or_pos s with h | h
 ·subst h
  have : 0 < r * d := Nat.mul_pos (by omega) hd
  omega
 ·exact h
theorem zei : ∀ (N a b c d : Nat), b + d ≤ N → 0 < b → 0 < d → a * d ≤ c * b → (posF a b c d).1 ≤ a ∧ (posF a b c d).1 ≤ c ∧ (posF a b c d).2 ≤ b ∧ (posF a b c d).2 ≤ d
 | 0, a, b, c, d, hN, hb, hd, _ => by omega
 | N + 1, a, b, c, d, hN, hb, hd, hle => by
  have ea := Nat.mod_add_div a b
  have ec := Nat.mod_add_div c d
  have hra := Nat.mod_lt a hb
  have hrc := Nat.mod_lt c hd
  rw [posF]
  split
  ·rename_i h
   have hr : a % b = 0 := by omega
   have h1 : a / b ≤ a := Nat.div_le_self _ _
   have h2 : a / b ≤ c / d := by
    rw [Nat.le_div_iff_mul_le hd]
    have h1 : a / b * d * b ≤ c * b := by
     have : a / b * d * b = b * (a / b) * d := by rw [Nat.mul_comm (a / b * d) b, ← Nat.mul_assoc]
     rw [this]
     exact Nat.le_trans (Nat.mul_le_mul (by omega) (Nat.le_refl d)) hle
    exact Nat.le_of_mul_le_mul_right h1 hb
   have h3 : c / d ≤ c := Nat.div_le_self _ _
   exact ⟨h1, by omega, hb, hd⟩
  ·rename_i h
   split
   ·rename_i hq
    have h3 : c / d ≤ c := Nat.div_le_self _ _
    have h4 : a / b ≤ b * (a / b) := Nat.le_mul_of_pos_left _ hb
    refine ⟨?_, by omega, hb, hd⟩
    show a / b + 1 ≤ a
    omega
   ·rename_i hq
    obtain ⟨he, hi, hs⟩ := zfR hb hd hle (by omega) hq
    obtain ⟨i1, i2, i3, i4⟩ := zei N d (c % d) b (a % b) (by omega) hs (by omega) hi
    have e1 : a / b * (posF d (c % d) b (a % b)).1 ≤ a / b * b := Nat.mul_le_mul (Nat.le_refl _) i2
    have e2 : a / b * (posF d (c % d) b (a % b)).1 ≤ a / b * d := Nat.mul_le_mul (Nat.le_refl _) i1
    rw [Nat.mul_comm (a / b) b] at e1
    rw [he, Nat.mul_comm (c / d) d, ← he] at e2
    refine ⟨?_, ?_, i2, i1⟩
    ·show a / b * (posF d (c % d) b (a % b)).1 + (posF d (c % d) b (a % b)).2 ≤ a
     omega
    ·show a / b * (posF d (c % d) b (a % b)).1 + (posF d (c % d) b (a % b)).2 ≤ c
     rw [he] at e2 ⊢
     omega
theorem ztL (m n : Nat) (hm : m < B64 ^ 4) (hn : n < B64 ^ 4) (h0 : n ≠ 0) : zan Tryz.prog 146 [wz (m : Int), wz (n : Int)] [] (.tu [wz ((m / n : Nat) : Int), wz ((m % n : Nat) : Int), .r (.v (.bool true))]) [] := by
 have cD := zkx (m : Int) (n : Int) (za7 hm) (za7 hn) (by omega)
 rw [show (m : Int) / (n : Int) = ((m / n : Nat) : Int) by simp, show (m : Int) % (n : Int) = ((m % n : Nat) : Int) by simp] at cD
 exact cD
theorem zop (p q : Int) (hp : W4 p) : zan Tryz.prog 113 [rt p q] [] (rt (-p) q) [] := by
 have c := ztJ p hp
 refine zap Tryz.func113 rfl (Nat.le_of_ble_eq_true rfl) rfl rfl ?_
 (repeat' (first | refine zad ?_ | (refine is_f 145 ?_; refine zaa (c) ?_) | (refine zac (fun hb => ?_) (fun hb => ?_) <;> (try (exfalso; omega))) | fail))
 all_goals exact zbO [] (Rt.rt _ _) rfl rfl rfl rfl (zak rfl) rfl
end Go.Proofs.YtibedaeefnjjlaaGreat
