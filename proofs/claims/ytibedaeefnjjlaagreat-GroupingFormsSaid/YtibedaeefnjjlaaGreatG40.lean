/- Texts of the second layer in one: Pi3 Pi4 Gq2 Sa2 Gq3. -/
import Derived.Test.YtibedaeefnjjlaaGreatG39
import Derived.Test.YtibedaeefnjjlaaGreatG20
import Derived.Test.YtibedaeefnjjlaaGreatG31
import Derived.Test.YtibedaeefnjjlaaGreatG34
set_option maxHeartbeats 8000000
set_option maxRecDepth 100000
set_option linter.unusedVariables false
set_option linter.unusedSimpArgs false
namespace Go.Proofs.YtibedaeefnjjlaaGreat
open Go.RowKit Go.Ab Go.Wd
structure Ps where
 tol : Int
 ix : Int
 ct : Int
 fT : Int
 fV : Int
 last : Int
 ky : Int
 c : Cn
def psV (t i ct a b la ky : Int) (o : Bool) (p q r s : Int) : List Value := .int .i64 t :: .int .i64 i :: .int .i64 ct :: .int .i64 a :: .int .i64 b :: .int .i64 la :: .int .i64 ky :: cnVs o p q r s
def psVs (x : Ps) : List Value := psV x.tol x.ix x.ct x.fT x.fV x.last x.ky x.c.o x.c.p x.c.q x.c.r x.c.s
def stA (x : Ps) : AV := .ag (vsA (psVs x))
theorem Rt.stA {H : Nat → Option Blk} {L : Nat} {G : List Nat} (x : Ps) : Rt H L G (Go.Proofs.YtibedaeefnjjlaaGreat.stA x) (Go.Proofs.YtibedaeefnjjlaaGreat.stA x) [] := .ag _ _ _ (Rt.agR ((psVs x).map RV.v))
def Ps.tolOk (x : Ps) : Prop := 0 ≤ x.tol ∧ x.tol ≤ 4611686018427387904 ∧ 0 ≤ x.ix ∧ x.ix ≤ 1073741824
def Ps.ok0 (x : Ps) : Prop := x.tolOk ∧ x.ct = 0 ∧ x.fT = 0 ∧ x.fV = 0 ∧ x.last = 0 ∧ x.ky = 0 ∧ x.c = ⟨false, 0, 0, 0, 0⟩
def Ps.ok1 (x : Ps) : Prop := x.tolOk ∧ x.ct = 1 ∧ I64 x.fV ∧ x.ky = keyE x.fV x.tol ∧ x.last = x.fT ∧ x.c = ⟨true, 0, 0, 0, 0⟩
def Ps.ok2 (x : Ps) : Prop := x.tolOk ∧ 1 < x.ct ∧ x.ct ≤ 1073741824 ∧ I64 x.fV ∧ x.ky = keyE x.fV x.tol ∧ x.fT < x.last ∧ x.c.o = false ∧ VC x.c.p x.c.q x.c.r x.c.s
theorem zrz {d : Nat} (a b : Int) : EqR Tryz.prog (d + 2) 65 (.agg [Value.int .i64 a, Value.int .i64 b].toArray) (.agg [Value.int .i64 a, Value.int .i64 b].toArray) true := by
 have hu : Tryz.prog.underlying 2 = some (.int .i64) := by kernel_rfl
 have h : EqR Tryz.prog (d + 1 + 1) 65 (.agg [Value.int .i64 a, Value.int .i64 b].toArray) (.agg [Value.int .i64 a, Value.int .i64 b].toArray) ((a == a) && ((b == b) && true)) := by
  refine zcE (l := [(2, 0), (2, 1)]) (fun _ o => if o = 0 then a == a else b == b) (by kernel_rfl) (by kernel_rfl) (by kernel_rfl) (by kernel_rfl) fun w x hx => ?_
  simp only [List.mem_cons, List.not_mem_nil, or_false] at hx
  rcases hx with rfl | rfl
  ·exact ⟨.int .i64 a, .int .i64 a, zay hu rfl rfl w, zay hu rfl rfl w, zdg hu⟩
  ·exact ⟨.int .i64 b, .int .i64 b, zay hu rfl rfl w, zay hu rfl rfl w, zdg hu⟩
 have e : ((a == a) && ((b == b) && true)) = true := by simp
 rw [e] at h
 exact h
theorem zry {d : Nat} {t i ct a b la ky : Int} {o : Bool} {p q r s : Int} (hp : W4 p) (hq : W4 q) (hr : W4 r) (hs : W4 s) : EqR Tryz.prog (d + 6) 67 (.agg (psV t i ct a b la ky o p q r s).toArray) (.agg (psV t i ct a b la ky o p q r s).toArray) true := by
 have hu : Tryz.prog.underlying 2 = some (.int .i64) := by kernel_rfl
 have hu2 : Tryz.prog.underlying 3 = some (.int .i64) := by kernel_rfl
 have hS : Tryz.prog.underlying 65 = some (.struct (Tryz.prog.fieldsOf 65)) := by kernel_rfl
 have hc : Tryz.prog.underlying 40 = some (.struct (Tryz.prog.fieldsOf 40)) := by kernel_rfl
 have h : EqR Tryz.prog (d + 5 + 1) 67 (.agg (psV t i ct a b la ky o p q r s).toArray) (.agg (psV t i ct a b la ky o p q r s).toArray) ((t == t) && ((i == i) && ((ct == ct) && (true && ((la == la) && ((ky == ky) && (decide (o = o ∧ p = p ∧ q = q ∧ r = r ∧ s = s) && true))))))) := by
  refine zcE (l := [(2, 0), (3, 1), (3, 2), (65, 3), (2, 5), (2, 6), (40, 7)]) (fun _ k => if k = 0 then t == t else if k = 1 then i == i else if k = 2 then ct == ct else if k = 3 then true else if k = 5 then la == la else if k = 6 then ky == ky else decide (o = o ∧ p = p ∧ q = q ∧ r = r ∧ s = s)) (by kernel_rfl) (by kernel_rfl) (by kernel_rfl) (by kernel_rfl) fun w x hx => ?_
  simp only [List.mem_cons, List.not_mem_nil, or_false] at hx
  rcases hx with rfl | rfl | rfl | rfl | rfl | rfl | rfl
  ·exact ⟨.int .i64 t, .int .i64 t, zay hu rfl rfl w, zay hu rfl rfl w, zdg hu⟩
  ·exact ⟨.int .i64 i, .int .i64 i, zay hu2 rfl rfl w, zay hu2 rfl rfl w, zdg hu2⟩
  ·exact ⟨.int .i64 ct, .int .i64 ct, zay hu2 rfl rfl w, zay hu2 rfl rfl w, zdg hu2⟩
  ·exact ⟨_, _, zaA (n := 2) hS rfl (by kernel_rfl) w, zaA (n := 2) hS rfl (by kernel_rfl) w, zrz a b⟩
  ·exact ⟨.int .i64 la, .int .i64 la, zay hu rfl rfl w, zay hu rfl rfl w, zdg hu⟩
  ·exact ⟨.int .i64 ky, .int .i64 ky, zay hu rfl rfl w, zay hu rfl rfl w, zdg hu⟩
  ·have hx : (psV t i ct a b la ky o p q r s).toArray.extract 7 (7 + 21) = (cnVs o p q r s).toArray := by
    have h1 : (psV t i ct a b la ky o p q r s).drop 7 = cnVs o p q r s := rfl
    have h2 : (cnVs o p q r s).length = 21 := rfl
    rw [List.extract_toArray, List.extract_eq_take_drop, h1, List.take_of_length_le (by omega)]
   have hg := zaA (xs := (psV t i ct a b la ky o p q r s).toArray) (off := 7) (n := 21) hc rfl (by kernel_rfl) w
   rw [hx] at hg
   exact ⟨_, _, hg, hg, zqI hp hq hp hq hr hs hr hs⟩
 have e : ((t == t) && ((i == i) && ((ct == ct) && (true && ((la == la) && ((ky == ky) && (decide (o = o ∧ p = p ∧ q = q ∧ r = r ∧ s = s) && true))))))) = true := by simp
 rw [e] at h
 exact h
section
variable {env : Nat → AV} {H : Nat → Option Blk} {d : Option Tmp} {ty : TypeId} {pos : String} {af : Array Edge} {g : Option (Nat × Bool)} {u : TypeId} {x y : Operand}
theorem ztl (t i : Int) (hx : evA env x = .ag (vsA (psV t i 0 0 0 0 0 false 0 0 0 0))) (hy : evA env y = .ag (vsA (psV t i 0 0 0 0 0 false 0 0 0 0))) : zax Tryz.prog ⟨d, .binOp .eql 67 x y u, ty, pos, af, g⟩ env H [] (.r (.v (.bool true))) :=
 zou (vs := psV t i 0 0 0 0 0 false 0 0 0 0) (us := psV t i 0 0 0 0 0 false 0 0 0 0) (by kernel_rfl) (zry (d := 9994) zc3 zc3 zc3 zc3) hx hy
end
theorem zim (x : Ps) (h : x.ok0) : zan Tryz.prog 54 [stA x] [] (.r (.v (.bool true))) [] := by
 obtain ⟨t, i, ct, fT, fV, la, ky, c⟩ := x
 obtain ⟨⟨h1, h2, h3, h4⟩, h5, h6, h7, h8, h9, h10⟩ := h
 unfold stA psVs
 dsimp only at *
 subst h5 h6 h7 h8 h9 h10
 have cT := zhB t ⟨h1, h2⟩
 refine zap Tryz.func54 rfl (Nat.le_of_ble_eq_true rfl) rfl rfl ?_
 (repeat' (first | (refine zbP ?_; refine zbl ?_; refine zag rfl zab (ztl t i rfl rfl) ?_) | refine zai ?_ | (refine is_f 51 ?_; refine zah (cT) ?_) | (refine zac (fun hb => ?_) (fun hb => ?_) <;> (try (exfalso; omega))) | fail))
 all_goals (first | (exfalso; omega) | exact ret1 [] (.bool rfl) rfl rfl rfl)
theorem zmV (x : Ps) (h : x.ok1) : zan Tryz.prog 54 [stA x] [] (.r (.v (.bool true))) [] := by
 obtain ⟨t, i, ct, fT, fV, la, ky, c⟩ := x
 obtain ⟨⟨h1, h2, h3, h4⟩, h5, h6, h7, h8, h9⟩ := h
 unfold stA psVs
 dsimp only at *
 have cK := zrI fV t h6
 rw [← h7] at cK
 subst h5 h8 h9
 clear h7
 have cT := zhB t ⟨h1, h2⟩
 have cS := zeH
 refine zap Tryz.func54 rfl (Nat.le_of_ble_eq_true rfl) rfl rfl ?_
 (repeat' (first | (refine zbP ?_; refine zbl ?_; refine zag rfl zab (zkY rfl rfl) ?_) | refine zai ?_ | (refine is_f 51 ?_; refine zah (cT) ?_) | (refine is_f 88 ?_; refine zah (cK) ?_) | (refine is_f 19 ?_; refine zah (cS) ?_) | (refine zac (fun hb => ?_) (fun hb => ?_) <;> (try (exfalso; omega))) | fail))
 all_goals (first | (exfalso; omega) | exact ret1 [] (.bool rfl) rfl rfl rfl)
theorem zmW (x : Ps) (h : x.ok2) : zan Tryz.prog 54 [stA x] [] (.r (.v (.bool true))) [] := by
 obtain ⟨t, i, ct, fT, fV, la, ky, ⟨o, p, q, r, s⟩⟩ := x
 obtain ⟨⟨h1, h2, h3, h4⟩, h5, h5', h6, h7, h8, h9, h10⟩ := h
 unfold stA psVs
 dsimp only at *
 have cK := zrI fV t h6
 rw [← h7] at cK
 subst h9
 clear h7
 have cT := zhB t ⟨h1, h2⟩
 have cV := zcH p q r s h10.1 h10.2.1 h10.2.2
 refine zap Tryz.func54 rfl (Nat.le_of_ble_eq_true rfl) rfl rfl ?_
 (repeat' (first | refine zai ?_ | (refine is_f 51 ?_; refine zah (cT) ?_) | (refine is_f 88 ?_; refine zah (cK) ?_) | (refine is_f 40 ?_; refine zah (cV) ?_) | (refine zac (fun hb => ?_) (fun hb => ?_) <;> (try (exfalso; omega))) | fail))
 all_goals (first | (exfalso; omega) | exact ret1 [] (.bool rfl) rfl rfl rfl)
def zcu (x : Ps) (tm v : Int) : Ps := ⟨x.tol, x.ix + x.ct, 1, tm, v, tm, keyE v x.tol, ⟨true, 0, 0, 0, 0⟩⟩
theorem zj7 (x : Ps) (tm v : Int) (hv : I64 v) (hw : 0 ≤ x.ix ∧ 0 ≤ x.ct ∧ x.ix + x.ct < 4611686018427387904) : zan Tryz.prog 55 [stA x, .ag [.r (.v (.int .i64 tm)), .r (.v (.int .i64 v))]] [] (stA (zcu x tm v)) [] := by
 obtain ⟨t, i, ct, fT, fV, la, ky, ⟨o, p, q, r, s⟩⟩ := x
 unfold zcu stA psVs
 dsimp only at *
 have cK := zrI v t hv
 have cS := zeH
 obtain ⟨n, hn⟩ : ∃ n, n = i + ct := ⟨_, rfl⟩
 have ha : IntKind.i64.wrap (i + ct) = n := by rw [IntKind.wrap_i64]; omega
 generalize keyE v t = k at *
 rw [← hn]
 clear hn
 refine zap Tryz.func55 rfl (Nat.le_of_ble_eq_true rfl) rfl rfl ?_
 (repeat' (first | (refine zb8 ?_; refine zag rfl zab (zef (cs := vsA (psV t n 1 tm v tm k true 0 0 0 0)) [] (by kernel_rfl) (by kernel_rfl) (fun i b h => nomatch h)) ?_) | refine zai ?_ | (refine is_f 88 ?_; refine zah (cK) ?_) | (refine is_f 19 ?_; refine zah (cS) ?_) | (refine zac (fun hb => ?_) (fun hb => ?_) <;> (try (exfalso; omega))) | fail))
 all_goals exact zbO [] (Rt.stA ⟨t, n, 1, tm, v, tm, k, ⟨true, 0, 0, 0, 0⟩⟩) rfl rfl rfl rfl (zak rfl) rfl
theorem zit {a b c : Cn} (ha : a.ok) (hb : b.ok) (h : zco a b = some c) : zan Tryz.prog 59 [a.A, b.A] [] (.tu [c.A, .r (.v (.bool true))]) [] := by
 obtain ⟨o, p, q, r, s⟩ := a
 obtain ⟨o', p', q', r', s'⟩ := b
 unfold zco at h
 unfold Cn.A
 rcases ha with ⟨h1, h2, h3, h4, h5⟩ | ⟨h1, h2⟩ <;> dsimp only at * <;> subst h1
 ·subst h2 h3 h4 h5
  rw [if_pos rfl] at h
  injection h with h
  subst h
  refine zm1 _ _ _ _ _ ?_
  rcases hb with ⟨g1, g2, g3, g4, g5⟩ | ⟨g1, g2⟩ <;> dsimp only at * <;> subst g1
  ·subst g2 g3 g4 g5; exact zdK
  ·exact zcH _ _ _ _ g2.1 g2.2.1 g2.2.2
 ·rw [if_neg (by simp)] at h
  rcases hb with ⟨g1, g2, g3, g4, g5⟩ | ⟨g1, g2⟩ <;> dsimp only at * <;> subst g1
  ·rw [if_pos rfl] at h
   injection h with h
   subst h g2 g3 g4 g5
   exact zli _ _ _ _ h2.1 h2.2.1 h2.2.2
  ·rw [if_neg (by simp)] at h
   have := zkf p q r s p' q' r' s' h2.1 h2.2.1 h2.2.2 g2.1 g2.2.1 g2.2.2
   split at h
   ·rename_i h3
    rw [if_pos h3] at this
    injection h with h
    subst h
    exact this
   ·cases h
theorem zis {a b : Cn} (ha : a.ok) (hb : b.ok) (h : zco a b = none) : zan Tryz.prog 59 [a.A, b.A] [] (.tu [cn false 0 0 0 0, .r (.v (.bool false))]) [] := by
 obtain ⟨o, p, q, r, s⟩ := a
 obtain ⟨o', p', q', r', s'⟩ := b
 unfold zco at h
 unfold Cn.A
 rcases ha with ⟨h1, h2, h3, h4, h5⟩ | ⟨h1, h2⟩ <;> dsimp only at * <;> subst h1
 ·rw [if_pos rfl] at h; cases h
 ·rw [if_neg (by simp)] at h
  rcases hb with ⟨g1, g2, g3, g4, g5⟩ | ⟨g1, g2⟩ <;> dsimp only at * <;> subst g1
  ·rw [if_pos rfl] at h; cases h
  ·rw [if_neg (by simp)] at h
   have := zkf p q r s p' q' r' s' h2.1 h2.2.1 h2.2.2 g2.1 g2.2.1 g2.2.2
   split at h
   ·cases h
   ·rename_i h3
    rw [if_neg h3] at this
    exact this
def Ps.pc (x : Ps) : Pc := ⟨x.ix, x.ct, x.ky, x.c⟩
theorem zhs (x : Ps) (h : x.ok1 ∨ x.ok2) : zan Tryz.prog 54 [stA x] [] (.r (.v (.bool true))) [] := h.elim (zmV x) (zmW x)
theorem zk8 (x : Ps) (h : x.ok0) : zan Tryz.prog 26 [stA x] [] (.tu [.r (.v (.slice none 0 0)), .r (.v (.int .i64 0))]) [] := by
 have cV := zim x h
 have h1 := h.2.1
 obtain ⟨t, i, ct, fT, fV, la, ky, c⟩ := x
 unfold stA psVs at *
 dsimp only at *
 clear h
 refine zap Tryz.func26 rfl (Nat.le_of_ble_eq_true rfl) rfl rfl ?_
 (repeat' (first | refine zai ?_ | (refine is_f 54 ?_; refine zah (cV) ?_) | (refine zac (fun hb => ?_) (fun hb => ?_) <;> (try (exfalso; omega))) | fail))
 all_goals (first | (exfalso; omega) | exact ret2 [] (.r _) (.int rfl) rfl rfl rfl rfl)
theorem zil (x : Ps) (h : x.ok1 ∨ x.ok2) : zan Tryz.prog 26 [stA x] [] (.tu [.fr 42 24 (pcs [x.pc]), .r (.v (.int .i64 0))]) [] := by
 have cV := zhs x h
 have h1 : x.ct ≠ 0 := by rcases h with h | h <;> (have := h.2.1; omega)
 obtain ⟨t, i, ct, fT, fV, la, ky, ⟨o, p, q, r, s⟩⟩ := x
 unfold stA psVs Ps.pc at *
 dsimp only at *
 clear h
 refine zap Tryz.func26 rfl (Nat.le_of_ble_eq_true rfl) rfl rfl ?_
 (repeat' (first | (first | refine zaH 5 ?_ | refine zaz 5 ?_) | refine za6 ?_ | refine zaG ?_ | (refine is_f 54 ?_; refine zah (cV) ?_) | (refine zac (fun hb => ?_) (fun hb => ?_) <;> (try (exfalso; omega))) | fail))
 all_goals (first | (exfalso; omega) | skip)
 refine halt ?_
 (repeat' (first | refine zai ?_ | (refine zac (fun hb => ?_) (fun hb => ?_) <;> (try (exfalso; omega))) | fail))
 all_goals (first | (exfalso; omega) | exact ret2 [] (.fr 1 _ _ _ rfl) (.int rfl) rfl rfl rfl rfl)
def fle (a b : Int × Int) : Prop := a.1 * b.2 ≤ b.1 * a.2
def flt (a b : Int × Int) : Prop := a.1 * b.2 < b.1 * a.2
theorem zev {a b c : Int × Int} (ha : 0 < a.2) (hb : 0 < b.2) (hc : 0 < c.2) (h1 : fle a b) (h2 : fle b c) : fle a c := by
 unfold fle at *
 have e1 := Int.mul_le_mul_of_nonneg_right h1 (Int.le_of_lt hc)
 have e2 := Int.mul_le_mul_of_nonneg_right h2 (Int.le_of_lt ha)
 refine Int.le_of_mul_le_mul_right (a := b.2) ?_ hb
 calc a.1 * c.2 * b.2 = a.1 * b.2 * c.2 := by rw [Int.mul_right_comm]
  _ ≤ b.1 * a.2 * c.2 := e1
  _ = b.1 * c.2 * a.2 := by rw [Int.mul_right_comm]
  _ ≤ c.1 * b.2 * a.2 := e2
  _ = c.1 * a.2 * b.2 := by rw [Int.mul_right_comm]
theorem zkU {a b : Int × Int} : ¬ fle a b ↔ flt b a := by unfold fle flt; omega
theorem zoq {a b : Int × Int} : ¬ flt a b ↔ fle b a := by unfold fle flt; omega
theorem flt.le {a b : Int × Int} (h : flt a b) : fle a b := by unfold fle flt at *; omega
theorem zqK {a b c : Int × Int} (ha : 0 < a.2) (hb : 0 < b.2) (hc : 0 < c.2) (h1 : flt a b) (h2 : fle b c) : flt a c :=
 zkU.1 fun h => zkU.2 h1 (zev hb hc ha h2 h)
theorem zcr (a : Int × Int) : fle a a := Int.le_refl _
def Cn.lo (c : Cn) : Int × Int := (c.p, c.q)
def Cn.hi (c : Cn) : Int × Int := (c.r, c.s)
theorem Cn.ok.pos {c : Cn} (h : c.ok) (ho : c.o = false) : 0 < c.lo.2 ∧ 0 < c.hi.2 ∧ fle c.lo c.hi := by
 rcases h with ⟨h, _⟩ | ⟨_, h1, h2, h3⟩
 ·rw [ho] at h; cases h
 ·exact ⟨h1.1, h2.1, h3⟩
def subC (g x : Cn) : Prop := x.o = true ∨ (g.o = false ∧ x.o = false ∧ fle x.lo g.lo ∧ fle g.hi x.hi)
theorem zks (x : Cn) : subC x x := by
 cases h : x.o with
 | true => exact .inl h
 | false => exact .inr ⟨h, h, zcr _, zcr _⟩
theorem zrm {a b : Cn} (hb : b.ok) (h : cmpC a b ≤ 0) (ho : a.o = false) : b.o = false ∧ fle a.lo b.lo := by
 unfold cmpC at h
 rw [ho] at h
 simp only [Bool.false_eq_true, if_false] at h
 cases hb : b.o with
 | true => rw [hb] at h; simp at h
 | false =>
  rw [hb] at h
  simp only [Bool.false_eq_true, if_false, orL2] at h
  refine ⟨rfl, ?_⟩
  show a.p * b.q ≤ b.p * a.q
  rw [← zeU]
  split at h
  ·exact h
  ·rename_i e; simp at e; omega
theorem znK {a b : Pc} (h : cmpP a b ≤ 0) : a.ky ≤ b.ky ∧ (a.ky = b.ky → cmpC a.c b.c ≤ 0) := by
 rw [ziN] at h
 have z : ∀ x y : Int, cmpZ x y ≤ 0 ↔ x ≤ y := fun x y => zeU
 have z0 : ∀ x y : Int, cmpZ x y = 0 ↔ x = y := fun x y => by unfold cmpZ; split <;> (try split) <;> constructor <;> omega
 split at h
 ·rename_i e
  rw [z] at h
  exact ⟨h, fun hk => absurd ((z0 _ _).2 hk) e⟩
 ·rename_i e
  simp only [ne_eq, Decidable.not_not] at e
  refine ⟨by rw [(z0 _ _).1 e]; exact Int.le_refl _, fun _ => ?_⟩
  split at h
  ·exact h
  ·rename_i e2; simp at e2; omega
theorem zlY {a b c : Cn} (ha : a.ok) (hb : b.ok) (h : zco a b = some c) :
  (a.o = true ∧ c = b) ∨ (a.o = false ∧ b.o = true ∧ c = a) ∨
  (a.o = false ∧ b.o = false ∧ c.o = false ∧ fle a.lo c.lo ∧ fle b.lo c.lo ∧ fle c.hi a.hi ∧ fle c.hi b.hi ∧ (c.lo = a.lo ∨ c.lo = b.lo) ∧ (c.hi = a.hi ∨ c.hi = b.hi)) := by
 unfold zco at h
 cases hao : a.o with
 | true => rw [hao] at h; simp only [if_true, Option.some.injEq] at h; exact .inl ⟨rfl, h.symm⟩
 | false =>
  cases hbo : b.o with
  | true => rw [hao, hbo] at h; simp only [if_true, Bool.false_eq_true, if_false, Option.some.injEq] at h; exact .inr (.inl ⟨rfl, rfl, h.symm⟩)
  | false =>
   rw [hao, hbo] at h
   simp only [Bool.false_eq_true, if_false] at h
   split at h
   ·injection h with h
    subst h
    refine .inr (.inr ⟨rfl, rfl, rfl, ?_⟩)
    have e1 : (mLo a.p a.q b.p b.q = a.lo ∧ fle b.lo a.lo) ∨ (mLo a.p a.q b.p b.q = b.lo ∧ fle a.lo b.lo) := by
     unfold mLo
     split
     ·rename_i e; exact .inr ⟨rfl, flt.le e⟩
     ·rename_i e; exact .inl ⟨rfl, zoq.1 e⟩
    have e2 : (mHi a.r a.s b.r b.s = a.hi ∧ fle a.hi b.hi) ∨ (mHi a.r a.s b.r b.s = b.hi ∧ fle b.hi a.hi) := by
     unfold mHi
     split
     ·rename_i e; exact .inr ⟨rfl, flt.le e⟩
     ·rename_i e; exact .inl ⟨rfl, zoq.1 e⟩
    show fle a.lo (mLo a.p a.q b.p b.q) ∧ fle b.lo (mLo a.p a.q b.p b.q) ∧ fle (mHi a.r a.s b.r b.s) a.hi ∧ fle (mHi a.r a.s b.r b.s) b.hi ∧ (mLo a.p a.q b.p b.q = a.lo ∨ mLo a.p a.q b.p b.q = b.lo) ∧ (mHi a.r a.s b.r b.s = a.hi ∨ mHi a.r a.s b.r b.s = b.hi)
    rcases e1 with ⟨e1, f1⟩ | ⟨e1, f1⟩ <;> rcases e2 with ⟨e2, f2⟩ | ⟨e2, f2⟩ <;> rw [e1, e2]
    ·exact ⟨zcr _, f1, zcr _, f2, .inl rfl, .inl rfl⟩
    ·exact ⟨zcr _, f1, f2, zcr _, .inl rfl, .inr rfl⟩
    ·exact ⟨f1, zcr _, zcr _, f2, .inr rfl, .inl rfl⟩
    ·exact ⟨f1, zcr _, f2, zcr _, .inr rfl, .inr rfl⟩
   ·cases h
theorem zrO {a b : Cn} (ha : a.ok) (hb : b.ok) (hle : a.o = false → b.o = false ∧ fle a.lo b.lo) (h : zco a b = none) : a.o = false ∧ b.o = false ∧ flt a.hi b.lo := by
 unfold zco at h
 cases hao : a.o with
 | true => rw [hao] at h; simp at h
 | false =>
  obtain ⟨hbo, hlo⟩ := hle hao
  rw [hao, hbo] at h
  simp only [Bool.false_eq_true, if_false] at h
  split at h
  ·cases h
  ·rename_i h1
   refine ⟨rfl, hbo, ?_⟩
   obtain ⟨a1, a2, a3⟩ := ha.pos hao
   obtain ⟨b1, b2, b3⟩ := hb.pos hbo
   have e1 : fle (mLo a.p a.q b.p b.q) b.lo ∧ 0 < (mLo a.p a.q b.p b.q).2 := by
    unfold mLo
    split
    ·exact ⟨zcr _, b1⟩
    ·exact ⟨hlo, a1⟩
   have e2 : mHi a.r a.s b.r b.s = a.hi ∨ mHi a.r a.s b.r b.s = b.hi := by
    unfold mHi; split
    ·exact .inr rfl
    ·exact .inl rfl
   refine zkU.1 fun hf => h1 ?_
   show fle (mLo a.p a.q b.p b.q) (mHi a.r a.s b.r b.s)
   rcases e2 with e2 | e2 <;> rw [e2]
   ·exact zev e1.2 b1 a2 e1.1 hf
   ·exact zev e1.2 b1 b2 e1.1 b3
structure GInv (S : List Pc) (gs : List Gr) : Prop where
 fl : (gs.map Gr.ss).flatten = S.map Pc.ix
 ok : ∀ g ∈ gs, g.c.ok
 ne : ∀ g ∈ gs, ∃ x ∈ S, x.ix ∈ g.ss
 sub : ∀ g ∈ gs, ∀ x ∈ S, x.ix ∈ g.ss → g.ky = x.ky ∧ subC g.c x.c
 hi : ∀ g ∈ gs, g.c.o = false → ∃ x ∈ S, x.ix ∈ g.ss ∧ x.c.o = false ∧ x.c.hi = g.c.hi
 lo : ∀ g ∈ gs, g.c.o = false → ∃ x ∈ S, x.ix ∈ g.ss ∧ x.c.o = false ∧ x.c.lo = g.c.lo
 ap : gs.Pairwise fun g g' => g.ky ≤ g'.ky ∧ (g.ky = g'.ky → g.c.o = false ∧ g'.c.o = false ∧ ∀ x ∈ S, x.ix ∈ g'.ss → x.c.o = false ∧ flt g.c.hi x.c.lo)
theorem GInv.mem {S : List Pc} {gs : List Gr} (h : GInv S gs) {g : Gr} (hg : g ∈ gs) {z : Int} (hz : z ∈ g.ss) : z ∈ S.map Pc.ix := by
 rw [← h.fl]
 exact List.mem_flatten.2 ⟨_, List.mem_map_of_mem hg, hz⟩
theorem GInv.mk1 {S : List Pc} {gs : List Gr} {x : Pc} (h : GInv S gs) (hx : x.c.ok) (hf : x.ix ∉ S.map Pc.ix)
  (ha : ∀ g ∈ gs, g.ky ≤ x.ky ∧ (g.ky = x.ky → g.c.o = false ∧ x.c.o = false ∧ flt g.c.hi x.c.lo)) : GInv (S ++ [x]) (gs ++ [newG x]) := by
 have old : ∀ g ∈ gs, ∀ y ∈ S ++ [x], y.ix ∈ g.ss → y ∈ S := fun g hg y hy hi => by
  rcases List.mem_append.1 hy with hy | hy
  ·exact hy
  ·rw [List.mem_singleton] at hy; subst hy; exact absurd (h.mem hg hi) hf
 have new : ∀ y ∈ S ++ [x], y.ix ∈ (newG x).ss → y = x := fun y hy hi => by
  rcases List.mem_append.1 hy with hy | hy
  ·simp [newG] at hi; exact absurd (hi ▸ List.mem_map_of_mem hy) hf
  ·exact List.mem_singleton.1 hy
 have hxm : x ∈ S ++ [x] := by simp
 have hxi : x.ix ∈ (newG x).ss := by simp [newG]
 refine ⟨by rw [List.map_append, List.flatten_append, h.fl]; simp [newG], ?_, ?_, ?_, ?_, ?_, ?_⟩
 ·intro g hg
  rcases List.mem_append.1 hg with hg | hg
  ·exact h.ok g hg
  ·rw [List.mem_singleton] at hg; subst hg; exact hx
 ·intro g hg
  rcases List.mem_append.1 hg with hg | hg
  ·obtain ⟨y, hy, hi⟩ := h.ne g hg; exact ⟨y, List.mem_append_left _ hy, hi⟩
  ·rw [List.mem_singleton] at hg; subst hg; exact ⟨x, hxm, hxi⟩
 ·intro g hg y hy hi
  rcases List.mem_append.1 hg with hg | hg
  ·exact h.sub g hg y (old g hg y hy hi) hi
  ·rw [List.mem_singleton] at hg; subst hg
   rw [new y hy hi]; exact ⟨rfl, zks _⟩
 ·intro g hg ho
  rcases List.mem_append.1 hg with hg | hg
  ·obtain ⟨y, hy, hi⟩ := h.hi g hg ho; exact ⟨y, List.mem_append_left _ hy, hi⟩
  ·rw [List.mem_singleton] at hg; subst hg; exact ⟨x, hxm, hxi, ho, rfl⟩
 ·intro g hg ho
  rcases List.mem_append.1 hg with hg | hg
  ·obtain ⟨y, hy, hi⟩ := h.lo g hg ho; exact ⟨y, List.mem_append_left _ hy, hi⟩
  ·rw [List.mem_singleton] at hg; subst hg; exact ⟨x, hxm, hxi, ho, rfl⟩
 ·rw [List.pairwise_append]
  refine ⟨h.ap.imp_of_mem fun {a b} hma hmb hab => ⟨hab.1, fun hk => ⟨(hab.2 hk).1, (hab.2 hk).2.1, fun y hy hi => (hab.2 hk).2.2 y (old _ hmb y hy hi) hi⟩⟩, .cons (fun _ hm => nomatch hm) .nil, fun a hma b hmb => ?_⟩
  rw [List.mem_singleton] at hmb; subst hmb
  refine ⟨(ha a hma).1, fun hk => ?_⟩
  obtain ⟨a1, a2, a3⟩ := (ha a hma).2 hk
  exact ⟨a1, a2, fun y hy hi => by rw [new y hy hi]; exact ⟨a2, a3⟩⟩
theorem GInv.mk2 {S : List Pc} {gs : List Gr} {g : Gr} {x : Pc} {c : Cn} (h : GInv S (gs ++ [g])) (hS : ∀ y ∈ S, y.c.ok) (hx : x.c.ok) (hf : x.ix ∉ S.map Pc.ix) (hm : zco g.c x.c = some c) (hk : g.ky = x.ky)
  (hs : ∀ y ∈ S, y.ky = x.ky → y.c.o = false → x.c.o = false ∧ fle y.c.lo x.c.lo) : GInv (S ++ [x]) (gs ++ [⟨g.ky, g.ss ++ [x.ix], c⟩]) := by
 have hgm : g ∈ gs ++ [g] := by simp
 have hgo := h.ok g hgm
 have hco := zgK hgo hx hm
 have old : ∀ a ∈ gs ++ [g], ∀ y ∈ S ++ [x], y.ix ∈ a.ss → y ∈ S := fun a hg y hy hi => by
  rcases List.mem_append.1 hy with hy | hy
  ·exact hy
  ·rw [List.mem_singleton] at hy; subst hy; exact absurd (h.mem hg hi) hf
 have new : ∀ y ∈ S ++ [x], y.ix ∈ g.ss ++ [x.ix] → y = x ∨ (y ∈ S ∧ y.ix ∈ g.ss) := fun y hy hi => by
  rcases List.mem_append.1 hi with hi | hi
  ·exact .inr ⟨old g hgm y hy hi, hi⟩
  ·rcases List.mem_append.1 hy with hy | hy
   ·rw [List.mem_singleton] at hi; exact absurd (hi ▸ List.mem_map_of_mem hy) hf
   ·exact .inl (List.mem_singleton.1 hy)
 have hxm : x ∈ S ++ [x] := by simp
 have hxi : x.ix ∈ g.ss ++ [x.ix] := by simp
 have hc := zlY hgo hx hm
 have hap := h.ap
 rw [List.pairwise_append] at hap
 refine ⟨?_, ?_, ?_, ?_, ?_, ?_, ?_⟩
 ·have := h.fl
  rw [List.map_append, List.flatten_append] at this ⊢
  rw [List.map_append, ← this]
  simp
 ·intro a ha
  rcases List.mem_append.1 ha with ha | ha
  ·exact h.ok a (List.mem_append_left _ ha)
  ·rw [List.mem_singleton] at ha; subst ha; exact hco
 ·intro a ha
  rcases List.mem_append.1 ha with ha | ha
  ·obtain ⟨y, hy, hi⟩ := h.ne a (List.mem_append_left _ ha); exact ⟨y, List.mem_append_left _ hy, hi⟩
  ·rw [List.mem_singleton] at ha; subst ha; exact ⟨x, hxm, hxi⟩
 ·intro a ha y hy hi
  rcases List.mem_append.1 ha with ha | ha
  ·exact h.sub a (List.mem_append_left _ ha) y (old a (List.mem_append_left _ ha) y hy hi) hi
  ·rw [List.mem_singleton] at ha; subst ha
   rcases new y hy hi with rfl | ⟨hy', hi'⟩
   ·refine ⟨hk, ?_⟩
    rcases hc with ⟨_, rfl⟩ | ⟨h1, h2, rfl⟩ | ⟨h1, h2, h3, h4, h5, h6, h7, _⟩
    ·exact zks _
    ·exact .inl h2
    ·exact .inr ⟨h3, h2, h5, h7⟩
   ·obtain ⟨s1, s2⟩ := h.sub g hgm y hy' hi'
    refine ⟨s1, ?_⟩
    rcases s2 with s2 | ⟨t1, t2, t3, t4⟩
    ·exact .inl s2
    ·obtain ⟨p1, p2, _⟩ := hgo.pos t1
     obtain ⟨q1, q2, _⟩ := (hS y hy').pos t2
     rcases hc with ⟨h1, _⟩ | ⟨h1, h2, rfl⟩ | ⟨h1, h2, h3, h4, h5, h6, h7, _⟩
     ·rw [t1] at h1; cases h1
     ·exact .inr ⟨t1, t2, t3, t4⟩
     ·obtain ⟨c1, c2, _⟩ := hco.pos h3
      exact .inr ⟨h3, t2, zev q1 p1 c1 t3 h4, zev c2 p2 q2 h6 t4⟩
 ·intro a ha ho
  rcases List.mem_append.1 ha with ha | ha
  ·obtain ⟨y, hy, hi⟩ := h.hi a (List.mem_append_left _ ha) ho; exact ⟨y, List.mem_append_left _ hy, hi⟩
  ·rw [List.mem_singleton] at ha; subst ha
   have hg : g.c.o = false → ∃ y ∈ S ++ [x], y.ix ∈ g.ss ++ [x.ix] ∧ y.c.o = false ∧ y.c.hi = g.c.hi := fun h1 => by
    obtain ⟨y, hy, hi, e⟩ := h.hi g hgm h1
    exact ⟨y, List.mem_append_left _ hy, List.mem_append_left _ hi, e⟩
   rcases hc with ⟨_, rfl⟩ | ⟨h1, h2, rfl⟩ | ⟨h1, h2, h3, _, _, _, _, _, h4 | h4⟩
   ·exact ⟨x, hxm, hxi, ho, rfl⟩
   ·exact hg h1
   ·show ∃ y ∈ S ++ [x], y.ix ∈ g.ss ++ [x.ix] ∧ y.c.o = false ∧ y.c.hi = c.hi
    rw [h4]; exact hg h1
   ·exact ⟨x, hxm, hxi, h2, h4.symm⟩
 ·intro a ha ho
  rcases List.mem_append.1 ha with ha | ha
  ·obtain ⟨y, hy, hi⟩ := h.lo a (List.mem_append_left _ ha) ho; exact ⟨y, List.mem_append_left _ hy, hi⟩
  ·rw [List.mem_singleton] at ha; subst ha
   have hg : g.c.o = false → ∃ y ∈ S ++ [x], y.ix ∈ g.ss ++ [x.ix] ∧ y.c.o = false ∧ y.c.lo = g.c.lo := fun h1 => by
    obtain ⟨y, hy, hi, e⟩ := h.lo g hgm h1
    exact ⟨y, List.mem_append_left _ hy, List.mem_append_left _ hi, e⟩
   rcases hc with ⟨_, rfl⟩ | ⟨h1, h2, rfl⟩ | ⟨h1, h2, h3, _, _, _, _, h4 | h4, _⟩
   ·exact ⟨x, hxm, hxi, ho, rfl⟩
   ·exact hg h1
   ·show ∃ y ∈ S ++ [x], y.ix ∈ g.ss ++ [x.ix] ∧ y.c.o = false ∧ y.c.lo = c.lo
    rw [h4]; exact hg h1
   ·exact ⟨x, hxm, hxi, h2, h4.symm⟩
 ·rw [List.pairwise_append]
  refine ⟨hap.1.imp_of_mem fun {a b} hma hmb hab => ⟨hab.1, fun hk => ⟨(hab.2 hk).1, (hab.2 hk).2.1, fun y hy hi => (hab.2 hk).2.2 y (old _ (List.mem_append_left _ hmb) y hy hi) hi⟩⟩, .cons (fun _ hm => nomatch hm) .nil, fun a hma b hmb => ?_⟩
  rw [List.mem_singleton] at hmb; subst hmb
  obtain ⟨q1, q2⟩ := hap.2.2 a hma g (List.mem_singleton_self _)
  refine ⟨q1, fun hka => ?_⟩
  obtain ⟨r1, r2, r3⟩ := q2 hka
  obtain ⟨y0, hy0, hi0⟩ := h.ne g hgm
  obtain ⟨z1, z2⟩ := r3 y0 hy0 hi0
  have hky := (h.sub g hgm y0 hy0 hi0).1
  obtain ⟨w1, w2⟩ := hs y0 hy0 (by rw [← hky, hk]) z1
  have hao := h.ok a (List.mem_append_left _ hma)
  have hlt : flt a.c.hi x.c.lo := zqK (hao.pos r1).2.1 ((hS y0 hy0).pos z1).1 (hx.pos w1).1 z2 w2
  refine ⟨r1, ?_, fun y hy hi => ?_⟩
  ·rcases hc with ⟨h1, _⟩ | ⟨h1, h2, rfl⟩ | ⟨h1, h2, h3, _⟩
   ·rw [r2] at h1; cases h1
   ·exact r2
   ·exact h3
  ·rcases new y hy hi with rfl | ⟨hy', hi'⟩
   ·exact ⟨w1, hlt⟩
   ·exact r3 y hy' hi'
theorem GInv.step {S : List Pc} {gs : List Gr} {x : Pc} (h : GInv S gs) (hS : ∀ y ∈ S, y.c.ok) (hx : x.c.ok) (hf : x.ix ∉ S.map Pc.ix) (hs : ∀ y ∈ S, cmpP y x ≤ 0) : GInv (S ++ [x]) (jn gs x) := by
 have hs1 : ∀ y ∈ S, y.ky = x.ky → y.c.o = false → x.c.o = false ∧ fle y.c.lo x.c.lo := fun y hy hk ho => zrm hx ((znK (hs y hy)).2 hk) ho
 rcases List.eq_nil_or_concat gs with rfl | ⟨gs', g, rfl⟩
 ·rw [zoa]
  exact h.mk1 hx hf fun g hg => nomatch hg
 ·rw [List.concat_eq_append] at *
  rw [zgd]
  have hgm : g ∈ gs' ++ [g] := by simp
  obtain ⟨y0, hy0, hi0⟩ := h.ne g hgm
  obtain ⟨hky, hsu⟩ := h.sub g hgm y0 hy0 hi0
  have hkx : g.ky ≤ x.ky := by rw [hky]; exact (znK (hs y0 hy0)).1
  split
  ·rename_i g2 hg2
   obtain ⟨c, hc, hk, rfl⟩ := zhf hg2
   exact h.mk2 hS hx hf hc hk hs1
  ·rename_i hno
   refine h.mk1 hx hf fun a ha => ?_
   have hap := h.ap
   rw [List.pairwise_append] at hap
   rcases List.mem_append.1 ha with ha' | ha'
   ·obtain ⟨q1, q2⟩ := hap.2.2 a ha' g (List.mem_singleton_self _)
    refine ⟨by omega, fun hk => ?_⟩
    obtain ⟨r1, r2, r3⟩ := q2 (by omega)
    obtain ⟨z1, z2⟩ := r3 y0 hy0 hi0
    obtain ⟨w1, w2⟩ := hs1 y0 hy0 (by omega) z1
    exact ⟨r1, w1, zqK ((h.ok a ha).pos r1).2.1 ((hS y0 hy0).pos z1).1 (hx.pos w1).1 z2 w2⟩
   ·rw [List.mem_singleton] at ha'; subst ha'
    refine ⟨hkx, fun hk => ?_⟩
    refine zrO (h.ok a ha) hx (fun ho => ?_) ?_
    ·obtain ⟨y, hy, hi, e1, e2⟩ := h.lo a ha ho
     have := hs1 y hy (by rw [← (h.sub a ha y hy hi).1, hk]) e1
     rw [e2] at this; exact this
    ·rcases hm : zco a.c x.c with _ | c
     ·rfl
     ·exact absurd hk (zjV hno c hm)
def SCn (c : Cn) : Prop := c = ⟨true, 0, 0, 0, 0⟩ ∨ (c.o = false ∧ VS c.p c.q ∧ VS c.r c.s ∧ c.p * c.s ≤ c.r * c.q)
theorem SCn.ok {c : Cn} (h : SCn c) : c.ok := by
 rcases h with rfl | ⟨h1, h2, h3, h4⟩
 ·exact .inl ⟨rfl, rfl, rfl, rfl, rfl⟩
 ·exact .inr ⟨h1, h2.1, h3.1, h4⟩
theorem zqS (m : Int) (d : Nat) (hd : 0 < d) (hm : m.natAbs < B64) (hd2 : d < B64) : VS (mkQ m d).1 (mkQ m d).2 := by
 obtain ⟨h1, h2, h3, h4, h5⟩ := zhj m d hd
 exact ⟨⟨h2, zdS (by omega), zdS (by omega), h5⟩, by omega, by omega⟩
theorem ztz (t : List Int) (q : Nat) : SCn (smC t q) := by
 have n4 := zau t q (show (1 : Int) ≤ 4 by omega)
 have n5 := zau t (adv t q) (show (1 : Int) ≤ 30 by omega)
 have n6 := zau t (adv t (adv t q)) (show (1 : Int) ≤ 12 by omega)
 have hB : B64 = 18446744073709551616 := rfl
 have hd : 0 < smD t q ∧ smD t q ≤ 4 := by unfold smD; omega
 exact .inr ⟨rfl, zqS _ _ hd.1 (by omega) (by omega), zqS _ _ hd.1 (by omega) (by omega), zqT _ _ _ hd.1 (by omega)⟩
structure SmOk (l : List Pc) : Prop where
 c : ∀ x ∈ l, SCn x.c
 ix : ∀ x ∈ l, 0 ≤ x.ix ∧ x.ix < 1000
 ky : ∀ x ∈ l, 0 ≤ x.ky ∧ x.ky < 3
 nd : (l.map Pc.ix).Nodup
 len : l.length ≤ 13
theorem SmOk.pc {l : List Pc} (h : SmOk l) : PcOk l := ⟨fun x hx => (h.c x hx).ok, fun x hx => (h.ix x hx).1, h.nd⟩
theorem zq2 (t : List Int) : ∀ (i q : Nat) (acc : List Pc), (∀ x ∈ acc, SCn x.c ∧ (3 * (i : Int) + 3 ≤ x.ix ∧ x.ix < 1000) ∧ 0 ≤ x.ky ∧ x.ky < 3) → (acc.map Pc.ix).Nodup → acc.length + i ≤ 13 → SmOk (smG t i q acc).1
 | 0, q, acc, h, hn, hl => ⟨fun x hx => (h x hx).1, fun x hx => by have := (h x hx).2.1; omega, fun x hx => (h x hx).2.2, hn, (by show acc.length ≤ 13; omega)⟩
 | i + 1, q, acc, h, hn, hl => by
  rw [smG]
  have n1 := zau t q (show (1 : Int) ≤ 3 by omega)
  have n2 := zau t (adv t q) (show (1 : Int) ≤ 3 by omega)
  have hx : SCn (smP t q (i + 1)).1.c ∧ (smP t q (i + 1)).1.ix = 3 * ((i + 1 : Nat) : Int) + nx t q 3 ∧ (smP t q (i + 1)).1.ky = nx t (adv t q) 3 := by
   unfold smP
   split
   ·exact ⟨.inl rfl, rfl, rfl⟩
   ·exact ⟨ztz _ _, rfl, rfl⟩
  generalize smP t q (i + 1) = X at *
  obtain ⟨x1, x2, x3⟩ := hx
  refine zq2 t i X.2 (acc ++ [X.1]) (fun x hx => ?_) ?_ (by simp; omega)
  ·rcases List.mem_append.1 hx with hx | hx
   ·have := h x hx; exact ⟨this.1, by have := this.2.1; omega, this.2.2⟩
   ·rw [List.mem_singleton] at hx; subst hx; exact ⟨x1, by omega, by omega⟩
  ·rw [List.map_append, List.nodup_append]
   refine ⟨hn, by simp, fun a ha b hb => ?_⟩
   simp at hb
   subst hb
   obtain ⟨y, hy, rfl⟩ := List.mem_map.1 ha
   have := (h y hy).2.1
   omega
theorem ztA (t : List Int) (k : Nat) : SmOk (smL t k).1 := by
 have h1 := zau t k (show (1 : Int) ≤ 14 by omega)
 exact zq2 t _ _ [] (fun x hx => nomatch hx) .nil (by simp; omega)
def grs (l : List Pc) : List Gr := (zdP l).foldl jn []
theorem ztQ : VS 0 1 := ⟨⟨by omega, by unfold N127; decide, by unfold N127; decide, by decide⟩, by unfold B64; decide, by unfold B64; decide⟩
theorem SCn.pos {c : Cn} (h : SCn c) (ho : c.o = false) : 0 < c.lo.2 ∧ 0 < c.hi.2 ∧ fle c.lo c.hi := h.ok.pos ho
theorem zrA {l : List Pc} : (grs l).length ≤ l.length := by
 have := zic (zdP l) []
 rw [(zca l).length_eq] at this
 show ((zdP l).foldl jn []).length ≤ _
 simpa using this
end Go.Proofs.YtibedaeefnjjlaaGreat
