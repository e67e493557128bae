/- Texts of the second layer in one: Wr1 Wr2 Wr3 Wr5 Wr6. -/
import Derived.Test.YtibedaeefnjjlaaGreatG11
import Derived.Test.YtibedaeefnjjlaaGreatG12
import Derived.Test.YtibedaeefnjjlaaGreatG13
set_option maxRecDepth 100000
set_option linter.unusedVariables false
set_option linter.unusedSimpArgs false
namespace Go.Proofs.YtibedaeefnjjlaaGreat
open Go.RowKit Go.Ab Go.Wd
def raG (b : List Nat) : Nat → Nat → Nat → List Nat → Nat × List Nat
 | 0, _, c, l => (c, l)
 | j + 1, i, c, l => raG b j (i + 1) ((l.getD i 0 + b.getD i 0 + c) / B64) (l.set i ((l.getD i 0 + b.getD i 0 + c) % B64))
theorem zkv (b : List Nat) (i : Nat) : val (b.drop i) = b.getD i 0 + B64 * val (b.drop (i + 1)) := by
 rcases Nat.lt_or_ge i b.length with h | h
 ·exact zfd b i h
 ·rw [List.drop_eq_nil_of_le h, List.drop_eq_nil_of_le (by omega)]
  simp [val, h]
theorem zlh (b : List Nat) (hb : Wds b) : ∀ (j i c : Nat) (l : List Nat), j + i = l.length → b.length ≤ l.length → Wds l → c ≤ 1 →
  Wds (raG b j i c l).2 ∧ (raG b j i c l).2.length = l.length ∧ (raG b j i c l).1 ≤ 1 ∧ val (raG b j i c l).2 + B64 ^ l.length * (raG b j i c l).1 = val l + B64 ^ i * c + B64 ^ i * val (b.drop i)
 | 0, i, c, l, hj, hbl, hw, hc => by
  have : i = l.length := by omega
  subst this
  rw [List.drop_eq_nil_of_le hbl]
  exact ⟨hw, rfl, hc, by simp [raG, val]⟩
 | j + 1, i, c, l, hj, hbl, hw, hc => by
  have h1 := hw.get i
  have h2 := hb.get i
  have hvs := zdo l i ((l.getD i 0 + b.getD i 0 + c) % B64) (by omega)
  rw [raG]
  obtain ⟨g1, g2, g3, g4⟩ := zlh b hb j (i + 1) ((l.getD i 0 + b.getD i 0 + c) / B64) (l.set i ((l.getD i 0 + b.getD i 0 + c) % B64)) (by rw [List.length_set]; omega) (by rw [List.length_set]; exact hbl) (hw.set i (by unfold B64; omega)) (by unfold B64 at *; omega)
  rw [List.length_set] at g2 g4
  refine ⟨g1, g2, g3, ?_⟩
  rw [g4, zkv b i, Nat.pow_succ]
  have hm := Nat.mod_add_div (l.getD i 0 + b.getD i 0 + c) B64
  generalize (l.getD i 0 + b.getD i 0 + c) % B64 = r at *
  generalize (l.getD i 0 + b.getD i 0 + c) / B64 = q at *
  generalize l.getD i 0 = x at *
  generalize b.getD i 0 = y at *
  generalize B64 ^ i = M at *
  generalize val (b.drop (i + 1)) = V at *
  have e3 : M * (r + B64 * q) = M * (x + y + c) := by rw [hm]
  rw [Nat.mul_add, ← Nat.mul_assoc, Nat.mul_add, Nat.mul_add] at e3
  rw [Nat.mul_add, ← Nat.mul_assoc]
  omega
def rsG (b : List Nat) : Nat → Nat → Nat → List Nat → Nat × List Nat
 | 0, _, c, l => (c, l)
 | j + 1, i, c, l => rsG b j (i + 1) (if l.getD i 0 < b.getD i 0 + c then 1 else 0) (l.set i ((l.getD i 0 + B64 - b.getD i 0 - c) % B64))
theorem zo0 (b : List Nat) (hb : Wds b) : ∀ (j i c : Nat) (l : List Nat), j + i = l.length → b.length ≤ l.length → Wds l → c ≤ 1 →
  Wds (rsG b j i c l).2 ∧ (rsG b j i c l).2.length = l.length ∧ (rsG b j i c l).1 ≤ 1 ∧ val (rsG b j i c l).2 + B64 ^ i * c + B64 ^ i * val (b.drop i) = val l + B64 ^ l.length * (rsG b j i c l).1
 | 0, i, c, l, hj, hbl, hw, hc => by
  have : i = l.length := by omega
  subst this
  rw [List.drop_eq_nil_of_le hbl]
  exact ⟨hw, rfl, hc, by simp [rsG, val]⟩
 | j + 1, i, c, l, hj, hbl, hw, hc => by
  have h1 := hw.get i
  have h2 := hb.get i
  have hvs := zdo l i ((l.getD i 0 + B64 - b.getD i 0 - c) % B64) (by omega)
  rw [rsG]
  obtain ⟨g1, g2, g3, g4⟩ := zo0 b hb j (i + 1) (if l.getD i 0 < b.getD i 0 + c then 1 else 0) (l.set i ((l.getD i 0 + B64 - b.getD i 0 - c) % B64)) (by rw [List.length_set]; omega) (by rw [List.length_set]; exact hbl) (hw.set i (by unfold B64; omega)) (by split <;> omega)
  rw [List.length_set] at g2 g4
  refine ⟨g1, g2, g3, ?_⟩
  rw [zkv b i]
  rw [Nat.pow_succ] at g4
  have hm : (l.getD i 0 + B64 - b.getD i 0 - c) % B64 + b.getD i 0 + c = l.getD i 0 + B64 * (if l.getD i 0 < b.getD i 0 + c then 1 else 0) := by
   split <;> (unfold B64 at *; omega)
  generalize (l.getD i 0 + B64 - b.getD i 0 - c) % B64 = r at *
  generalize (if l.getD i 0 < b.getD i 0 + c then 1 else 0) = q at *
  generalize l.getD i 0 = x at *
  generalize b.getD i 0 = y at *
  generalize B64 ^ i = M at *
  generalize val (b.drop (i + 1)) = V at *
  have e3 : M * (r + y + c) = M * (x + B64 * q) := by rw [hm]
  rw [Nat.mul_add, Nat.mul_add, Nat.mul_add, ← Nat.mul_assoc] at e3
  rw [Nat.mul_add, ← Nat.mul_assoc]
  omega
def raSB (b l : List Nat) (i c : Nat) : St := ⟨[(1, .r (.sl 1 (wns b))), (5, .ow 0), (6, .r (.v (.int .u64 (c : Int)))), (7, .r (.v (.int .i64 (i : Int))))], [(0, some (.row 33 1 (wns l)))], 1⟩
theorem zkl (a b : List Nat) (hwa : Wds a) (hwb : Wds b) (hla : a.length ≤ 1000) (hlb : b.length ≤ a.length) (hle : val b ≤ val a) : zan Tryz.prog 87 [.r (.sl 1 (wns a)), .r (.sl 1 (wns b))] [] (.fr 33 1 (wns (tw (val a - val b)))) [] := by
 obtain ⟨g1, g2, g3, g4⟩ := zo0 b hwb a.length 0 0 a (by omega) hlb hwa (by omega)
 have hR : ∃ R, rsG b a.length 0 0 a = (0, R) ∧ Wds R ∧ R.length = a.length ∧ trim R = tw (val a - val b) := by
  generalize rsG b a.length 0 0 a = Y at *
  obtain ⟨c, R⟩ := Y
  dsimp only at *
  have hv := zfj R g1
  rw [g2] at hv
  simp only [Nat.pow_zero, Nat.mul_zero, Nat.one_mul, List.drop_zero, Nat.add_zero] at g4
  have hc : c = 0 := by
   rcases Nat.eq_zero_or_pos c with h | h
   ·exact h
   ·have : B64 ^ a.length * 1 ≤ B64 ^ a.length * c := Nat.mul_le_mul (Nat.le_refl _) h
    omega
  subst hc
  exact ⟨R, rfl, g1, g2, by rw [zcK R g1, show val R = val a - val b by omega]⟩
 obtain ⟨R, hR1, hR2, hR3, hTR⟩ := hR
 rw [← hTR]
 clear g1 g2 g3 g4 hTR hle
 have l1 := zaW a
 have l2 := zaW b
 have cT := zeK R (by omega)
 refine zap Tryz.func87 rfl (Nat.le_of_ble_eq_true rfl) rfl rfl ?_
 have hap : ([] ++ wns a) = wns a := rfl
 (repeat' (first | refine zad ?_ | (refine zac (fun hb => ?_) (fun hb => ?_) <;> (try (exfalso; omega))) | fail))
 refine zas (fun x : Nat × Nat × List Nat => raSB b x.2.2 x.1 x.2.1) (fun x => x.1 ≤ a.length ∧ x.2.2.length = a.length ∧ Wds x.2.2 ∧ x.2.1 ≤ 1 ∧ rsG b (a.length - x.1) x.1 x.2.1 x.2.2 = (0, R)) (fun x => a.length - x.1) (0, 0, a) ⟨Nat.zero_le _, rfl, hwa, by show 0 ≤ 1; omega, hR1⟩ (by (refine Le.mk [(0,1)] [] zaj zao zaq zal)) fun x hx => ?_
 obtain ⟨i, c, l⟩ := x
 obtain ⟨hx1, hx2, hx3, hx4, hx5⟩ := hx
 dsimp only at hx1 hx2 hx3 hx4 hx5
 change awp _ _ _ _ _ (raSB b l i c)
 have l3 := zaW l
 rcases Nat.lt_or_ge i a.length with hi | hi
 ·obtain ⟨j, hj⟩ : ∃ j, a.length - i = j + 1 := ⟨a.length - i - 1, by omega⟩
  have hj2 : j = a.length - (i + 1) := by omega
  rw [hj, rsG] at hx5
  subst hj2
  have gl := zbh (l := l) (i := i) (by omega)
  have hinc : IntKind.i64.wrap ((i : Int) + 1) = ((i + 1 : Nat) : Int) := zaT i (by omega)
  have hxl := hx3.get i
  have hyl := hwb.get i
  by_cases hib : i < b.length
  ·have gb := zbh (l := b) (i := i) hib
   generalize l.getD i 0 = x at *
   generalize b.getD i 0 = y at *
   have hE : (wns l).set i [.v (.int .u64 ((((x + B64 - y - c) % B64) : Nat) : Int))] = wns (l.set i ((x + B64 - y - c) % B64)) := zcB l i _
   have hw : ((x + B64 - y - c) % B64) < B64 := Nat.mod_lt _ (by decide)
   have hc1 : (if x < y + c then 1 else 0) ≤ 1 := by split <;> omega
   (repeat' (first | refine zad ?_ | ((refine is_f 122 ?_; refine zag rfl zab (zgk rfl rfl rfl hx4) ?_); try dsimp only [AV.unfr, AV.unfrs, frsL, zbg, rdOf, @List.length_cons Blk, @List.length_nil Blk, @List.nil_append (Nat × Option Blk), @List.cons_append (Nat × Option Blk), @List.nil_append Blk, @List.cons_append Blk, Nat.add_zero, Nat.zero_add, Nat.reduceAdd]) | (refine zac (fun hb => ?_) (fun hb => ?_) <;> (try (exfalso; omega))) | fail))
   all_goals (first | (exfalso; omega) | exact ⟨(i + 1, (if x < y + c then 1 else 0), l.set i ((x + B64 - y - c) % B64)), ⟨hi, by rw [List.length_set]; exact hx2, hx3.set i hw, hc1, hx5⟩, by show Le _ _ (raSB b (l.set i ((x + B64 - y - c) % B64)) (i + 1) (if x < y + c then 1 else 0)); (refine Le.mk [(0,0)] [] zaj zao zaq zal), by show a.length - (i + 1) < a.length - i; omega⟩)
  ·have hy0 : b.getD i 0 = 0 := by simp [hib]
   rw [hy0] at hx5
   clear hyl
   generalize l.getD i 0 = x at *
   obtain ⟨y, hy⟩ : ∃ y, y = 0 := ⟨0, rfl⟩
   have hE : (wns l).set i [.v (.int .u64 ((((x + B64 - 0 - c) % B64) : Nat) : Int))] = wns (l.set i ((x + B64 - 0 - c) % B64)) := zcB l i _
   have hw : ((x + B64 - 0 - c) % B64) < B64 := Nat.mod_lt _ (by decide)
   have hc1 : (if x < 0 + c then 1 else 0) ≤ 1 := by split <;> omega
   (repeat' (first | refine zad ?_ | ((refine is_f 122 ?_; refine zag rfl zab (zgk (b := 0) rfl rfl rfl hx4) ?_); try dsimp only [AV.unfr, AV.unfrs, frsL, zbg, rdOf, @List.length_cons Blk, @List.length_nil Blk, @List.nil_append (Nat × Option Blk), @List.cons_append (Nat × Option Blk), @List.nil_append Blk, @List.cons_append Blk, Nat.add_zero, Nat.zero_add, Nat.reduceAdd]) | (refine zac (fun hb => ?_) (fun hb => ?_) <;> (try (exfalso; omega))) | fail))
   all_goals (first | (exfalso; omega) | exact ⟨(i + 1, (if x < 0 + c then 1 else 0), l.set i ((x + B64 - 0 - c) % B64)), ⟨hi, by rw [List.length_set]; exact hx2, hx3.set i hw, hc1, hx5⟩, by show Le _ _ (raSB b (l.set i ((x + B64 - 0 - c) % B64)) (i + 1) (if x < 0 + c then 1 else 0)); (refine Le.mk [(0,0)] [] zaj zao zaq zal), by show a.length - (i + 1) < a.length - i; omega⟩)
 ·have hie : a.length - i = 0 := by omega
  rw [hie, rsG] at hx5
  injection hx5 with e1 e2
  subst e1 e2
  (repeat' (first | refine zad ?_ | (refine is_f 115 ?_; refine ze6 (cT) ?_) | (refine zac (fun hb => ?_) (fun hb => ?_) <;> (try (exfalso; omega))) | fail))
  all_goals (first | (exfalso; omega) | exact ret1 [] (.fr 1 _ _ _ rfl) rfl rfl rfl | exact ret1 [] (.fr 0 _ _ _ rfl) rfl rfl rfl | exact ret1 [] (.fr 2 _ _ _ rfl) rfl rfl rfl)
theorem zfU (a b : List Nat) (hwa : Wds a) (hwb : Wds b) (hla : a.length ≤ 1000) (hlb : b.length ≤ a.length) (hle : val b ≤ val a) : zan Tryz.prog 87 [.r (.sl 1 (wns a)), .r (.sl 1 (wns b))] [] (.r (.sl 1 (wns (tw (val a - val b))))) [] :=
 zan.freeze (T := 33) (zkl a b hwa hwb hla hlb hle)
theorem zm3 (a b : List Nat) (hwa : Wds a) (hwb : Wds b) (hla : a.length ≤ 1000) (hlb0 : b.length ≤ a.length) : zan Tryz.prog 86 [.r (.sl 1 (wns a)), .r (.sl 1 (wns b))] [] (.r (.sl 1 (wns (tw (val a + val b))))) [] := by
 have hlb : b.length ≤ a.length := by omega
 obtain ⟨g1, g2, g3, g4⟩ := zlh b hwb a.length 0 0 a (by omega) hlb hwa (by omega)
 have hR : ∃ cc R, raG b a.length 0 0 a = (cc, R) ∧ R.length = a.length ∧ trim (R ++ [cc]) = tw (val a + val b) := by
  generalize raG b a.length 0 0 a = Y at *
  obtain ⟨c, R⟩ := Y
  dsimp only at *
  simp only [Nat.pow_zero, Nat.mul_zero, Nat.one_mul, List.drop_zero, Nat.add_zero] at g4
  have hw : Wds (R ++ [c]) := by
   intro x hx
   rcases List.mem_append.1 hx with h | h
   ·exact g1 x h
   ·simp at h; subst h; unfold B64; omega
  refine ⟨c, R, rfl, g2, ?_⟩
  rw [zcK _ hw, zdb, g2]
  simp only [val, Nat.mul_zero, Nat.add_zero]
  rw [g4]
 obtain ⟨cc, R, hR1, hR3, hTR⟩ := hR
 rw [← hTR]
 clear g1 g2 g3 g4 hTR
 have l1 := zaW a
 have l2 := zaW b
 have l4 := zaW R
 have cT := zeK (R ++ [cc]) (by rw [List.length_append]; simp; omega)
 have hap2 : wns R ++ [[.v (.int .u64 (cc : Int))]] = wns (R ++ [cc]) := by rw [ziC]; rfl
 rw [← hap2] at cT
 refine zan.freeze (T := 33) ?_
 refine zap Tryz.func86 rfl (Nat.le_of_ble_eq_true rfl) rfl rfl ?_
 have hap : ([] ++ wns a) = wns a := rfl
 (repeat' (first | refine zad ?_ | (refine zac (fun hb => ?_) (fun hb => ?_) <;> (try (exfalso; omega))) | fail))
 refine zas (fun x : Nat × Nat × List Nat => raSB b x.2.2 x.1 x.2.1) (fun x => x.1 ≤ a.length ∧ x.2.2.length = a.length ∧ Wds x.2.2 ∧ x.2.1 ≤ 1 ∧ raG b (a.length - x.1) x.1 x.2.1 x.2.2 = (cc, R)) (fun x => a.length - x.1) (0, 0, a) ⟨Nat.zero_le _, rfl, hwa, by show 0 ≤ 1; omega, hR1⟩ (by (refine Le.mk [(0,1)] [] zaj zao zaq zal)) fun x hx => ?_
 obtain ⟨i, c, l⟩ := x
 obtain ⟨hx1, hx2, hx3, hx4, hx5⟩ := hx
 dsimp only at hx1 hx2 hx3 hx4 hx5
 change awp _ _ _ _ _ (raSB b l i c)
 have l3 := zaW l
 rcases Nat.lt_or_ge i a.length with hi | hi
 ·obtain ⟨j, hj⟩ : ∃ j, a.length - i = j + 1 := ⟨a.length - i - 1, by omega⟩
  have hj2 : j = a.length - (i + 1) := by omega
  rw [hj, raG] at hx5
  subst hj2
  have gl := zbh (l := l) (i := i) (by omega)
  have hinc : IntKind.i64.wrap ((i : Int) + 1) = ((i + 1 : Nat) : Int) := zaT i (by omega)
  have hxl := hx3.get i
  have hyl := hwb.get i
  by_cases hib : i < b.length
  ·have gb := zbh (l := b) (i := i) hib
   generalize l.getD i 0 = x at *
   generalize b.getD i 0 = y at *
   have hE : (wns l).set i [.v (.int .u64 ((((x + y + c) % B64) : Nat) : Int))] = wns (l.set i ((x + y + c) % B64)) := zcB l i _
   have hw : ((x + y + c) % B64) < B64 := Nat.mod_lt _ (by decide)
   have hc1 : ((x + y + c) / B64) ≤ 1 := by unfold B64 at *; omega
   (repeat' (first | refine zad ?_ | ((refine is_f 117 ?_; refine zag rfl zab (zee rfl rfl rfl hx4) ?_); try dsimp only [AV.unfr, AV.unfrs, frsL, zbg, rdOf, @List.length_cons Blk, @List.length_nil Blk, @List.nil_append (Nat × Option Blk), @List.cons_append (Nat × Option Blk), @List.nil_append Blk, @List.cons_append Blk, Nat.add_zero, Nat.zero_add, Nat.reduceAdd]) | (refine zac (fun hb => ?_) (fun hb => ?_) <;> (try (exfalso; omega))) | fail))
   all_goals (first | (exfalso; omega) | exact ⟨(i + 1, ((x + y + c) / B64), l.set i ((x + y + c) % B64)), ⟨hi, by rw [List.length_set]; exact hx2, hx3.set i hw, hc1, hx5⟩, by show Le _ _ (raSB b (l.set i ((x + y + c) % B64)) (i + 1) ((x + y + c) / B64)); (refine Le.mk [(0,0)] [] zaj zao zaq zal), by show a.length - (i + 1) < a.length - i; omega⟩)
  ·have hy0 : b.getD i 0 = 0 := by simp [hib]
   rw [hy0, Nat.add_zero] at hx5
   clear hyl
   generalize l.getD i 0 = x at *
   obtain ⟨y, hy⟩ : ∃ y, y = 0 := ⟨0, rfl⟩
   have hE : (wns l).set i [.v (.int .u64 ((((x + c) % B64) : Nat) : Int))] = wns (l.set i ((x + c) % B64)) := zcB l i _
   have hw : ((x + c) % B64) < B64 := Nat.mod_lt _ (by decide)
   have hc1 : ((x + c) / B64) ≤ 1 := by unfold B64 at *; omega
   (repeat' (first | refine zad ?_ | ((refine is_f 117 ?_; refine zag rfl zab (zee (b := 0) rfl rfl rfl hx4) ?_); try dsimp only [AV.unfr, AV.unfrs, frsL, zbg, rdOf, @List.length_cons Blk, @List.length_nil Blk, @List.nil_append (Nat × Option Blk), @List.cons_append (Nat × Option Blk), @List.nil_append Blk, @List.cons_append Blk, Nat.add_zero, Nat.zero_add, Nat.reduceAdd]) | (refine zac (fun hb => ?_) (fun hb => ?_) <;> (try (exfalso; omega))) | fail))
   all_goals (first | (exfalso; omega) | exact ⟨(i + 1, ((x + c) / B64), l.set i ((x + c) % B64)), ⟨hi, by rw [List.length_set]; exact hx2, hx3.set i hw, hc1, hx5⟩, by show Le _ _ (raSB b (l.set i ((x + c) % B64)) (i + 1) ((x + c) / B64)); (refine Le.mk [(0,0)] [] zaj zao zaq zal), by show a.length - (i + 1) < a.length - i; omega⟩)
 ·have hie : a.length - i = 0 := by omega
  rw [hie, raG] at hx5
  injection hx5 with e1 e2
  subst e1 e2
  (repeat' (first | refine zad ?_ | (refine is_f 115 ?_; refine ze7 (cT) ?_) | (refine zac (fun hb => ?_) (fun hb => ?_) <;> (try (exfalso; omega))) | fail))
  all_goals (first | (exfalso; omega) | exact ret1 [] (.fr 1 _ _ _ rfl) rfl rfl rfl | exact ret1 [] (.fr 0 _ _ _ rfl) rfl rfl rfl | exact ret1 [] (.fr 2 _ _ _ rfl) rfl rfl rfl | exact ret1 [] (.fr 3 _ _ _ rfl) rfl rfl rfl)
theorem zm4 (a b : List Nat) (hwa : Wds a) (hwb : Wds b) (hla : a.length ≤ 1000) (hlb0 : b.length < a.length) : zan Tryz.prog 86 [.r (.sl 1 (wns b)), .r (.sl 1 (wns a))] [] (.r (.sl 1 (wns (tw (val a + val b))))) [] := by
 have hlb : b.length ≤ a.length := by omega
 obtain ⟨g1, g2, g3, g4⟩ := zlh b hwb a.length 0 0 a (by omega) hlb hwa (by omega)
 have hR : ∃ cc R, raG b a.length 0 0 a = (cc, R) ∧ R.length = a.length ∧ trim (R ++ [cc]) = tw (val a + val b) := by
  generalize raG b a.length 0 0 a = Y at *
  obtain ⟨c, R⟩ := Y
  dsimp only at *
  simp only [Nat.pow_zero, Nat.mul_zero, Nat.one_mul, List.drop_zero, Nat.add_zero] at g4
  have hw : Wds (R ++ [c]) := by
   intro x hx
   rcases List.mem_append.1 hx with h | h
   ·exact g1 x h
   ·simp at h; subst h; unfold B64; omega
  refine ⟨c, R, rfl, g2, ?_⟩
  rw [zcK _ hw, zdb, g2]
  simp only [val, Nat.mul_zero, Nat.add_zero]
  rw [g4]
 obtain ⟨cc, R, hR1, hR3, hTR⟩ := hR
 rw [← hTR]
 clear g1 g2 g3 g4 hTR
 have l1 := zaW a
 have l2 := zaW b
 have l4 := zaW R
 have cT := zeK (R ++ [cc]) (by rw [List.length_append]; simp; omega)
 have hap2 : wns R ++ [[.v (.int .u64 (cc : Int))]] = wns (R ++ [cc]) := by rw [ziC]; rfl
 rw [← hap2] at cT
 refine zan.freeze (T := 33) ?_
 refine zap Tryz.func86 rfl (Nat.le_of_ble_eq_true rfl) rfl rfl ?_
 have hap : ([] ++ wns a) = wns a := rfl
 (repeat' (first | refine zad ?_ | (refine zac (fun hb => ?_) (fun hb => ?_) <;> (try (exfalso; omega))) | fail))
 refine zas (fun x : Nat × Nat × List Nat => raSB b x.2.2 x.1 x.2.1) (fun x => x.1 ≤ a.length ∧ x.2.2.length = a.length ∧ Wds x.2.2 ∧ x.2.1 ≤ 1 ∧ raG b (a.length - x.1) x.1 x.2.1 x.2.2 = (cc, R)) (fun x => a.length - x.1) (0, 0, a) ⟨Nat.zero_le _, rfl, hwa, by show 0 ≤ 1; omega, hR1⟩ (by (refine Le.mk [(0,1)] [] zaj zao zaq zal)) fun x hx => ?_
 obtain ⟨i, c, l⟩ := x
 obtain ⟨hx1, hx2, hx3, hx4, hx5⟩ := hx
 dsimp only at hx1 hx2 hx3 hx4 hx5
 change awp _ _ _ _ _ (raSB b l i c)
 have l3 := zaW l
 rcases Nat.lt_or_ge i a.length with hi | hi
 ·obtain ⟨j, hj⟩ : ∃ j, a.length - i = j + 1 := ⟨a.length - i - 1, by omega⟩
  have hj2 : j = a.length - (i + 1) := by omega
  rw [hj, raG] at hx5
  subst hj2
  have gl := zbh (l := l) (i := i) (by omega)
  have hinc : IntKind.i64.wrap ((i : Int) + 1) = ((i + 1 : Nat) : Int) := zaT i (by omega)
  have hxl := hx3.get i
  have hyl := hwb.get i
  by_cases hib : i < b.length
  ·have gb := zbh (l := b) (i := i) hib
   generalize l.getD i 0 = x at *
   generalize b.getD i 0 = y at *
   have hE : (wns l).set i [.v (.int .u64 ((((x + y + c) % B64) : Nat) : Int))] = wns (l.set i ((x + y + c) % B64)) := zcB l i _
   have hw : ((x + y + c) % B64) < B64 := Nat.mod_lt _ (by decide)
   have hc1 : ((x + y + c) / B64) ≤ 1 := by unfold B64 at *; omega
   (repeat' (first | refine zad ?_ | ((refine is_f 117 ?_; refine zag rfl zab (zee rfl rfl rfl hx4) ?_); try dsimp only [AV.unfr, AV.unfrs, frsL, zbg, rdOf, @List.length_cons Blk, @List.length_nil Blk, @List.nil_append (Nat × Option Blk), @List.cons_append (Nat × Option Blk), @List.nil_append Blk, @List.cons_append Blk, Nat.add_zero, Nat.zero_add, Nat.reduceAdd]) | (refine zac (fun hb => ?_) (fun hb => ?_) <;> (try (exfalso; omega))) | fail))
   all_goals (first | (exfalso; omega) | exact ⟨(i + 1, ((x + y + c) / B64), l.set i ((x + y + c) % B64)), ⟨hi, by rw [List.length_set]; exact hx2, hx3.set i hw, hc1, hx5⟩, by show Le _ _ (raSB b (l.set i ((x + y + c) % B64)) (i + 1) ((x + y + c) / B64)); (refine Le.mk [(0,0)] [] zaj zao zaq zal), by show a.length - (i + 1) < a.length - i; omega⟩)
  ·have hy0 : b.getD i 0 = 0 := by simp [hib]
   rw [hy0, Nat.add_zero] at hx5
   clear hyl
   generalize l.getD i 0 = x at *
   obtain ⟨y, hy⟩ : ∃ y, y = 0 := ⟨0, rfl⟩
   have hE : (wns l).set i [.v (.int .u64 ((((x + c) % B64) : Nat) : Int))] = wns (l.set i ((x + c) % B64)) := zcB l i _
   have hw : ((x + c) % B64) < B64 := Nat.mod_lt _ (by decide)
   have hc1 : ((x + c) / B64) ≤ 1 := by unfold B64 at *; omega
   (repeat' (first | refine zad ?_ | ((refine is_f 117 ?_; refine zag rfl zab (zee (b := 0) rfl rfl rfl hx4) ?_); try dsimp only [AV.unfr, AV.unfrs, frsL, zbg, rdOf, @List.length_cons Blk, @List.length_nil Blk, @List.nil_append (Nat × Option Blk), @List.cons_append (Nat × Option Blk), @List.nil_append Blk, @List.cons_append Blk, Nat.add_zero, Nat.zero_add, Nat.reduceAdd]) | (refine zac (fun hb => ?_) (fun hb => ?_) <;> (try (exfalso; omega))) | fail))
   all_goals (first | (exfalso; omega) | exact ⟨(i + 1, ((x + c) / B64), l.set i ((x + c) % B64)), ⟨hi, by rw [List.length_set]; exact hx2, hx3.set i hw, hc1, hx5⟩, by show Le _ _ (raSB b (l.set i ((x + c) % B64)) (i + 1) ((x + c) / B64)); (refine Le.mk [(0,0)] [] zaj zao zaq zal), by show a.length - (i + 1) < a.length - i; omega⟩)
 ·have hie : a.length - i = 0 := by omega
  rw [hie, raG] at hx5
  injection hx5 with e1 e2
  subst e1 e2
  (repeat' (first | refine zad ?_ | (refine is_f 115 ?_; refine ze7 (cT) ?_) | (refine zac (fun hb => ?_) (fun hb => ?_) <;> (try (exfalso; omega))) | fail))
  all_goals (first | (exfalso; omega) | exact ret1 [] (.fr 1 _ _ _ rfl) rfl rfl rfl | exact ret1 [] (.fr 0 _ _ _ rfl) rfl rfl rfl | exact ret1 [] (.fr 2 _ _ _ rfl) rfl rfl rfl | exact ret1 [] (.fr 3 _ _ _ rfl) rfl rfl rfl)
theorem zkg (a b : List Nat) (hwa : Wds a) (hwb : Wds b) (hla : a.length ≤ 1000) (hlb : b.length ≤ 1000) : zan Tryz.prog 86 [.r (.sl 1 (wns a)), .r (.sl 1 (wns b))] [] (.r (.sl 1 (wns (tw (val a + val b))))) [] := by
 rcases Nat.lt_or_ge a.length b.length with h | h
 ·rw [Nat.add_comm]; exact zm4 b a hwb hwa hlb h
 ·exact zm3 a b hwa hwb hla h
theorem zpi : ∀ (i n : Nat), (tw n).getD i 0 = wo n i
 | 0, n => by
  by_cases h : n = 0
  ·subst h; rw [zcw]; rfl
  ·rw [zen h, wo0]; rfl
 | i + 1, n => by
  have e : wo n (i + 1) = wo (n / B64) i := by unfold wo; rw [Nat.pow_succ, Nat.div_div_eq_div_mul, Nat.mul_comm]
  by_cases h : n = 0
  ·subst h
   rw [zcw]
   have : wo 0 (i + 1) = 0 := by unfold wo; rw [Nat.zero_div]; rfl
   rw [this]; rfl
  ·rw [zen h, List.getD_cons_succ, e, zpi i]
theorem ztI (n k : Nat) (h : (tw n).length = k + 1) : n / B64 ^ k ≠ 0 ∧ n < B64 ^ (k + 1) := by
 have h1 := zf1 (k + 1) n (by omega)
 refine ⟨fun h0 => ?_, h1⟩
 have h2 : n < B64 ^ k := by
  have hp : 0 < B64 ^ k := Nat.pow_pos (by decide)
  rcases Nat.lt_or_ge n (B64 ^ k) with h | h
  ·exact h
  ·have := (Nat.le_div_iff_mul_le hp).2 (show 1 * B64 ^ k ≤ n by omega)
   omega
 have := zbw k n h2
 omega
theorem zkk (n : Nat) (hl : (tw n).length ≤ 1000) : zan Tryz.prog 119 [.r (.sl 1 (wns (tw n)))] [] (.r (.v (.int .i64 ((bl n : Nat) : Int)))) [] := by
 refine zap Tryz.func119 rfl (Nat.le_of_ble_eq_true rfl) rfl rfl ?_
 have l1 := zaW (tw n)
 rcases Nat.eq_zero_or_pos (tw n).length with h0 | hp
 ·have hn : n = 0 := by
   rcases Nat.eq_zero_or_pos n with h | h
   ·exact h
   ·rw [zen (by omega)] at h0; simp at h0
  have hb0 : (0 : Int) = ((bl n : Nat) : Int) := by subst hn; rfl
  (repeat' (first | refine zad ?_ | (refine zac (fun hb => ?_) (fun hb => ?_) <;> (try (exfalso; omega))) | fail))
  all_goals (first | (exfalso; omega) | exact ret1 [] (.int hb0) rfl rfl rfl)
 ·obtain ⟨k, hk⟩ : ∃ k, (tw n).length = k + 1 := ⟨(tw n).length - 1, by omega⟩
  obtain ⟨t1, t2⟩ := ztI n k hk
  have e := zq8 t2
  have hbl := znq k n t1
  rw [← e] at hbl
  have hg := zbh (l := tw n) (i := k) (by omega)
  rw [zpi] at hg
  have hw := zdB n k
  have cL := zqO (wo n k) hw
  have hb64 : bl (wo n k) ≤ 64 := zce (by rw [← zaQ]; exact hw)
  have hs : IntKind.i64.wrap (((wns (tw n)).length : Int) - 1) = (k : Int) := by rw [l1, hk, IntKind.wrap_i64]; omega
  have hm : IntKind.i64.wrap (64 * (k : Int)) = ((64 * k : Nat) : Int) := by rw [IntKind.wrap_i64]; omega
  have ha : IntKind.i64.wrap (((64 * k : Nat) : Int) + ((bl (wo n k) : Nat) : Int)) = ((bl n : Nat) : Int) := by rw [zds _ _ (by omega), hbl]
  clear e t1 t2 hbl
  generalize bl (wo n k) = y at *
  generalize wo n k = x at *
  generalize bl n = z at *
  (repeat' (first | refine zad ?_ | (refine is_f 110 ?_; refine zaa (cL) ?_) | (refine zac (fun hb => ?_) (fun hb => ?_) <;> (try (exfalso; omega))) | fail))
  all_goals (first | (exfalso; omega) | exact ret1 [] (.int rfl) rfl rfl rfl)
def rhS (l : List Nat) (i : Nat) : St := ⟨[(0, .ow 0), (3, .r (.v (.int .i64 (i : Int))))], [(0, some (.row 33 1 (wns l)))], 1⟩
def hfL (n i : Nat) (l : List Nat) : List Nat := (List.range l.length).map fun p => if p < i then wo (n / 2) p else wo n p
theorem zkP (n i : Nat) (l : List Nat) : (hfL n i l).length = l.length := by simp [hfL]
theorem zlK (n i : Nat) (l : List Nat) (p : Nat) (hp : p < l.length) : (hfL n i l).getD p 0 = if p < i then wo (n / 2) p else wo n p := by simp [hfL, hp]
theorem zrC (n i : Nat) (l : List Nat) (hi : i < l.length) : (hfL n i l).set i (wo (n / 2) i) = hfL n (i + 1) l := by
 apply List.ext_getElem?
 intro k
 unfold hfL
 rcases Nat.lt_trichotomy k i with hk | hk | hk
 ·simp [List.getElem?_set, show ¬ i = k by omega, List.getElem?_range, show k < l.length by omega, hk, show k < i + 1 by omega]
 ·subst hk
  simp [List.getElem?_set, List.getElem?_range, hi]
 ·by_cases h4 : k < l.length
  ·simp [List.getElem?_set, show ¬ i = k by omega, List.getElem?_range, h4, show ¬ k < i by omega, show ¬ k < i + 1 by omega]
  ·simp [List.getElem?_set, show ¬ i = k by omega, List.getElem?_range, h4]
theorem zq7 : ∀ (l : List Nat) (p : Nat), Wds l → l.getD p 0 = wo (val l) p
 | [], p, _ => by
  have : wo (val []) p = 0 := by show wo 0 p = 0; unfold wo; rw [Nat.zero_div]; rfl
  rw [this]; rfl
 | a :: l, 0, h => by
  have ha : a < B64 := h a (by simp)
  rw [wo0, val]
  show a = _
  unfold B64 at *; omega
 | a :: l, p + 1, h => by
  have ha : a < B64 := h a (by simp)
  have e : wo (val (a :: l)) (p + 1) = wo (val l) p := by
   unfold wo
   rw [Nat.pow_succ, Nat.mul_comm, ← Nat.div_div_eq_div_mul, val]
   congr 2
   unfold B64 at *; omega
  rw [List.getD_cons_succ, e, zq7 l p (fun x hx => h x (by simp [hx]))]
theorem zpP (l : List Nat) (hw : Wds l) : hfL (val l) 0 l = l := by
 apply List.ext_getElem?
 intro k
 unfold hfL
 by_cases h : k < l.length
 ·have := zq7 l k hw
  simp [List.getElem?_range, h] at this ⊢
  exact this.symm
 ·simp [h]
theorem zrD (n : Nat) (l : List Nat) (h : n < B64 ^ l.length) : Wds (hfL n l.length l) ∧ val (hfL n l.length l) = n / 2 := by
 have e : hfL n l.length l = ws (n / 2) l.length := by
  apply List.ext_getElem?
  intro k
  have hws : ∀ (m k p : Nat), p < k → (ws m k)[p]? = some (wo m p) := by
   intro m k
   induction k generalizing m with
   | zero => intro p hp; omega
   | succ k ih =>
    intro p hp
    cases p with
    | zero => rw [ws, wo0]; rfl
    | succ p =>
     rw [ws, List.getElem?_cons_succ, ih (m / B64) p (by omega)]
     congr 1
     unfold wo
     rw [Nat.pow_succ, Nat.mul_comm, Nat.div_div_eq_div_mul]
  by_cases hk : k < l.length
  ·rw [hws _ _ _ hk]
   unfold hfL
   simp [List.getElem?_range, hk]
  ·have h1 : (hfL n l.length l)[k]? = none := List.getElem?_eq_none (by rw [zkP]; omega)
   have h2 : (ws (n / 2) l.length)[k]? = none := List.getElem?_eq_none (by rw [zbV]; omega)
   rw [h1, h2]
 rw [e]
 exact ⟨zdp _ _, zcX _ _ (Nat.lt_of_le_of_lt (Nat.div_le_self _ _) h)⟩
theorem zs5 (l : List Nat) (hw : Wds l) (hl : l.length ≤ 1000) : zan Tryz.prog 121 [.ow 0] [.row 33 1 (wns l)] (.fr 33 1 (wns (tw (val l / 2)))) [none] := by
 have hv := zfj l hw
 obtain ⟨v1, v2⟩ := zrD (val l) l hv
 have hz := zpP l hw
 have cT := zeK (hfL (val l) l.length l) (by rw [zkP]; omega)
 rw [zcK _ v1, v2] at cT
 have hH := zpx (val l)
 have htop : ∀ p, l.length ≤ p → wo (val l) p = 0 := fun p hp => zem (Nat.lt_of_lt_of_le hv (Nat.pow_le_pow_right (by decide) hp))
 clear v1 v2
 refine zap Tryz.func121 rfl (Nat.le_of_ble_eq_true rfl) rfl rfl ?_
 (repeat' (first | refine zad ?_ | (refine zac (fun hb => ?_) (fun hb => ?_) <;> (try (exfalso; omega))) | fail))
 refine zas (fun x : Nat × List Nat => rhS x.2 x.1) (fun x => x.1 ≤ l.length ∧ x.2 = hfL (val l) x.1 l) (fun x => l.length - x.1) (0, l) ⟨Nat.zero_le _, hz.symm⟩ (by (refine Le.mk [(0,0)] [] zaj zao zaq zal)) fun x hx => ?_
 obtain ⟨i, m⟩ := x
 obtain ⟨hx1, hx2⟩ := hx
 dsimp only at hx1 hx2
 change awp _ _ _ _ _ (rhS m i)
 have hml : m.length = l.length := by rw [hx2, zkP]
 have l3 := zaW m
 rcases Nat.lt_or_ge i l.length with hi | hi
 ·have hset := zrC (val l) i l hi
  rw [← hx2] at hset
  have gi := zbh (l := m) (i := i) (by omega)
  have ei : m.getD i 0 = wo (val l) i := by rw [hx2, zlK _ _ _ _ hi, if_neg (by omega)]
  rw [ei] at gi
  have c1 := zfZ (wo (val l) i)
  have hinc : IntKind.i64.wrap ((i : Int) + 1) = ((i + 1 : Nat) : Int) := zaT i (by omega)
  have hb := zdB (val l) i
  have hHi := hH i
  have hE1 : (wns m).set i [.v (.int .u64 ((wo (val l) i / 2 : Nat) : Int))] = wns (m.set i (wo (val l) i / 2)) := zcB m i _
  have l4 : (wns (m.set i (wo (val l) i / 2))).length = m.length := by rw [zaW, List.length_set]
  by_cases h3 : i + 1 < l.length
  ·have c2 := zfY (wo (val l) (i + 1))
   have hor := zhk (wo (val l) i / 2) (wo (val l) (i + 1) % 2 * 9223372036854775808) 63 (by rw [show (2 : Nat) ^ 63 = 9223372036854775808 from rfl]; omega) (by rw [show (2 : Nat) ^ 63 = 9223372036854775808 from rfl]; unfold B64 at hb; omega) (by unfold B64 at *; omega)
   rw [← hHi] at hor
   have g1 : (wns (m.set i (wo (val l) i / 2)))[i]? = some [.v (.int .u64 ((wo (val l) i / 2 : Nat) : Int))] := by
    rw [zbh (by rw [List.length_set]; omega)]
    have : (m.set i (wo (val l) i / 2)).getD i 0 = wo (val l) i / 2 := by simp [show i < m.length by omega]
    rw [this]
   have g2 : (wns (m.set i (wo (val l) i / 2)))[i + 1]? = some [.v (.int .u64 ((wo (val l) (i + 1) : Nat) : Int))] := by
    rw [zbh (by rw [List.length_set]; omega)]
    have : (m.set i (wo (val l) i / 2)).getD (i + 1) 0 = wo (val l) (i + 1) := by
     have e1 : m.getD (i + 1) 0 = wo (val l) (i + 1) := by rw [hx2, zlK _ _ _ _ h3, if_neg (by omega)]
     rw [← e1]
     simp [List.getD_eq_getElem?_getD, List.getElem?_set]
    rw [this]
   have hE2 : (wns (m.set i (wo (val l) i / 2))).set i [.v (.int .u64 ((wo (val l / 2) i : Nat) : Int))] = wns (m.set i (wo (val l / 2) i)) := by rw [zcB, List.set_set]
   rw [← hE1] at g1 g2 hE2 l4
   clear hHi hH htop ei
   generalize wo (val l) i / 2 = x1 at *
   generalize wo (val l) (i + 1) % 2 * 9223372036854775808 = x2 at *
   (repeat' (first | refine zad ?_ | (refine zac (fun hb => ?_) (fun hb => ?_) <;> (try (exfalso; omega))) | fail))
   all_goals (first | (exfalso; omega) | exact ⟨(i + 1, m.set i (wo (val l / 2) i)), ⟨hi, hset⟩, by show Le _ _ (rhS (m.set i (wo (val l / 2) i)) (i + 1)); (refine Le.mk [(0,0)] [] zaj zao zaq zal), by show l.length - (i + 1) < l.length - i; omega⟩)
  ·rw [htop (i + 1) (by omega)] at hHi
   have e : wo (val l) i / 2 = wo (val l / 2) i := by omega
   rw [e] at hE1 c1 l4
   rw [← hE1] at l4
   clear hHi hH htop ei e
   (repeat' (first | refine zad ?_ | (refine zac (fun hb => ?_) (fun hb => ?_) <;> (try (exfalso; omega))) | fail))
   all_goals (first | (exfalso; omega) | exact ⟨(i + 1, m.set i (wo (val l / 2) i)), ⟨hi, hset⟩, by show Le _ _ (rhS (m.set i (wo (val l / 2) i)) (i + 1)); (refine Le.mk [(0,0)] [] zaj zao zaq zal), by show l.length - (i + 1) < l.length - i; omega⟩)
 ·have hie : i = l.length := by omega
  subst hie
  rw [← hx2] at cT
  (repeat' (first | refine zad ?_ | (refine is_f 115 ?_; refine ze6 (cT) ?_) | (refine zac (fun hb => ?_) (fun hb => ?_) <;> (try (exfalso; omega))) | fail))
  all_goals (first | (exfalso; omega) | exact zdl [] (.fr 0 _ _ _ rfl) rfl rfl (zak rfl) rfl | exact zdl [] (.fr 1 _ _ _ rfl) rfl rfl (zak rfl) rfl)
end Go.Proofs.YtibedaeefnjjlaaGreat
namespace Go.Ab
open Go.RowKit
theorem zan.freezeFF {P : Program} {f : FuncId} {args : List AV} {T sz T' sz' : Nat} {es es' : List (List RV)} (h : zan P f args [] (.tu [.fr T sz es, .fr T' sz' es']) []) : zan P f args [] (.tu [.r (.sl sz es), .r (.sl sz' es')]) [] := by
 intro w Z M k us hM hk hargs hpre hd
 refine (h w Z M k us hM hk hargs hpre hd).mono fun e w' ⟨v, he, Z', A⟩ => ⟨v, he, Z, fun _ _ => rfl, ?_, fun i b h => by simp [zaJ, zbu] at h, fun j b h => by simp [zaJ, AV.unfr, AV.unfrs] at h, fun j j' x h => by simp [zaJ, AV.unfr, AV.unfrs] at h, fun j x h => by simp [zaJ, AV.unfr, AV.unfrs] at h, A.upto⟩
 have h1 := A.out
 have h2 := A.fr 0 (.row T sz es) (by simp [zaJ, AV.unfr, AV.unfrs])
 have h3 := A.fresh 0
 have g2 := A.fr 1 (.row T' sz' es') (by simp [zaJ, AV.unfr, AV.unfrs])
 have g3 := A.fresh 1
 simp only [zaJ, AV.unfr, AV.unfrs, AV.rep, AV.reps, Nat.add_zero] at h1 h2 h3 g2 g3 ⊢
 obtain ⟨us', e1, u, us2, e2, h5, u', us3, e4, h6, e5⟩ := h1
 refine ⟨us', e1, u, us2, e2, ?_, u', us3, e4, ?_, e5⟩
 ·rw [h5]
  refine zfW h2 (fun q _ hq => hq.imp (fun h => h) (fun ⟨j, hj, _⟩ => by simp at hj)) fun x hx hn => ?_
  have h4 := h3 x (by simp) hx
  rcases hn with h0 | ⟨j, hj, _⟩
  ·rcases h4 with h4 | ⟨i, hi, _⟩
   ·have := hM x h0; omega
   ·simp [zbu] at hi
  ·simp at hj
 ·rw [h6]
  refine zfW g2 (fun q _ hq => hq.imp (fun h => h) (fun ⟨j, hj, _⟩ => by simp at hj)) fun x hx hn => ?_
  have h4 := g3 x (by simp) hx
  rcases hn with h0 | ⟨j, hj, _⟩
  ·rcases h4 with h4 | ⟨i, hi, _⟩
   ·have := hM x h0; omega
   ·simp [zbu] at hi
  ·simp at hj
end Go.Ab
namespace Go.Proofs.YtibedaeefnjjlaaGreat
open Go.RowKit Go.Ab Go.Wd
theorem zqx (a b : Nat) (ha : a < B64) : IntKind.u64.wrap (Int.tdiv (a : Int) (b : Int)) = ((a / b : Nat) : Int) := by
 have h : Int.tdiv (a : Int) (b : Int) = ((a / b : Nat) : Int) := by rw [Int.tdiv_eq_ediv_of_nonneg (by omega)]; simp
 have h2 : a / b ≤ a := Nat.div_le_self _ _
 rw [h]
 generalize a / b = q at *
 rw [IntKind.wrap_u64]; unfold B64 at ha; omega
theorem zmo (a b : Nat) : Int.tmod (a : Int) (b : Int) = ((a % b : Nat) : Int) := by
 rw [Int.tmod_eq_emod_of_nonneg (by omega)]; simp
theorem zpJ (x y : Nat) (hx : x < B64) (hy : y < B64) (hy0 : y ≠ 0) : zan Tryz.prog 118 [.r (.v (.int .u64 0)), .r (.v (.int .u64 (x : Int))), .r (.v (.int .u64 (y : Int)))] [] (.tu [.r (.v (.int .u64 ((x / y : Nat) : Int))), .r (.v (.int .u64 ((x % y : Nat) : Int)))]) [] := by
 have h1 := zqx x y hx
 have h2 := zmo x y
 have hy1 : (y : Int) ≠ 0 := by omega
 generalize x / y = q at *
 generalize x % y = r at *
 refine zap Tryz.func118 rfl (Nat.le_of_ble_eq_true rfl) rfl rfl ?_
 (repeat' (first | refine zad ?_ | (refine zac (fun hb => ?_) (fun hb => ?_) <;> (try (exfalso; omega))) | fail))
 all_goals (first | (exfalso; omega) | exact ret2 [] (.int rfl) (.int rfl) rfl rfl rfl rfl)
theorem ztH {x : Nat} (h : x ≠ 0) (hx : x < B64) : tw x = [x] := by
 rw [zen h, Nat.mod_eq_of_lt hx, Nat.div_eq_of_lt hx, zcw]
theorem zqu (x : Nat) (hx : x < B64) : trim [x] = tw x := by
 rw [zcK [x] (fun a ha => by simp at ha; subst ha; exact hx)]
 simp [val]
theorem zlq {n : Nat} : (wns (tw n)).length = 0 ↔ n = 0 := by
 rw [zaW]
 constructor
 ·intro h
  rcases Nat.eq_zero_or_pos n with h' | h'
  ·exact h'
  ·rw [zen (by omega)] at h; simp at h
 ·intro h; subst h; rw [zcw]; rfl
theorem zf4 (b : Bool) (n : Nat) (hn : n < B64 ^ 4) : zan Tryz.prog 45 [wd b n] [] (.r (.v (.bool (vW b n)))) [] := by
 have cO := of_m b n hn
 have h0 := zlq (n := n)
 have hT : n = 0 → b = true → false = vW b n := fun h g => by subst h g; rfl
 have hF : n ≠ 0 → true = vW b n := fun h => by unfold vW; rw [decide_eq_true h]; simp
 cases b with
 | false =>
  refine zap Tryz.func45 rfl (Nat.le_of_ble_eq_true rfl) rfl rfl ?_
  (repeat' (first | refine zad ?_ | (refine is_f 81 ?_; refine zaa (cO) ?_) | (refine zac (fun hb => ?_) (fun hb => ?_) <;> (try (exfalso; omega))) | fail))
  all_goals exact ret1 [] (.bool rfl) rfl rfl rfl
 | true =>
  by_cases h : n = 0
  ·have hl := h0.2 h
   refine zap Tryz.func45 rfl (Nat.le_of_ble_eq_true rfl) rfl rfl ?_
   (repeat' (first | refine zad ?_ | (refine is_f 81 ?_; refine zaa (cO) ?_) | (refine zac (fun hb => ?_) (fun hb => ?_) <;> (try (exfalso; omega))) | fail))
   all_goals (first | (exfalso; omega) | exact ret1 [] (.bool (hT h rfl)) rfl rfl rfl)
  ·have hl : ¬ (wns (tw n)).length = 0 := fun g => h (h0.1 g)
   refine zap Tryz.func45 rfl (Nat.le_of_ble_eq_true rfl) rfl rfl ?_
   (repeat' (first | refine zad ?_ | (refine is_f 81 ?_; refine zaa (cO) ?_) | (refine zac (fun hb => ?_) (fun hb => ?_) <;> (try (exfalso; omega))) | fail))
   all_goals (first | (exfalso; omega) | exact ret1 [] (.bool (hF h)) rfl rfl rfl)
theorem zpH (b : Bool) (n : Nat) (hn : n < B64 ^ 4) : zan Tryz.prog 78 [wd b n] [] (wz (zb b n)) [] := by
 have cV := zf4 b n hn
 rw [zpz]
 unfold vW at cV
 by_cases h : b = true ∧ n = 0
 ·obtain ⟨rfl, rfl⟩ := h
  refine zap Tryz.func78 rfl (Nat.le_of_ble_eq_true rfl) rfl rfl ?_
  (repeat' (first | refine zad ?_ | (refine is_f 45 ?_; refine zaa (cV) ?_) | (refine zac (fun hb => ?_) (fun hb => ?_) <;> (try (exfalso; omega))) | fail))
  all_goals (first | (exfalso; omega) | exact zbO [] (Rt.wd false 0) rfl rfl rfl rfl (zak rfl) rfl)
 ·have e1 : (!b || decide (n ≠ 0)) = true := by
   cases b with
   | false => rfl
   | true => simp only [Bool.not_true, Bool.false_or, decide_eq_true_eq]; exact fun h' => h ⟨rfl, h'⟩
  have e2 : (b && decide (n ≠ 0)) = b := by
   cases b with
   | false => rfl
   | true => simp only [Bool.true_and, decide_eq_true_eq]; exact fun h' => h ⟨rfl, h'⟩
  rw [e1] at cV
  rw [e2]
  refine zap Tryz.func78 rfl (Nat.le_of_ble_eq_true rfl) rfl rfl ?_
  (repeat' (first | refine zad ?_ | (refine is_f 45 ?_; refine zaa (cV) ?_) | (refine zac (fun hb => ?_) (fun hb => ?_) <;> (try (exfalso; omega))) | fail))
  all_goals (first | (exfalso; omega) | exact zbO [] (Rt.wd b n) rfl rfl rfl rfl (zak rfl) rfl)
theorem zt5 (z : Int) : zb (decide (z < 0)) z.natAbs = z := by
 unfold zb
 by_cases h : z < 0
 ·rw [decide_eq_true h, if_pos rfl]; omega
 ·rw [decide_eq_false h, if_neg (by simp)]; omega
theorem zcS (z : Int) (hz : z.natAbs < B64 ^ 4) : zan Tryz.prog 78 [wz z] [] (wz z) [] := by
 have h := zpH (decide (z < 0)) z.natAbs hz
 rw [zt5] at h
 exact h
theorem zcz (z : Int) (hz : z.natAbs < B64 ^ 4) : zan Tryz.prog 45 [wz z] [] (.r (.v (.bool true))) [] := by
 have h := zf4 (decide (z < 0)) z.natAbs hz
 have e : vW (decide (z < 0)) z.natAbs = true := by
  unfold vW
  by_cases h : z < 0
  ·rw [decide_eq_true h, decide_eq_true (by omega : z.natAbs ≠ 0)]; rfl
  ·rw [decide_eq_false h]; rfl
 rw [e] at h
 exact h
theorem zcA (b : Bool) (n : Nat) (hn : n < B64 ^ 4) : zan Tryz.prog 79 [.r (.v (.bool b)), .r (.sl 1 (wns (tw n)))] [] (.tu [wz (zb b n), .r (.v (.bool true))]) [] := by
 rw [zpz]; exact ztN b n hn
theorem zhY (v : Int) (hv : I64 v) : zan Tryz.prog 21 [.r (.v (.int .i64 v))] [] (wz v) [] := by
 have hv2 : -9223372036854775808 ≤ v ∧ v < 9223372036854775808 := hv
 rcases zbk v with ⟨n, rfl⟩ | ⟨n, hn, rfl⟩
 ·rw [zat]
  have h0 : IntKind.u64.wrap (n : Int) = ((n % B64 : Nat) : Int) := by rw [IntKind.wrap_u64]; unfold B64; omega
  have h1 : n / B64 = 0 := by unfold B64; omega
  have h2 : wd false n = .ag [.r (.v (.bool false)), .r (.v (.int .u64 ((n % B64 : Nat) : Int))), .r (.v (.int .u64 0)), .r (.v (.int .u64 0)), .r (.v (.int .u64 0))] := by
   unfold wd; rw [h1]; rfl
  refine zap Tryz.func21 rfl (Nat.le_of_ble_eq_true rfl) rfl rfl ?_
  (repeat' (first | refine zad ?_ | (refine zac (fun hb => ?_) (fun hb => ?_) <;> (try (exfalso; omega))) | fail))
  all_goals (first | (exfalso; omega) | (rw [h2]; exact zbO [] (.ag _ _ _ (Rt.agR [.v (.bool false), .v (.int .u64 ((n % B64 : Nat) : Int)), .v (.int .u64 0), .v (.int .u64 0), .v (.int .u64 0)])) rfl rfl rfl rfl (zak rfl) rfl))
 ·rw [zaD n hn]
  have h0 : IntKind.u64.wrap (-(n : Int)) = 18446744073709551616 - (n : Int) := by rw [IntKind.wrap_u64]; omega
  have hneg : IntKind.u64.wrap (0 - (18446744073709551616 - (n : Int))) = ((n % B64 : Nat) : Int) := by rw [IntKind.wrap_u64]; unfold B64; omega
  have h1 : n / B64 = 0 := by unfold B64; omega
  have h2 : wd true n = .ag [.r (.v (.bool true)), .r (.v (.int .u64 ((n % B64 : Nat) : Int))), .r (.v (.int .u64 0)), .r (.v (.int .u64 0)), .r (.v (.int .u64 0))] := by
   unfold wd; rw [h1]; rfl
  refine zap Tryz.func21 rfl (Nat.le_of_ble_eq_true rfl) rfl rfl ?_
  (repeat' (first | refine zad ?_ | (refine zac (fun hb => ?_) (fun hb => ?_) <;> (try (exfalso; omega))) | fail))
  all_goals (first | (exfalso; omega) | (rw [h2]; exact zbO [] (.ag _ _ _ (Rt.agR [.v (.bool true), .v (.int .u64 ((n % B64 : Nat) : Int)), .v (.int .u64 0), .v (.int .u64 0), .v (.int .u64 0)])) rfl rfl rfl rfl (zak rfl) rfl))
theorem zqW (n : Nat) (hn : n < B64) : zan Tryz.prog 84 [.r (.v (.int .u64 (n : Int)))] [] (wz (n : Int)) [] := by
 rw [zat]
 have h1 : n / B64 = 0 := by unfold B64 at *; omega
 have h0 : n % B64 = n := Nat.mod_eq_of_lt hn
 have h2 : wd false n = .ag [.r (.v (.bool false)), .r (.v (.int .u64 (n : Int))), .r (.v (.int .u64 0)), .r (.v (.int .u64 0)), .r (.v (.int .u64 0))] := by
  unfold wd; rw [h1, h0]; rfl
 rw [h2]
 refine zap Tryz.func84 rfl (Nat.le_of_ble_eq_true rfl) rfl rfl ?_
 (repeat' (first | refine zad ?_ | (refine zac (fun hb => ?_) (fun hb => ?_) <;> (try (exfalso; omega))) | fail))
 all_goals exact zbO [] (.ag _ _ _ (Rt.agR [.v (.bool false), .v (.int .u64 (n : Int)), .v (.int .u64 0), .v (.int .u64 0), .v (.int .u64 0)])) rfl rfl rfl rfl (zak rfl) rfl
theorem zdj (z : Int) (hz : z.natAbs < B64 ^ 4) : zan Tryz.prog 46 [wz z] [] (.r (.v (.int .i64 (sgZ z)))) [] := by
 rcases zbk z with ⟨n, rfl⟩ | ⟨n, hn, rfl⟩
 ·have cO := of_m false n (by simpa using hz)
  have h0 := zlq (n := n)
  rw [zat]
  have hT : (wns (tw n)).length = 0 → (0 : Int) = sgZ (n : Int) := fun h => by rw [h0.1 h]; rfl
  have hF : ¬ (wns (tw n)).length = 0 → (1 : Int) = sgZ (n : Int) := fun h => by have := fun g => h (h0.2 g); unfold sgZ; rw [if_neg (by omega), if_neg (by omega)]
  refine zap Tryz.func46 rfl (Nat.le_of_ble_eq_true rfl) rfl rfl ?_
  (repeat' (first | refine zad ?_ | (refine is_f 81 ?_; refine zaa (cO) ?_) | (refine zac (fun hb => ?_) (fun hb => ?_) <;> (try (exfalso; omega))) | fail))
  all_goals (first | exact ret1 [] (.int (hT (by omega))) rfl rfl rfl | exact ret1 [] (.int (hF (by omega))) rfl rfl rfl)
 ·have cO := of_m true n (by simpa using hz)
  have h0 := zlq (n := n)
  have hl : ¬ (wns (tw n)).length = 0 := fun g => hn (h0.1 g)
  rw [zaD n hn]
  have hT : (-1 : Int) = sgZ (-(n : Int)) := by unfold sgZ; rw [if_pos (by omega)]
  refine zap Tryz.func46 rfl (Nat.le_of_ble_eq_true rfl) rfl rfl ?_
  (repeat' (first | refine zad ?_ | (refine is_f 81 ?_; refine zaa (cO) ?_) | (refine zac (fun hb => ?_) (fun hb => ?_) <;> (try (exfalso; omega))) | fail))
  all_goals (first | (exfalso; omega) | exact ret1 [] (.int hT) rfl rfl rfl)
theorem zkc (z : Int) (hz : z.natAbs < B64 ^ 4) : zan Tryz.prog 50 [wz z] [] (wz (-z)) [] := by
 rcases zbk z with ⟨n, rfl⟩ | ⟨n, hn, rfl⟩
 ·have cO := of_m false n (by simpa using hz)
  have cS := zcA true n (by simpa using hz)
  rw [show zb true n = -(n : Int) from rfl] at cS
  rw [zat]
  refine zap Tryz.func50 rfl (Nat.le_of_ble_eq_true rfl) rfl rfl ?_
  (repeat' (first | refine zad ?_ | (refine is_f 81 ?_; refine zaa (cO) ?_) | (refine is_f 79 ?_; refine zaa (cS) ?_) | (refine zac (fun hb => ?_) (fun hb => ?_) <;> (try (exfalso; omega))) | fail))
  all_goals exact zbO [] (Rt.wz _) rfl rfl rfl rfl (zak rfl) rfl
 ·have cO := of_m true n (by simpa using hz)
  have cS := zcA false n (by simpa using hz)
  rw [show zb false n = (n : Int) from rfl] at cS
  rw [zaD n hn, Int.neg_neg]
  refine zap Tryz.func50 rfl (Nat.le_of_ble_eq_true rfl) rfl rfl ?_
  (repeat' (first | refine zad ?_ | (refine is_f 81 ?_; refine zaa (cO) ?_) | (refine is_f 79 ?_; refine zaa (cS) ?_) | (refine zac (fun hb => ?_) (fun hb => ?_) <;> (try (exfalso; omega))) | fail))
  all_goals exact zbO [] (Rt.wz _) rfl rfl rfl rfl (zak rfl) rfl
end Go.Proofs.YtibedaeefnjjlaaGreat
