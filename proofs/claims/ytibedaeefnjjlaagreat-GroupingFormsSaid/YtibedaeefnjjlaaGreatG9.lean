/- Texts of the second layer in one: Wd4 Wd5 Wd6 Wd7 Wd8. -/
import Derived.Test.YtibedaeefnjjlaaGreatG8
set_option maxRecDepth 100000
set_option linter.unusedVariables false
set_option linter.unusedSimpArgs false
namespace Go.Proofs.YtibedaeefnjjlaaGreat
open Go.RowKit Go.Ab Go.Wd
def wd (b : Bool) (n : Nat) : AV := .ag [.r (.v (.bool b)), .r (.v (.int .u64 ((n % B64 : Nat) : Int))), .r (.v (.int .u64 ((n / B64 % B64 : Nat) : Int))), .r (.v (.int .u64 ((n / B64 / B64 % B64 : Nat) : Int))), .r (.v (.int .u64 ((n / B64 / B64 / B64 % B64 : Nat) : Int)))]
theorem of_m (b : Bool) (n : Nat) (hn : n < B64 ^ 4) : zan Tryz.prog 81 [wd b n] [] (.r (.sl 1 (wns (tw n)))) [] := by
 have ht : trim (ws n 4) = tw n := by rw [zcK _ (zdp 4 n), zcX 4 n hn]
 rw [← ht]
 refine zan.freeze (T := 33) ?_
 refine zap Tryz.func81 rfl (Nat.le_of_ble_eq_true rfl) rfl rfl ?_
 have hso : List.take 4 (List.drop 1 [AV.r (.v (.bool b)), .r (.v (.int .u64 ((n % B64 : Nat) : Int))), .r (.v (.int .u64 ((n / B64 % B64 : Nat) : Int))), .r (.v (.int .u64 ((n / B64 / B64 % B64 : Nat) : Int))), .r (.v (.int .u64 ((n / B64 / B64 / B64 % B64 : Nat) : Int)))]) = (wns (ws n 4)).flatten.map .r := rfl
 have h1 : ∀ e ∈ wns (ws n 4), e.length = 1 := by
  intro e he
  unfold wns at he
  obtain ⟨a, _, rfl⟩ := List.mem_map.1 he
  rfl
 have h2 : (wns (ws n 4)).length = 4 := rfl
 have h3 : ([] ++ wns (ws n 4)) = wns (ws n 4) := rfl
 (repeat' (first | refine zad ?_ | (refine is_f 115 ?_; refine ze7 (zeK (ws n 4) (by rw [zbV]; omega)) ?_) | (refine zac (fun hb => ?_) (fun hb => ?_) <;> (try (exfalso; omega))) | fail))
 all_goals (first | exact ret1 [] (.fr 1 _ _ _ rfl) rfl rfl rfl | exact ret1 [] (.fr 2 _ _ _ rfl) rfl rfl rfl | exact ret1 [] (.fr 3 _ _ _ rfl) rfl rfl rfl)
def cmpN (m n : Nat) : Int := if m < n then -1 else if n < m then 1 else 0
theorem zkw (l : List Nat) (i : Nat) (h : i < l.length) : val l = val (l.take i) + B64 ^ i * (l.getD i 0 + B64 * val (l.drop (i + 1))) := by
 have h1 := zdb (l.take i) (l.drop i)
 rw [List.take_append_drop, zfd l i h, List.length_take, Nat.min_eq_left (Nat.le_of_lt h)] at h1
 exact h1
theorem zfF (l : List Nat) (hw : Wds l) (i : Nat) (h : i ≤ l.length) : val (l.take i) < B64 ^ i := by
 have h1 := zfj (l.take i) (fun a ha => hw a (List.mem_of_mem_take ha))
 rw [List.length_take, Nat.min_eq_left h] at h1
 exact h1
theorem zlC {x y a b s t i v : Nat} (hs : s < B64 ^ i) (ht : t < B64 ^ i) (hx : x = s + B64 ^ i * (a + B64 * v)) (hy : y = t + B64 ^ i * (b + B64 * v)) (hab : a < b) : x < y := by
 have : B64 ^ i * (a + B64 * v + 1) ≤ B64 ^ i * (b + B64 * v) := Nat.mul_le_mul (Nat.le_refl _) (by omega)
 rw [Nat.mul_add] at this
 omega
theorem zgp {m n : Nat} (h : (tw m).length < (tw n).length) : m < n := by
 have h1 := zf1 _ m (Nat.le_refl _)
 rcases Nat.lt_or_ge m n with h' | h'
 ·exact h'
 ·have := zbw (tw m).length n (Nat.lt_of_le_of_lt h' h1)
  omega
def cpS (m n : Nat) (z : Int) : St := ⟨[(0, .r (.sl 1 (wns (tw m)))), (1, .r (.sl 1 (wns (tw n)))), (5, .r (.v (.int .i64 z)))], [], 0⟩
theorem zer (m n : Nat) (hm : (tw m).length ≤ 1000000) (hn : (tw n).length ≤ 1000000) : zan Tryz.prog 82 [.r (.sl 1 (wns (tw m))), .r (.sl 1 (wns (tw n)))] [] (.r (.v (.int .i64 (cmpN m n)))) [] := by
 refine zap Tryz.func82 rfl (Nat.le_of_ble_eq_true rfl) rfl rfl ?_
 have l1 := zaW (tw m)
 have l2 := zaW (tw n)
 have c1 : (tw m).length < (tw n).length → (-1 : Int) = cmpN m n := fun h => by
  have := zgp h
  unfold cmpN; rw [if_pos this]
 have c2 : (tw n).length < (tw m).length → (1 : Int) = cmpN m n := fun h => by
  have := zgp h
  unfold cmpN; rw [if_neg (by omega), if_pos this]
 (repeat' (first | refine zad ?_ | (refine zac (fun hb => ?_) (fun hb => ?_) <;> (try (exfalso; omega))) | fail))
 all_goals (first | (exfalso; omega) | exact ret1 [] (.int (c1 (by omega))) rfl rfl rfl | exact ret1 [] (.int (c2 (by omega))) rfl rfl rfl | skip)
 have hlen : (tw m).length = (tw n).length := by omega
 have e1 := za0 m
 have e2 := za0 n
 have w1 := zbn m
 have w2 := zbn n
 refine zas (fun j : Nat => cpS m n ((j : Int) - 1)) (fun j => j ≤ (tw m).length ∧ (tw m).drop j = (tw n).drop j) (fun j => j) (tw m).length ⟨Nat.le_refl _, by rw [List.drop_length, hlen, List.drop_length]⟩ (by (refine Le.mk [] [] zaj zao zaq zal)) fun j hj => ?_
 obtain ⟨hj1, hj2⟩ := hj
 cases j with
 | zero =>
  change awp _ _ _ _ _ (cpS m n (-1))
  have : m = n := by
   rw [List.drop_zero, List.drop_zero] at hj2
   rw [← e1, ← e2, hj2]
  have c3 : (0 : Int) = cmpN m n := by unfold cmpN; rw [if_neg (by omega), if_neg (by omega)]
  (repeat' (first | refine zad ?_ | (refine zac (fun hb => ?_) (fun hb => ?_) <;> (try (exfalso; omega))) | fail))
  all_goals (first | (exfalso; omega) | exact ret1 [] (.int c3) rfl rfl rfl)
 | succ i =>
  have hi : i < (tw m).length := hj1
  have hi2 : i < (tw n).length := by omega
  have g1 := zbh (l := tw m) hi
  have g2 := zbh (l := tw n) hi2
  have v1 := zkw (tw m) i hi
  have v2 := zkw (tw n) i hi2
  have t1 := zfF (tw m) w1 i (by omega)
  have t2 := zfF (tw n) w2 i (by omega)
  rw [e1] at v1
  rw [e2, ← hj2] at v2
  have hw : IntKind.i64.wrap ((i : Int) - 1) = ((i : Int) - 1) := by rw [IntKind.wrap_i64]; omega
  have hc : (((i + 1 : Nat) : Int) - 1) = (i : Int) := by omega
  change awp _ _ _ _ _ (cpS m n (((i + 1 : Nat) : Int) - 1))
  rw [hc]
  have d1 : (tw m).drop i = (tw m).getD i 0 :: (tw m).drop (i + 1) := by
   rw [List.drop_eq_getElem_cons hi]; simp [hi]
  have d2 : (tw n).drop i = (tw n).getD i 0 :: (tw n).drop (i + 1) := by
   rw [List.drop_eq_getElem_cons hi2]; simp [hi2]
  have lt1 : (tw m).getD i 0 < (tw n).getD i 0 → (-1 : Int) = cmpN m n := fun h => by
   have := zlC t1 t2 v1 v2 h
   unfold cmpN; rw [if_pos this]
  have lt2 : (tw n).getD i 0 < (tw m).getD i 0 → (1 : Int) = cmpN m n := fun h => by
   have := zlC t2 t1 v2 v1 h
   unfold cmpN; rw [if_neg (by omega), if_pos this]
  have same : (tw m).getD i 0 = (tw n).getD i 0 → (tw m).drop i = (tw n).drop i := fun h => by rw [d1, d2, h, hj2]
  clear v1 v2 t1 t2 e1 e2 d1 d2 w1 w2
  generalize (tw m).getD i 0 = a at *
  generalize (tw n).getD i 0 = b at *
  (repeat' (first | refine zad ?_ | (refine zac (fun hb => ?_) (fun hb => ?_) <;> (try (exfalso; omega))) | fail))
  all_goals (first | (exfalso; omega) | exact ret1 [] (.int (lt1 (by omega))) rfl rfl rfl | exact ret1 [] (.int (lt2 (by omega))) rfl rfl rfl | exact ⟨i, ⟨by omega, same (by omega)⟩, by show Le _ _ (cpS m n ((i : Int) - 1)); (refine Le.mk [] [] zaj zao zaq zal), by show i < i + 1; omega⟩)
theorem zmk {p s c : Nat} (hp : p ≤ (B64 - 1) * (B64 - 1)) (hs : s < B64) (hc : c < B64) :
  ((p % B64 + s) % B64 + c) % B64 = (p + s + c) % B64 ∧ p / B64 + (p % B64 + s) / B64 + ((p % B64 + s) % B64 + c) / B64 = (p + s + c) / B64 ∧ p / B64 + (p % B64 + s) / B64 < B64 ∧ (p + s + c) / B64 < B64 := by
 unfold B64 at *
 omega
theorem zhU {x y : Nat} (hx : x < B64) (hy : y < B64) : x * y ≤ (B64 - 1) * (B64 - 1) := Nat.mul_le_mul (by omega) (by omega)
def muO (a b : List Nat) (i : Nat) (l : List Nat) : St := ⟨[(0, .r (.sl 1 (wns a))), (1, .r (.sl 1 (wns b))), (5, .ow 0), (6, .r (.v (.int .i64 (i : Int))))], [(0, some (.row 33 1 (wns l)))], 1⟩
def muI (a b : List Nat) (i : Nat) (k c : Nat) (l : List Nat) : St := ⟨[(0, .r (.sl 1 (wns a))), (1, .r (.sl 1 (wns b))), (5, .ow 0), (6, .r (.v (.int .i64 (i : Int)))), (7, .r (.v (.int .u64 (c : Int)))), (8, .r (.v (.int .i64 (k : Int))))], [(0, some (.row 33 1 (wns l)))], 1⟩
theorem zds (a b : Nat) (h : a + b < 9223372036854775808) : IntKind.i64.wrap ((a : Int) + (b : Int)) = ((a + b : Nat) : Int) := by rw [IntKind.wrap_i64]; omega
theorem zaT (a : Nat) (h : a + 1 < 9223372036854775808) : IntKind.i64.wrap ((a : Int) + 1) = ((a + 1 : Nat) : Int) := by rw [IntKind.wrap_i64]; omega
theorem zfT (a b : List Nat) (hwa : Wds a) (hwb : Wds b) (hla : a.length ≤ 1000) (hlb : b.length ≤ 1000) : zan Tryz.prog 80 [.r (.sl 1 (wns a)), .r (.sl 1 (wns b))] [] (.r (.sl 1 (wns (tw (val a * val b))))) [] := by
 obtain ⟨ml1, ml2, ml3⟩ := zoo a b (a.length + b.length + 1) hwa hwb (by omega)
 have l1 := zaW a
 have l2 := zaW b
 have s1 := zds a.length b.length (by omega)
 have s2 := zaT (a.length + b.length) (by omega)
 rw [← l1, ← l2] at s1
 rw [← l1, ← l2] at s2
 have hz : List.replicate ((wns a).length + (wns b).length + 1) (List.map RV.v [Value.int IntKind.u64 0]) = wns (List.replicate (a.length + b.length + 1) 0) := by
  rw [l1, l2]; unfold wns; rw [List.map_replicate]; rfl
 obtain ⟨R, hR⟩ : ∃ R, R = mOut a b a.length 0 (List.replicate (a.length + b.length + 1) 0) := ⟨_, rfl⟩
 rw [← hR] at ml1 ml2 ml3
 have hTR : trim R = tw (val a * val b) := by rw [zcK R ml1, ml3]
 rw [← hTR]
 refine zan.freeze (T := 33) ?_
 refine zap Tryz.func80 rfl (Nat.le_of_ble_eq_true rfl) rfl rfl ?_
 (repeat' (first | refine zad ?_ | (refine zac (fun hb => ?_) (fun hb => ?_) <;> (try (exfalso; omega))) | fail))
 refine zas (fun x : Nat × List Nat => muO a b x.1 x.2) (fun x => x.1 ≤ a.length ∧ x.2.length = a.length + b.length + 1 ∧ Wds x.2 ∧ mOut a b (a.length - x.1) x.1 x.2 = R) (fun x => a.length - x.1) (0, List.replicate (a.length + b.length + 1) 0) ⟨Nat.zero_le _, by simp, fun x hx => by rw [List.eq_of_mem_replicate hx]; decide, hR.symm⟩ (by (refine Le.mk [] [] zaj zao zaq zal)) fun x hx => ?_
 obtain ⟨i, l⟩ := x
 obtain ⟨hx1, hx2, hx3, hx4⟩ := hx
 dsimp only at hx1 hx2 hx3 hx4
 change awp _ _ _ _ _ (muO a b i l)
 rcases Nat.lt_or_ge i a.length with hi | hi
 ·have hx0 := hwa.get i
  have ga := zbh (l := a) hi
  obtain ⟨j, hj⟩ : ∃ j, a.length - i = j + 1 := ⟨a.length - i - 1, by omega⟩
  have hj2 : j = a.length - (i + 1) := by omega
  rw [hj, mOut] at hx4
  subst hj2
  generalize a.getD i 0 = x at *
  (repeat' (first | refine zad ?_ | (refine zac (fun hb => ?_) (fun hb => ?_) <;> (try (exfalso; omega))) | fail))
  refine zas (fun y : Nat × Nat × List Nat => muI a b i y.1 y.2.1 y.2.2) (fun y => y.1 ≤ b.length ∧ y.2.2.length = a.length + b.length + 1 ∧ Wds y.2.2 ∧ y.2.1 < B64 ∧ mIn x b i (b.length - y.1) y.1 y.2.1 y.2.2 = mIn x b i b.length 0 0 l) (fun y => b.length - y.1) (0, 0, l) ⟨Nat.zero_le _, hx2, hx3, by show 0 < B64; decide, rfl⟩ (by (refine Le.mk [] [] zaj zao zaq zal)) fun y hy => ?_
  obtain ⟨k, c, m⟩ := y
  obtain ⟨hy1, hy2, hy3, hy4, hy5⟩ := hy
  dsimp only at hy1 hy2 hy3 hy4 hy5
  change awp _ _ _ _ _ (muI a b i k c m)
  rcases Nat.lt_or_ge k b.length with hk | hk
  ·have hy0 := hwb.get k
   have gb := zbh (l := b) hk
   have gm := zbh (l := m) (i := i + k) (by omega)
   have hm0 := hy3.get (i + k)
   obtain ⟨q, hq⟩ : ∃ q, b.length - k = q + 1 := ⟨b.length - k - 1, by omega⟩
   have hq2 : q = b.length - (k + 1) := by omega
   rw [hq, mIn] at hy5
   subst hq2
   have sik := zds i k (by omega)
   have cM := zon x (b.getD k 0) hx0 hy0
   generalize b.getD k 0 = y at *
   generalize m.getD (i + k) 0 = s at *
   obtain ⟨r1, r2, r3, r4⟩ := zmk (zhU hx0 hy0) hm0 hy4
   have a1 := zdv (x * y / B64) ((x * y % B64 + s) / B64) r3
   have a2 := zdv (x * y / B64 + (x * y % B64 + s) / B64) (((x * y % B64 + s) % B64 + c) / B64) (by rw [r2]; exact r4)
   rw [r2] at a2
   have hE : (wns m).set (i + k) [.v (.int .u64 ((((x * y % B64 + s) % B64 + c) % B64 : Nat) : Int))] = wns (m.set (i + k) ((x * y + s + c) % B64)) := by rw [r1, zcB]
   have hr5 : (x * y + s + c) % B64 < B64 := by unfold B64; omega
   clear r1 r2
   (repeat' (first | refine zad ?_ | (refine is_f 116 ?_; refine zaa (cM) ?_) | ((refine is_f 117 ?_; refine zag rfl zab (zl3 rfl rfl rfl) ?_); try dsimp only [AV.unfr, AV.unfrs, frsL, zbg, rdOf, @List.length_cons Blk, @List.length_nil Blk, @List.nil_append (Nat × Option Blk), @List.cons_append (Nat × Option Blk), @List.nil_append Blk, @List.cons_append Blk, Nat.add_zero, Nat.zero_add, Nat.reduceAdd]) | (refine zac (fun hb => ?_) (fun hb => ?_) <;> (try (exfalso; omega))) | fail))
   all_goals exact ⟨(k + 1, (x * y + s + c) / B64, m.set (i + k) ((x * y + s + c) % B64)), ⟨hk, by rw [List.length_set]; exact hy2, hy3.set _ hr5, r4, hy5⟩, by show Le _ _ (muI a b i (k + 1) ((x * y + s + c) / B64) (m.set (i + k) ((x * y + s + c) % B64))); (refine Le.mk [] [] zaj zao zaq zal), by show b.length - (k + 1) < b.length - k; omega⟩
  ·have hke : b.length - k = 0 := by omega
   have hkk : k = b.length := by omega
   rw [hke, mIn] at hy5
   rw [← hy5] at hx4
   dsimp only at hx4
   have sib := zds i b.length (by omega)
   rw [← l2] at sib
   have gm := zbh (l := m) (i := i + (wns b).length) (by omega)
   have hE : (wns m).set (i + (wns b).length) [.v (.int .u64 (c : Int))] = wns (m.set (i + b.length) c) := by rw [zcB, l2]
   (repeat' (first | refine zad ?_ | (refine zac (fun hb => ?_) (fun hb => ?_) <;> (try (exfalso; omega))) | fail))
   all_goals exact ⟨(i + 1, m.set (i + b.length) c), ⟨hi, by rw [List.length_set]; exact hy2, hy3.set _ hy4, hx4⟩, by show Le _ _ (muO a b (i + 1) (m.set (i + b.length) c)); (refine Le.mk [] [] zaj zao zaq zal), by show a.length - (i + 1) < a.length - i; omega⟩
 ·have hie : a.length - i = 0 := by omega
  rw [hie, mOut] at hx4
  subst hx4
  (repeat' (first | refine zad ?_ | (refine is_f 115 ?_; refine ze6 (zeK l (by omega)) ?_) | (refine zac (fun hb => ?_) (fun hb => ?_) <;> (try (exfalso; omega))) | fail))
  all_goals (first | exact ret1 [] (.fr 1 _ _ _ rfl) rfl rfl rfl | exact ret1 [] (.fr 2 _ _ _ rfl) rfl rfl rfl)
theorem Rt.agR {H : Nat → Option Blk} {L : Nat} {G : List Nat} : ∀ (cs : List RV), RtL H L G (cs.map .r) (cs.map .r) []
 | [] => .nil
 | c :: cs => .cons _ _ _ _ [] [] (.r c) (Rt.agR cs)
theorem Rt.wd {H : Nat → Option Blk} {L : Nat} {G : List Nat} (b : Bool) (n : Nat) : Rt H L G (Go.Proofs.YtibedaeefnjjlaaGreat.wd b n) (Go.Proofs.YtibedaeefnjjlaaGreat.wd b n) [] := .ag _ _ _ (Rt.agR [.v (.bool b), .v (.int .u64 ((n % B64 : Nat) : Int)), .v (.int .u64 ((n / B64 % B64 : Nat) : Int)), .v (.int .u64 ((n / B64 / B64 % B64 : Nat) : Int)), .v (.int .u64 ((n / B64 / B64 / B64 % B64 : Nat) : Int))])
theorem zt1 (n : Nat) (hn : n < B64 ^ 4) : tw n ++ List.replicate (4 - (tw n).length) 0 = ws n 4 := by
 have hl := zbw 4 n hn
 have hlen : (tw n ++ List.replicate (4 - (tw n).length) 0).length = 4 := by rw [List.length_append, List.length_replicate]; omega
 have hw : Wds (tw n ++ List.replicate (4 - (tw n).length) 0) := by
  intro a ha
  rcases List.mem_append.1 ha with h | h
  ·exact zbn n a h
  ·rw [List.eq_of_mem_replicate h]; decide
 have hv : val (tw n ++ List.replicate (4 - (tw n).length) 0) = n := by rw [zdb, zhP, za0, Nat.mul_zero, Nat.add_zero]
 have := ziE _ hw
 rw [hv, hlen] at this
 exact this.symm
theorem zg4 (l : List Nat) (i : Nat) (hi : i < l.length) (h4 : l.length ≤ 4) : (l.take i ++ List.replicate (4 - i) 0).set i (l.getD i 0) = l.take (i + 1) ++ List.replicate (4 - (i + 1)) 0 := by
 apply List.ext_getElem?
 intro k
 have e : 4 - i = (4 - (i + 1)) + 1 := by omega
 rcases Nat.lt_trichotomy k i with hk | hk | hk
 ·simp [List.getElem?_append, List.getElem?_take, List.getElem?_set, hk, Nat.min_eq_left (Nat.le_of_lt hi), show ¬ i = k by omega, show k < min (i + 1) l.length by omega, show k < i + 1 by omega]
 ·subst hk
  simp [List.getElem?_append, List.getElem?_take, List.getElem?_set, hi, Nat.min_eq_left (Nat.le_of_lt hi), show k < min (k + 1) l.length by omega, show k < k + (4 - k) by omega]
 ·have : i ≠ k := by omega
  simp [List.getElem?_append, List.getElem?_take, List.getElem?_set, Nat.min_eq_left (Nat.le_of_lt hi), this, show ¬ k < i by omega, show ¬ k < min (i + 1) l.length by omega, Nat.min_eq_left (show i + 1 ≤ l.length from hi)]
  have h0 : ¬ 0 = k - i := by omega
  by_cases h : k < 4
  ·simp [List.getElem?_replicate, show k - i < 4 - i by omega, show ¬ k < i + 1 by omega, h0, show k - (i + 1) < 3 - i by omega]
  ·simp [List.getElem?_replicate, show ¬ k - i < 4 - i by omega, show ¬ k < i + 1 by omega, h0, show ¬ k - (i + 1) < 3 - i by omega]
def wiS (m : List Nat) (bb : Bool) (i : Nat) (l : List Nat) : St := ⟨[(1, .r (.sl 1 (wns m))), (4, .pt 0 0), (6, .pt 1 0), (7, .r (.v (.int .i64 (i : Int))))], [(0, some (.var 36 [.r (.v (.bool false)), .r (.v (.int .u64 0)), .r (.v (.int .u64 0)), .r (.v (.int .u64 0)), .r (.v (.int .u64 0))])), (1, some (.var 36 (.r (.v (.bool bb)) :: wv l)))], 2⟩
theorem ztN (b : Bool) (n : Nat) (hn : n < B64 ^ 4) : zan Tryz.prog 79 [.r (.v (.bool b)), .r (.sl 1 (wns (tw n)))] [] (.tu [wd (b && decide (n ≠ 0)) n, .r (.v (.bool true))]) [] := by
 refine zap Tryz.func79 rfl (Nat.le_of_ble_eq_true rfl) rfl rfl ?_
 have hl := zbw 4 n hn
 have hll := zaW (tw n)
 have cT := ztG (tw n) (by omega)
 rw [zcK _ (zbn n), za0] at cT
 have hb0 : (b && decide (n ≠ 0)) = (b && decide (0 < (tw n).length)) := by
  by_cases h : n = 0
  ·subst h; rw [zcw]; rfl
  ·rw [zen h]; simp [h]
 have hws := zt1 n hn
 rw [hb0]
 generalize tw n = m at *
 cases b with
 | false =>
  (repeat' (first | refine zad ?_ | (refine is_f 115 ?_; refine zaa (cT) ?_) | (refine zac (fun hb => ?_) (fun hb => ?_) <;> (try (exfalso; omega))) | fail))
  all_goals (first | (exfalso; omega) | skip)
  rw [Bool.false_and]
  refine zas (fun i : Nat => wiS m false i (m.take i ++ List.replicate (4 - i) 0)) (fun i => i ≤ m.length) (fun i => m.length - i) 0 (Nat.zero_le _) (by (refine Le.mk [(0,0),(1,1)] [] zaj zao zaq zal)) fun i hx => ?_
  rcases Nat.lt_or_ge i m.length with hi | hi
  ·have hL : (m.take i ++ List.replicate (4 - i) 0).length = 4 := by rw [List.length_append, List.length_replicate, List.length_take]; omega
   have hst := zg4 m i hi hl
   have gm := zbh (l := m) hi
   change awp _ _ _ _ _ (wiS m false i (m.take i ++ List.replicate (4 - i) 0))
   generalize m.take i ++ List.replicate (4 - i) 0 = L at *
   have hlen : Nat.ble (0 + 1 + i * 1 + 1) (AV.r (.v (.bool false)) :: wv L).length = true := by rw [Nat.ble_eq, List.length_cons, zgz]; omega
   have hE : setA (AV.r (.v (.bool false)) :: wv L) (0 + 1 + i * 1) [.r (.v (.int .u64 (m.getD i 0 : Nat)))] = AV.r (.v (.bool false)) :: wv (L.set i (m.getD i 0)) := by
    rw [← zgA L i _ (by omega), show 0 + 1 + i * 1 = i + 1 by omega]; rfl
   have hi4 : i < 4 := by omega
   have hid : ∀ T, (Blk.var T (AV.r (.v (.bool false)) :: wv (L.set i (m.getD i 0)))).ids = [] := fun T => by rw [Blk.ids, AV.idss, zct]; rfl
   have hnum : zbv ⟨0, zcp []⟩ (wiS m false (i + 1) (L.set i (m.getD i 0))) (rho []) [] = true := by
    unfold zbv wiS; simp only [List.all_cons, List.all_nil, hid]; rfl
   (repeat' (first | refine zad ?_ | (refine zac (fun hb => ?_) (fun hb => ?_) <;> (try (exfalso; omega))) | fail))
   all_goals (first | (exfalso; omega) | exact ⟨i + 1, hi, by show Le _ _ (wiS m false (i + 1) (m.take (i + 1) ++ List.replicate (4 - (i + 1)) 0)); rw [← hst]; simp only [zaM]; rw [hE]; (refine Le.mk [] [] zaj zao zaq zal), by show m.length - (i + 1) < m.length - i; omega⟩)
  ·have hie : i = m.length := by have : i ≤ m.length := hx; omega
   subst hie
   have e : m.take m.length ++ List.replicate (4 - m.length) 0 = ws n 4 := by rw [List.take_length]; exact hws
   change awp _ _ _ _ _ (wiS m false m.length (m.take m.length ++ List.replicate (4 - m.length) 0))
   rw [e]
   (repeat' (first | refine zad ?_ | (refine zac (fun hb => ?_) (fun hb => ?_) <;> (try (exfalso; omega))) | fail))
   all_goals (first | (exfalso; omega) | exact zbb [] (Rt.wd false n) (.bool rfl) rfl rfl rfl rfl rfl (zak rfl) rfl)
 | true =>
  rcases Nat.eq_zero_or_pos m.length with h0 | h0
  ·have hd : (true && decide (0 < m.length)) = false := by simp [h0]
   rw [hd]
   (repeat' (first | refine zad ?_ | (refine is_f 115 ?_; refine zaa (cT) ?_) | (refine zac (fun hb => ?_) (fun hb => ?_) <;> (try (exfalso; omega))) | fail))
   all_goals (first | (exfalso; omega) | skip)
   refine zas (fun i : Nat => wiS m false i (m.take i ++ List.replicate (4 - i) 0)) (fun i => i ≤ m.length) (fun i => m.length - i) 0 (Nat.zero_le _) (by (refine Le.mk [(0,0),(1,1)] [] zaj zao zaq zal)) fun i hx => ?_
   rcases Nat.lt_or_ge i m.length with hi | hi
   ·have hL : (m.take i ++ List.replicate (4 - i) 0).length = 4 := by rw [List.length_append, List.length_replicate, List.length_take]; omega
    have hst := zg4 m i hi hl
    have gm := zbh (l := m) hi
    change awp _ _ _ _ _ (wiS m false i (m.take i ++ List.replicate (4 - i) 0))
    generalize m.take i ++ List.replicate (4 - i) 0 = L at *
    have hlen : Nat.ble (0 + 1 + i * 1 + 1) (AV.r (.v (.bool false)) :: wv L).length = true := by rw [Nat.ble_eq, List.length_cons, zgz]; omega
    have hE : setA (AV.r (.v (.bool false)) :: wv L) (0 + 1 + i * 1) [.r (.v (.int .u64 (m.getD i 0 : Nat)))] = AV.r (.v (.bool false)) :: wv (L.set i (m.getD i 0)) := by
     rw [← zgA L i _ (by omega), show 0 + 1 + i * 1 = i + 1 by omega]; rfl
    have hi4 : i < 4 := by omega
    have hid : ∀ T, (Blk.var T (AV.r (.v (.bool false)) :: wv (L.set i (m.getD i 0)))).ids = [] := fun T => by rw [Blk.ids, AV.idss, zct]; rfl
    have hnum : zbv ⟨0, zcp []⟩ (wiS m false (i + 1) (L.set i (m.getD i 0))) (rho []) [] = true := by
     unfold zbv wiS; simp only [List.all_cons, List.all_nil, hid]; rfl
    (repeat' (first | refine zad ?_ | (refine zac (fun hb => ?_) (fun hb => ?_) <;> (try (exfalso; omega))) | fail))
    all_goals (first | (exfalso; omega) | exact ⟨i + 1, hi, by show Le _ _ (wiS m false (i + 1) (m.take (i + 1) ++ List.replicate (4 - (i + 1)) 0)); rw [← hst]; simp only [zaM]; rw [hE]; (refine Le.mk [] [] zaj zao zaq zal), by show m.length - (i + 1) < m.length - i; omega⟩)
   ·have hie : i = m.length := by have : i ≤ m.length := hx; omega
    subst hie
    have e : m.take m.length ++ List.replicate (4 - m.length) 0 = ws n 4 := by rw [List.take_length]; exact hws
    change awp _ _ _ _ _ (wiS m false m.length (m.take m.length ++ List.replicate (4 - m.length) 0))
    rw [e]
    (repeat' (first | refine zad ?_ | (refine zac (fun hb => ?_) (fun hb => ?_) <;> (try (exfalso; omega))) | fail))
    all_goals (first | (exfalso; omega) | exact zbb [] (Rt.wd false n) (.bool rfl) rfl rfl rfl rfl rfl (zak rfl) rfl)
  ·have hd : (true && decide (0 < m.length)) = true := by simp [h0]
   rw [hd]
   (repeat' (first | refine zad ?_ | (refine is_f 115 ?_; refine zaa (cT) ?_) | (refine zac (fun hb => ?_) (fun hb => ?_) <;> (try (exfalso; omega))) | fail))
   all_goals (first | (exfalso; omega) | skip)
   refine zas (fun i : Nat => wiS m true i (m.take i ++ List.replicate (4 - i) 0)) (fun i => i ≤ m.length) (fun i => m.length - i) 0 (Nat.zero_le _) (by (refine Le.mk [(0,0),(1,1)] [] zaj zao zaq zal)) fun i hx => ?_
   rcases Nat.lt_or_ge i m.length with hi | hi
   ·have hL : (m.take i ++ List.replicate (4 - i) 0).length = 4 := by rw [List.length_append, List.length_replicate, List.length_take]; omega
    have hst := zg4 m i hi hl
    have gm := zbh (l := m) hi
    change awp _ _ _ _ _ (wiS m true i (m.take i ++ List.replicate (4 - i) 0))
    generalize m.take i ++ List.replicate (4 - i) 0 = L at *
    have hlen : Nat.ble (0 + 1 + i * 1 + 1) (AV.r (.v (.bool true)) :: wv L).length = true := by rw [Nat.ble_eq, List.length_cons, zgz]; omega
    have hE : setA (AV.r (.v (.bool true)) :: wv L) (0 + 1 + i * 1) [.r (.v (.int .u64 (m.getD i 0 : Nat)))] = AV.r (.v (.bool true)) :: wv (L.set i (m.getD i 0)) := by
     rw [← zgA L i _ (by omega), show 0 + 1 + i * 1 = i + 1 by omega]; rfl
    have hi4 : i < 4 := by omega
    have hid : ∀ T, (Blk.var T (AV.r (.v (.bool true)) :: wv (L.set i (m.getD i 0)))).ids = [] := fun T => by rw [Blk.ids, AV.idss, zct]; rfl
    have hnum : zbv ⟨0, zcp []⟩ (wiS m true (i + 1) (L.set i (m.getD i 0))) (rho []) [] = true := by
     unfold zbv wiS; simp only [List.all_cons, List.all_nil, hid]; rfl
    (repeat' (first | refine zad ?_ | (refine zac (fun hb => ?_) (fun hb => ?_) <;> (try (exfalso; omega))) | fail))
    all_goals (first | (exfalso; omega) | exact ⟨i + 1, hi, by show Le _ _ (wiS m true (i + 1) (m.take (i + 1) ++ List.replicate (4 - (i + 1)) 0)); rw [← hst]; simp only [zaM]; rw [hE]; (refine Le.mk [] [] zaj zao zaq zal), by show m.length - (i + 1) < m.length - i; omega⟩)
   ·have hie : i = m.length := by have : i ≤ m.length := hx; omega
    subst hie
    have e : m.take m.length ++ List.replicate (4 - m.length) 0 = ws n 4 := by rw [List.take_length]; exact hws
    change awp _ _ _ _ _ (wiS m true m.length (m.take m.length ++ List.replicate (4 - m.length) 0))
    rw [e]
    (repeat' (first | refine zad ?_ | (refine zac (fun hb => ?_) (fun hb => ?_) <;> (try (exfalso; omega))) | fail))
    all_goals (first | (exfalso; omega) | exact zbb [] (Rt.wd true n) (.bool rfl) rfl rfl rfl rfl rfl (zak rfl) rfl)
instance ztT : EqAr Tryz.prog 34 := ⟨by kernel_rfl⟩
def w4 (n : Nat) : AV := .ag [.r (.v (.int .u64 ((n % B64 : Nat) : Int))), .r (.v (.int .u64 ((n / B64 % B64 : Nat) : Int))), .r (.v (.int .u64 ((n / B64 / B64 % B64 : Nat) : Int))), .r (.v (.int .u64 ((n / B64 / B64 / B64 % B64 : Nat) : Int)))]
theorem Rt.w4 {H : Nat → Option Blk} {L : Nat} {G : List Nat} (n : Nat) : Rt H L G (Go.Proofs.YtibedaeefnjjlaaGreat.w4 n) (Go.Proofs.YtibedaeefnjjlaaGreat.w4 n) [] := .ag _ _ _ (Rt.agR [.v (.int .u64 ((n % B64 : Nat) : Int)), .v (.int .u64 ((n / B64 % B64 : Nat) : Int)), .v (.int .u64 ((n / B64 / B64 % B64 : Nat) : Int)), .v (.int .u64 ((n / B64 / B64 / B64 % B64 : Nat) : Int))])
theorem four (l : List Nat) (h : l.length = 4) (hw : Wds l) : l = ws (val l) 4 := by
 have := ziE l hw
 rw [h] at this
 exact this.symm
def adG (a b : List Nat) : Nat → Nat → Nat → List Nat → Nat × List Nat
 | 0, _, c, l => (c, l)
 | j + 1, i, c, l => adG a b j (i + 1) ((a.getD i 0 + b.getD i 0 + c) / B64) (l.set i ((a.getD i 0 + b.getD i 0 + c) % B64))
theorem zcy (a : List Nat) (i : Nat) (h : i < a.length) : val (a.take (i + 1)) = val (a.take i) + B64 ^ i * a.getD i 0 := by
 rw [List.take_succ_eq_append_getElem h, zdb, List.length_take, Nat.min_eq_left (Nat.le_of_lt h)]
 simp [val, h]
theorem zni (a b : List Nat) (ha : Wds a) (hb : Wds b) (hl : a.length = b.length) : ∀ (j i c : Nat) (l : List Nat), j + i = a.length → l.length = a.length → Wds l → c ≤ 1 → (∀ p, i ≤ p → l.getD p 0 = 0) → val l + B64 ^ i * c = val (a.take i) + val (b.take i) →
  Wds (adG a b j i c l).2 ∧ (adG a b j i c l).2.length = a.length ∧ (adG a b j i c l).1 ≤ 1 ∧ val (adG a b j i c l).2 + B64 ^ a.length * (adG a b j i c l).1 = val a + val b
 | 0, i, c, l, hj, hll, hw, hc, hz, hv => by
  have : i = a.length := by omega
  subst this
  rw [List.take_length, hl, List.take_length, ← hl] at hv
  exact ⟨hw, hll, hc, hv⟩
 | j + 1, i, c, l, hj, hll, hw, hc, hz, hv => by
  have h1 := ha.get i
  have h2 := hb.get i
  have hvs := zdo l i ((a.getD i 0 + b.getD i 0 + c) % B64) (by omega)
  rw [hz i (Nat.le_refl _), Nat.mul_zero, Nat.add_zero] at hvs
  have e1 := zcy a i (by omega)
  have e2 := zcy b i (by omega)
  rw [adG]
  refine zni a b ha hb hl j (i + 1) _ _ (by omega) (by rw [List.length_set]; exact hll) (hw.set i (by unfold B64; omega)) (by unfold B64 at *; omega) (fun p hp => ?_) ?_
  ·have : i ≠ p := by omega
   have e := hz p (by omega)
   simpa [List.getD_eq_getElem?_getD, List.getElem?_set, this] using e
  ·rw [hvs, e1, e2, Nat.pow_succ]
   have hm := Nat.mod_add_div (a.getD i 0 + b.getD i 0 + c) B64
   generalize (a.getD i 0 + b.getD i 0 + c) % B64 = r at *
   generalize (a.getD i 0 + b.getD i 0 + c) / B64 = q at *
   generalize a.getD i 0 = x at *
   generalize b.getD i 0 = y at *
   generalize B64 ^ i = M at *
   have e3 : M * (r + B64 * q) = M * (x + y + c) := by rw [hm]
   rw [Nat.mul_add, ← Nat.mul_assoc, Nat.mul_add, Nat.mul_add] at e3
   omega
def adS (a b : List Nat) (i c : Nat) (l : List Nat) : St := ⟨[(2, .pt 0 0), (3, .pt 1 0), (4, .pt 2 0), (5, .r (.v (.int .u64 (c : Int)))), (7, .r (.v (.int .i64 (i : Int))))], [(0, some (.var 34 (wv a))), (1, some (.var 34 (wv b))), (2, some (.var 34 (wv l)))], 3⟩
theorem ziZ (a b : List Nat) (i c : Nat) (l : List Nat) : zbv ⟨0, zcp []⟩ (adS a b i c l) (rho []) [] = true := by
 have hid : ∀ T l, (Blk.var T (wv l)).ids = [] := fun T l => by rw [Blk.ids, zct]
 unfold zbv adS; simp only [List.all_cons, List.all_nil, hid]; rfl
theorem zpA (m n : Nat) (hm : m < B64 ^ 4) (hn : n < B64 ^ 4) (hmn : m + n < B64 ^ 4) : zan Tryz.prog 157 [w4 m, w4 n] [] (.tu [w4 (m + n), .r (.v (.int .u64 0))]) [] := by
 have hla := zbV 4 m
 have hlb := zbV 4 n
 have hwa := zdp 4 m
 have hwb := zdp 4 n
 have hva := zcX 4 m hm
 have hvb := zcX 4 n hn
 refine zap Tryz.func157 rfl (Nat.le_of_ble_eq_true rfl) rfl rfl ?_
 (repeat' (first | refine zad ?_ | (refine zac (fun hb => ?_) (fun hb => ?_) <;> (try (exfalso; omega))) | fail))
 obtain ⟨g1, g2, g3, g4⟩ := zni (ws m 4) (ws n 4) hwa hwb (by rw [hla, hlb]) 4 0 0 [0, 0, 0, 0] (by rw [hla]) (by rw [hla]; rfl) (fun a ha => by simp at ha; subst ha; decide) (by omega) (fun p _ => by rcases p with _ | _ | _ | _ | p <;> rfl) (by simp [val])
 have hfin : adG (ws m 4) (ws n 4) 4 0 0 [0, 0, 0, 0] = (0, ws (m + n) 4) := by
  generalize adG (ws m 4) (ws n 4) 4 0 0 [0, 0, 0, 0] = R at *
  obtain ⟨c, l⟩ := R
  dsimp only at *
  rw [hva, hvb, hla] at g4
  have hc : c = 0 := by
   rcases Nat.eq_zero_or_pos c with h | h
   ·exact h
   ·have : B64 ^ 4 * 1 ≤ B64 ^ 4 * c := Nat.mul_le_mul (Nat.le_refl _) h
    omega
  subst hc
  have e := four l (by rw [g2, hla]) g1
  rw [Nat.mul_zero, Nat.add_zero] at g4
  rw [g4] at e
  rw [e]
 refine zas (fun x : Nat × Nat × List Nat => adS (ws m 4) (ws n 4) x.1 x.2.1 x.2.2) (fun x => x.1 ≤ 4 ∧ x.2.2.length = 4 ∧ x.2.1 ≤ 1 ∧ adG (ws m 4) (ws n 4) (4 - x.1) x.1 x.2.1 x.2.2 = (0, ws (m + n) 4)) (fun x => 4 - x.1) (0, 0, [0, 0, 0, 0]) ⟨by omega, rfl, by show 0 ≤ 1; omega, hfin⟩ (by (refine Le.mk [] [] zaj zao zaq zal)) fun x hx => ?_
 obtain ⟨i, c, l⟩ := x
 obtain ⟨hx1, hx2, hx3, hx4⟩ := hx
 dsimp only at hx1 hx2 hx3 hx4
 change awp _ _ _ _ _ (adS (ws m 4) (ws n 4) i c l)
 rcases Nat.lt_or_ge i 4 with hi | hi
 ·obtain ⟨j, hj⟩ : ∃ j, 4 - i = j + 1 := ⟨4 - i - 1, by omega⟩
  have hj2 : j = 4 - (i + 1) := by omega
  rw [hj, adG] at hx4
  subst hj2
  have ga : (wv (ws m 4))[0 + i * 1]? = some (.r (.v (.int .u64 ((ws m 4).getD i 0 : Nat)))) := by rw [show 0 + i * 1 = i by omega]; exact zf6 (by omega)
  have gb : (wv (ws n 4))[0 + i * 1]? = some (.r (.v (.int .u64 ((ws n 4).getD i 0 : Nat)))) := by rw [show 0 + i * 1 = i by omega]; exact zf6 (by omega)
  have hxa := hwa.get i
  have hxb := hwb.get i
  generalize ws m 4 = a at *
  generalize ws n 4 = b at *
  have hc1 : (a.getD i 0 + b.getD i 0 + c) / B64 ≤ 1 := by unfold B64 at *; omega
  generalize a.getD i 0 = x at *
  generalize b.getD i 0 = y at *
  have key : ∀ i0, i = i0 → IntKind.i64.wrap ((i0 : Int) + 1) = ((i0 + 1 : Nat) : Int) := fun i0 h => zaT i0 (by omega)
  obtain ⟨l0, l1, l2, l3, rfl⟩ : ∃ l0 l1 l2 l3, l = [l0, l1, l2, l3] := by
   match l, hx2 with
   | [l0, l1, l2, l3], _ => exact ⟨l0, l1, l2, l3, rfl⟩
  have hcase : i = 0 ∨ i = 1 ∨ i = 2 ∨ i = 3 := by omega
  rcases hcase with rfl | rfl | rfl | rfl
  ·have hnum := ziZ a b (0 + 1) ((x + y + c) / B64) ([l0, l1, l2, l3].set 0 ((x + y + c) % B64))
   (repeat' (first | refine zad ?_ | ((refine is_f 117 ?_; refine zag rfl zab (zee rfl rfl rfl hx3) ?_); try dsimp only [AV.unfr, AV.unfrs, frsL, zbg, rdOf, @List.length_cons Blk, @List.length_nil Blk, @List.nil_append (Nat × Option Blk), @List.cons_append (Nat × Option Blk), @List.nil_append Blk, @List.cons_append Blk, Nat.add_zero, Nat.zero_add, Nat.reduceAdd]) | (refine zac (fun hb => ?_) (fun hb => ?_) <;> (try (exfalso; omega))) | fail))
   all_goals (first | (exfalso; omega) | exact ⟨(0 + 1, (x + y + c) / B64, [l0, l1, l2, l3].set 0 ((x + y + c) % B64)), ⟨by show 0 + 1 ≤ 4; omega, rfl, hc1, hx4⟩, by show Le _ _ (adS a b (0 + 1) ((x + y + c) / B64) ([l0, l1, l2, l3].set 0 ((x + y + c) % B64))); (refine Le.mk [] [] zaj zao zaq zal), by show 4 - (0 + 1) < 4 - 0; omega⟩)
  ·have hnum := ziZ a b (1 + 1) ((x + y + c) / B64) ([l0, l1, l2, l3].set 1 ((x + y + c) % B64))
   (repeat' (first | refine zad ?_ | ((refine is_f 117 ?_; refine zag rfl zab (zee rfl rfl rfl hx3) ?_); try dsimp only [AV.unfr, AV.unfrs, frsL, zbg, rdOf, @List.length_cons Blk, @List.length_nil Blk, @List.nil_append (Nat × Option Blk), @List.cons_append (Nat × Option Blk), @List.nil_append Blk, @List.cons_append Blk, Nat.add_zero, Nat.zero_add, Nat.reduceAdd]) | (refine zac (fun hb => ?_) (fun hb => ?_) <;> (try (exfalso; omega))) | fail))
   all_goals (first | (exfalso; omega) | exact ⟨(1 + 1, (x + y + c) / B64, [l0, l1, l2, l3].set 1 ((x + y + c) % B64)), ⟨by show 1 + 1 ≤ 4; omega, rfl, hc1, hx4⟩, by show Le _ _ (adS a b (1 + 1) ((x + y + c) / B64) ([l0, l1, l2, l3].set 1 ((x + y + c) % B64))); (refine Le.mk [] [] zaj zao zaq zal), by show 4 - (1 + 1) < 4 - 1; omega⟩)
  ·have hnum := ziZ a b (2 + 1) ((x + y + c) / B64) ([l0, l1, l2, l3].set 2 ((x + y + c) % B64))
   (repeat' (first | refine zad ?_ | ((refine is_f 117 ?_; refine zag rfl zab (zee rfl rfl rfl hx3) ?_); try dsimp only [AV.unfr, AV.unfrs, frsL, zbg, rdOf, @List.length_cons Blk, @List.length_nil Blk, @List.nil_append (Nat × Option Blk), @List.cons_append (Nat × Option Blk), @List.nil_append Blk, @List.cons_append Blk, Nat.add_zero, Nat.zero_add, Nat.reduceAdd]) | (refine zac (fun hb => ?_) (fun hb => ?_) <;> (try (exfalso; omega))) | fail))
   all_goals (first | (exfalso; omega) | exact ⟨(2 + 1, (x + y + c) / B64, [l0, l1, l2, l3].set 2 ((x + y + c) % B64)), ⟨by show 2 + 1 ≤ 4; omega, rfl, hc1, hx4⟩, by show Le _ _ (adS a b (2 + 1) ((x + y + c) / B64) ([l0, l1, l2, l3].set 2 ((x + y + c) % B64))); (refine Le.mk [] [] zaj zao zaq zal), by show 4 - (2 + 1) < 4 - 2; omega⟩)
  ·have hnum := ziZ a b (3 + 1) ((x + y + c) / B64) ([l0, l1, l2, l3].set 3 ((x + y + c) % B64))
   (repeat' (first | refine zad ?_ | ((refine is_f 117 ?_; refine zag rfl zab (zee rfl rfl rfl hx3) ?_); try dsimp only [AV.unfr, AV.unfrs, frsL, zbg, rdOf, @List.length_cons Blk, @List.length_nil Blk, @List.nil_append (Nat × Option Blk), @List.cons_append (Nat × Option Blk), @List.nil_append Blk, @List.cons_append Blk, Nat.add_zero, Nat.zero_add, Nat.reduceAdd]) | (refine zac (fun hb => ?_) (fun hb => ?_) <;> (try (exfalso; omega))) | fail))
   all_goals (first | (exfalso; omega) | exact ⟨(3 + 1, (x + y + c) / B64, [l0, l1, l2, l3].set 3 ((x + y + c) % B64)), ⟨by show 3 + 1 ≤ 4; omega, rfl, hc1, hx4⟩, by show Le _ _ (adS a b (3 + 1) ((x + y + c) / B64) ([l0, l1, l2, l3].set 3 ((x + y + c) % B64))); (refine Le.mk [] [] zaj zao zaq zal), by show 4 - (3 + 1) < 4 - 3; omega⟩)
 ·have hie : 4 - i = 0 := by omega
  rw [hie, adG] at hx4
  injection hx4 with h1 h2
  subst h1 h2
  (repeat' (first | refine zad ?_ | (refine zac (fun hb => ?_) (fun hb => ?_) <;> (try (exfalso; omega))) | fail))
  all_goals (first | (exfalso; omega) | exact zbb [] (Rt.w4 (m + n)) (.int rfl) rfl rfl rfl rfl rfl (zak rfl) rfl)
end Go.Proofs.YtibedaeefnjjlaaGreat
