/- Texts of the second layer in one: Dv2 Dv3 Rg1. -/
import Derived.Test.YtibedaeefnjjlaaGreatG21
import Derived.Test.YtibedaeefnjjlaaGreatG23
import Derived.Test.YtibedaeefnjjlaaGreatG22
set_option maxHeartbeats 8000000
set_option maxRecDepth 100000
set_option linter.unusedVariables false
set_option linter.unusedSimpArgs false
namespace Go.Proofs.YtibedaeefnjjlaaGreat
open Go.RowKit Go.Ab Go.Wd
theorem zlW (y : Nat) (hy : y < B64) (h0 : y ≠ 0) : 64 - bl y < 64 ∧ y * 2 ^ (64 - bl y) < B64 ∧ B64 ≤ 2 * (y * 2 ^ (64 - bl y)) ∧ bl y ≤ 64 := by
 have h1 := zg0 h0
 have h2 : bl y ≤ 64 := zce (by rw [← zaQ]; exact hy)
 have h3 := ziJ y
 have h4 := zjC y h0
 generalize bl y = k at *
 have hp : 0 < 2 ^ (64 - k) := Nat.pow_pos (by decide)
 refine ⟨by omega, ?_, ?_, h2⟩
 ·have : y * 2 ^ (64 - k) < 2 ^ k * 2 ^ (64 - k) := Nat.mul_lt_mul_of_pos_right h3 hp
  rw [← Nat.pow_add, show k + (64 - k) = 64 by omega, ← zaQ] at this
  exact this
 ·have : 2 ^ (k - 1) * 2 ^ (64 - k) ≤ y * 2 ^ (64 - k) := Nat.mul_le_mul h4 (Nat.le_refl _)
  rw [← Nat.pow_add, show k - 1 + (64 - k) = 63 by omega] at this
  have e : B64 = 2 * 2 ^ 63 := by decide
  rw [e]
  exact Nat.mul_le_mul (Nat.le_refl _) this
theorem ztd (y : Nat) (hy : y < B64) (h0 : y ≠ 0) : zan Tryz.prog 149 [.r (.v (.int .u64 (y : Int)))] [] (.r (.v (.int .i64 ((64 - bl y : Nat) : Int)))) [] := by
 have hb := (zlW y hy h0).2.2.2
 have e : ((64 - bl y : Nat) : Int) = 64 - (Lib.bitLen y : Int) := by rw [zqD y hy]; omega
 rw [e]
 refine zhi fun w => ?_
 have := Tryz.bits_LeadingZeros64 (y : Int) w (by omega) (by unfold B64 at hy; omega)
 rwa [Int.toNat_natCast] at this
theorem zrs (hi lo y : Nat) (hh : hi < y) (hlo : lo < B64) (hy : y < B64) :
  zan Tryz.prog 118 [.r (.v (.int .u64 (hi : Int))), .r (.v (.int .u64 (lo : Int))), .r (.v (.int .u64 (y : Int)))] [] (.tu [.r (.v (.int .u64 (((hi * B64 + lo) / y : Nat) : Int))), .r (.v (.int .u64 (((hi * B64 + lo) % y : Nat) : Int)))]) [] := by
 by_cases h0 : hi = 0
 ·subst h0
  rw [Nat.zero_mul, Nat.zero_add]
  exact zpJ lo y hlo hy (by omega)
 ·obtain ⟨a, b, c, _⟩ := zlW y hy (by omega)
  exact zrt hi lo y hh hlo hy h0 _ a b c (ztd y hy (by omega))
def dqL (V y t N : Nat) : List Nat := List.replicate t 0 ++ ws (V / y) (N - t)
theorem zru (xs : List Nat) (hw : Wds xs) (y t : Nat) (hy : 0 < y) (hyB : y < B64) (ht : t < xs.length) :
  (val (xs.drop (t + 1)) % y * B64 + xs.getD t 0) / y < B64 ∧
  (val (xs.drop (t + 1)) % y * B64 + xs.getD t 0) % y = val (xs.drop t) % y ∧
  (dqL (val (xs.drop (t + 1))) y (t + 1) xs.length).set t ((val (xs.drop (t + 1)) % y * B64 + xs.getD t 0) / y) = dqL (val (xs.drop t)) y t xs.length := by
 have hv := zfd xs t ht
 have hx := hw.get t
 have hr : val (xs.drop (t + 1)) % y < y := Nat.mod_lt _ hy
 have hd := Nat.mod_add_div (val (xs.drop (t + 1))) y
 unfold dqL
 rw [hv]
 generalize val (xs.drop (t + 1)) = V at *
 generalize xs.getD t 0 = x at *
 have e : x + B64 * V = (V % y * B64 + x) + y * (V / y * B64) := by
  conv => lhs; rw [← hd]
  rw [Nat.mul_add, Nat.mul_comm B64 (V % y), Nat.mul_comm B64 (y * _), Nat.mul_assoc]
  omega
 have hdg : (V % y * B64 + x) / y < B64 := by
  rw [Nat.div_lt_iff_lt_mul hy]
  have : (V % y + 1) * B64 ≤ y * B64 := Nat.mul_le_mul hr (Nat.le_refl _)
  rw [Nat.add_mul, Nat.one_mul] at this
  rw [Nat.mul_comm B64 y]
  omega
 refine ⟨hdg, by rw [e, Nat.add_mul_mod_self_left], ?_⟩
 have e2 : (x + B64 * V) / y = (V % y * B64 + x) / y + B64 * (V / y) := by
  rw [e, Nat.add_mul_div_left _ _ hy, Nat.mul_comm B64 (V / y)]
 rw [e2, show xs.length - t = (xs.length - (t + 1)) + 1 by omega, ws]
 generalize (V % y * B64 + x) / y = d at *
 rw [Nat.add_mul_mod_self_left, Nat.mod_eq_of_lt hdg, Nat.add_mul_div_left _ _ (by decide), Nat.div_eq_of_lt hdg, Nat.zero_add]
 rw [List.replicate_succ', List.append_assoc]
 rw [List.set_append]
 simp
def rd2S (xs ys ql : List Nat) (rr : Nat) (z : Int) : St := ⟨[(0, .r (.sl 1 (wns xs))), (1, .r (.sl 1 (wns ys))), (6, .ow 0), (7, .r (.v (.int .u64 (rr : Int)))), (8, .r (.v (.int .i64 z)))], [(0, some (.row 33 1 (wns ql)))], 1⟩
theorem zki (m y : Nat) (hm : m < B64 ^ 4) (hy : y < B64) (hy0 : y ≠ 0) : zan Tryz.prog 85 [.r (.sl 1 (wns (tw m))), .r (.sl 1 (wns (tw y)))] [] (.tu [.r (.sl 1 (wns (tw (m / y)))), .r (.sl 1 (wns (tw (m % y))))]) [] := by
 have hw := zbn m
 have hvm := za0 m
 have hlen := zbw 4 m hm
 have hmod : m % y < B64 := Nat.lt_trans (Nat.mod_lt _ (by omega)) hy
 have hfin : trim (dqL (val ((tw m).drop 0)) y 0 (tw m).length) = tw (m / y) := by
  have h1 := zfj _ hw
  rw [hvm] at h1
  have h2 : m / y < B64 ^ (tw m).length := Nat.lt_of_le_of_lt (Nat.div_le_self _ _) h1
  unfold dqL
  rw [List.drop_zero, hvm, List.replicate_zero, List.nil_append, Nat.sub_zero, zcK _ (zdp _ _), zcX _ _ h2]
 have hfin2 : val ((tw m).drop 0) % y = m % y := by rw [List.drop_zero, hvm]
 have hst := fun t ht => zru (tw m) hw y t (by omega) hy ht
 rw [ztH hy0 hy]
 generalize tw m = xs at *
 refine zan.freezeFF (T := 33) (T' := 33) ?_
 have hz : dqL (val (xs.drop xs.length)) y xs.length xs.length = List.replicate xs.length 0 := by
  unfold dqL
  rw [Nat.sub_self]
  show _ ++ [] = _
  rw [List.append_nil]
 have hz2 : val (xs.drop xs.length) % y = 0 := by rw [List.drop_length]; exact Nat.zero_mod _
 have l1 := zaW xs
 have l2 : (wns [y]).length = 1 := rfl
 have hrep : List.replicate (wns xs).length (List.map RV.v [Value.int IntKind.u64 0]) = wns (dqL (val (xs.drop xs.length)) y xs.length xs.length) := by
  rw [hz, l1]; unfold wns; rw [List.map_replicate]; rfl
 have hql : ∀ t, t ≤ xs.length → (dqL (val (xs.drop t)) y t xs.length).length = xs.length := fun t ht => by unfold dqL; rw [List.length_append, List.length_replicate, zbV]; omega
 have hd0 : IntKind.i64.wrap (((wns xs).length : Int) - 1) = (xs.length : Int) - 1 := by rw [l1, IntKind.wrap_i64]; omega
 refine zap Tryz.func85 rfl (Nat.le_of_ble_eq_true rfl) rfl rfl ?_
 (repeat' (first | refine zad ?_ | (refine zac (fun hb => ?_) (fun hb => ?_) <;> (try (exfalso; omega))) | fail))
 all_goals (first | (exfalso; omega) | skip)
 refine zas (fun t => rd2S xs [y] (dqL (val (xs.drop t)) y t xs.length) (val (xs.drop t) % y) ((t : Int) - 1)) (fun t => t ≤ xs.length) (fun t => t) xs.length (Nat.le_refl _) (by rw [hz2]; (refine Le.mk [(0,0)] [] zaj zao zaq zal)) fun t ht => ?_
 rcases t with _ | t
 ·have cA := zeK (dqL (val (xs.drop 0)) y 0 xs.length) (by rw [hql 0 (by omega)]; omega)
  have cB := zeK [val (xs.drop 0) % y] (by simp)
  rw [hfin] at cA
  rw [hfin2, zqu _ hmod] at cB
  rw [hfin2]
  change awp _ _ _ _ _ (rd2S xs [y] (dqL (val (xs.drop 0)) y 0 xs.length) (m % y) (-1))
  (repeat' (first | refine zad ?_ | (refine is_f 115 ?_; refine ze6 (cA) ?_) | (refine is_f 115 ?_; refine ze7 (cB) ?_) | (refine zac (fun hb => ?_) (fun hb => ?_) <;> (try (exfalso; omega))) | fail))
  all_goals (first | (exfalso; omega) | exact ret2 [] (.fr 1 _ _ _ rfl) (.fr 3 _ _ _ rfl) rfl rfl rfl rfl)
 ·obtain ⟨s1, s2, s3⟩ := hst t (by omega)
  have hql1 := hql (t + 1) ht
  have hr : val (xs.drop (t + 1)) % y < y := Nat.mod_lt _ (by omega)
  have hx := hw.get t
  have cD := zrs (val (xs.drop (t + 1)) % y) (xs.getD t 0) y hr hx hy
  have gx := zbh (l := xs) (i := t) (by omega)
  show awp _ _ _ _ _ (rd2S xs [y] (dqL (val (xs.drop (t + 1))) y (t + 1) xs.length) (val (xs.drop (t + 1)) % y) (((t + 1 : Nat) : Int) - 1))
  rw [show (((t + 1 : Nat) : Int) - 1) = (t : Int) by omega]
  generalize dqL (val (xs.drop (t + 1))) y (t + 1) xs.length = ql at s3 hql1 ⊢
  generalize val (xs.drop (t + 1)) % y = rr at s1 s2 s3 cD hr ⊢
  generalize (rr * B64 + xs.getD t 0) / y = d at s1 s3 cD
  generalize (rr * B64 + xs.getD t 0) % y = r2 at s2 cD
  have hE : (wns ql).set t [.v (.int .u64 ((d : Nat) : Int))] = wns (ql.set t d) := zcB ql _ _
  have l3 := zaW ql
  have gq := zbh (l := ql) (i := t) (by omega)
  have hdec : IntKind.i64.wrap ((t : Int) - 1) = (t : Int) - 1 := by rw [IntKind.wrap_i64]; omega
  clear hfin hfin2 hz hz2 hrep hst hql
  (repeat' (first | refine zad ?_ | (refine is_f 118 ?_; refine zaa (cD) ?_) | (refine zac (fun hb => ?_) (fun hb => ?_) <;> (try (exfalso; omega))) | fail))
  all_goals (first | (exfalso; omega) | exact ⟨t, by omega, by show Le _ _ (rd2S xs [y] (dqL (val (xs.drop t)) y t xs.length) (val (xs.drop t) % y) ((t : Int) - 1)); rw [← s3, ← s2]; (refine Le.mk [(0,0)] [] zaj zao zaq zal), by show t < t + 1; omega⟩)
theorem zsw (m X : Nat) (hX : 0 < X) : (m % (2 * X) < X → m % X = m % (2 * X) ∧ m / X = 2 * (m / (2 * X))) ∧ (X ≤ m % (2 * X) → m % X = m % (2 * X) - X ∧ m / X = 2 * (m / (2 * X)) + 1) := by
 have h1 := Nat.mod_add_div m (2 * X)
 have h2 : m % (2 * X) < 2 * X := Nat.mod_lt _ (by omega)
 generalize m % (2 * X) = R at *
 generalize m / (2 * X) = Q at *
 have e : m = R + X * (2 * Q) := by rw [← h1, Nat.mul_comm 2 X, Nat.mul_assoc]
 refine ⟨fun h => ?_, fun h => ?_⟩
 ·rw [e, Nat.add_mul_mod_self_left, Nat.add_mul_div_left _ _ hX, Nat.mod_eq_of_lt h, Nat.div_eq_of_lt h]
  exact ⟨rfl, by omega⟩
 ·have e2 : m = (R - X) + X * (2 * Q + 1) := by rw [e, Nat.mul_add, Nat.mul_one]; omega
  rw [e2, Nat.add_mul_mod_self_left, Nat.add_mul_div_left _ _ hX, Nat.mod_eq_of_lt (by omega), Nat.div_eq_of_lt (by omega)]
  exact ⟨rfl, by omega⟩
theorem zrg (K i N : Nat) (hN : (K * 2 ^ (i + 1) + 2 ^ i) < B64 ^ N) (hi : i / 64 < N) :
  (ws (K * 2 ^ (i + 1)) N).getD (i / 64) 0 % 2 ^ (i % 64 + 1) = 0 ∧ (ws (K * 2 ^ (i + 1)) N).getD (i / 64) 0 + 2 ^ (i % 64) < B64 ∧
  (ws (K * 2 ^ (i + 1)) N).set (i / 64) ((ws (K * 2 ^ (i + 1)) N).getD (i / 64) 0 + 2 ^ (i % 64)) = ws (K * 2 ^ (i + 1) + 2 ^ i) N := by
 have hr : i % 64 < 64 := Nat.mod_lt _ (by decide)
 have hi2 : i = 64 * (i / 64) + i % 64 := by omega
 generalize hw : i / 64 = w at *
 generalize hr2 : i % 64 = r at *
 have ei : 2 ^ i = B64 ^ w * 2 ^ r := by rw [hi2, Nat.pow_add, Nat.pow_mul, ← zaQ]
 have ei1 : 2 ^ (i + 1) = B64 ^ w * 2 ^ (r + 1) := by rw [hi2, Nat.add_assoc, Nat.pow_add, Nat.pow_mul, ← zaQ]
 have hp : 0 < B64 ^ w := Nat.pow_pos (by decide)
 have hb : B64 = 2 ^ (r + 1) * 2 ^ (63 - r) := by rw [← Nat.pow_add, show r + 1 + (63 - r) = 64 by omega, zaQ]
 have hg : (ws (K * 2 ^ (i + 1)) N).getD w 0 = K * 2 ^ (r + 1) % B64 := by
  rw [zgR _ _ _ hi]
  unfold wo
  rw [ei1, ← Nat.mul_assoc, Nat.mul_right_comm, Nat.mul_div_cancel _ hp]
 have hm : K * 2 ^ (r + 1) % B64 = 2 ^ (r + 1) * (K % 2 ^ (63 - r)) := by rw [hb, Nat.mul_comm K, Nat.mul_mod_mul_left]
 have hlt : K * 2 ^ (r + 1) % B64 + 2 ^ r < B64 := by
  rw [hm]
  have h1 : K % 2 ^ (63 - r) < 2 ^ (63 - r) := Nat.mod_lt _ (Nat.pow_pos (by decide))
  have h2 : 2 ^ (r + 1) * (K % 2 ^ (63 - r) + 1) ≤ 2 ^ (r + 1) * 2 ^ (63 - r) := Nat.mul_le_mul (Nat.le_refl _) h1
  rw [← hb, Nat.mul_add, Nat.mul_one] at h2
  have h3 : 2 ^ (r + 1) = 2 ^ r * 2 := Nat.pow_succ 2 r
  have h4 : 0 < 2 ^ r := Nat.pow_pos (by decide)
  generalize 2 ^ (r + 1) * (K % 2 ^ (63 - r)) = z at *
  generalize 2 ^ (r + 1) = y at *
  generalize 2 ^ r = x at *
  generalize B64 = q at *
  omega
 rw [hg]
 refine ⟨by rw [hm]; exact Nat.mul_mod_right _ _, hlt, ?_⟩
 have hW := zdp N (K * 2 ^ (i + 1))
 have hv := zdo (ws (K * 2 ^ (i + 1)) N) w (K * 2 ^ (r + 1) % B64 + 2 ^ r) (by rw [zbV]; exact hi)
 rw [hg, zcX _ _ (by omega), Nat.mul_add, ← ei] at hv
 have hv2 : val ((ws (K * 2 ^ (i + 1)) N).set w (K * 2 ^ (r + 1) % B64 + 2 ^ r)) = K * 2 ^ (i + 1) + 2 ^ i := by omega
 rw [← hv2]
 have := ziE _ (hW.set w hlt)
 rw [List.length_set, zbV] at this
 exact this.symm
theorem zsv (m b : Nat) (hb : b ≠ 0) (hle : bl b ≤ bl m) : m < b * 2 ^ (bl m - bl b + 1) := by
 have h1 := ziJ m
 have h2 := zjC b hb
 have h3 := zg0 hb
 have : 2 ^ (bl b - 1) * 2 ^ (bl m - bl b + 1) ≤ b * 2 ^ (bl m - bl b + 1) := Nat.mul_le_mul h2 (Nat.le_refl _)
 rw [← Nat.pow_add, show bl b - 1 + (bl m - bl b + 1) = bl m by omega] at this
 omega
section
variable {P : Program} {env : Nat → AV} {H : Nat → Option Blk} {d : Option Tmp} {ty : TypeId} {pos : String} {af : Array Edge} {g : Option (Nat × Bool)}
theorem zr7 (sz : Nat) {x : Operand} (hx : evA env x = .r (.v (.slice none 0 0))) : zax P ⟨d, .assign x, ty, pos, af, g⟩ env H [] (.r (.sl sz [])) := by
 refine ⟨fun i b h => by simp at h, fun i hi => by simp [AV.ids] at hi, fun a w Z M hr _ => ⟨a.eval x, rfl, ?_⟩⟩
 have h := hr x (by simp [Op.operands])
 rw [hx] at h
 simp only [AV.rep, RV.rep] at h ⊢
 exact ⟨none, 0, h, Nat.le_refl _, by unfold maxLen; omega, by simp, fun h => absurd rfl h⟩
end
theorem zqA (T : Nat) (l : List Nat) : (AV.fr T 1 (wns l)).vals := by
 simp only [AV.vals]
 intro e he x hx
 unfold wns at he
 obtain ⟨a, _, rfl⟩ := List.mem_map.1 he
 rw [List.mem_singleton] at hx
 subst hx
 exact ⟨_, rfl⟩
theorem zqv (m : Nat) : trim (tw m) = tw m := by rw [zcK _ (zbn m), za0]
def rd3S (ql : List Nat) (R D : Nat) (z : Int) : St := ⟨[(6, .ow 0), (9, .r (.sl 1 (wns (tw R)))), (11, .ow 1), (12, .r (.v (.int .i64 z)))], [(0, some (.row 33 1 (wns ql))), (1, some (.row 33 1 (wns (tw D))))], 2⟩
theorem zkj (m n : Nat) (hm : m < B64 ^ 4) (hn : n < B64 ^ 4) (hB : B64 ≤ n) : zan Tryz.prog 85 [.r (.sl 1 (wns (tw m))), .r (.sl 1 (wns (tw n)))] [] (.tu [.r (.sl 1 (wns (tw (m / n)))), .r (.sl 1 (wns (tw (m % n))))]) [] := by
 have hn0 : n ≠ 0 := by
  intro h
  rw [h] at hB
  exact absurd hB (by decide)
 have hlm := zbw 4 m hm
 have hln := zbw 4 n hn
 have hn1 : ¬ (tw n).length ≤ 1 := fun h => by
  have := zf1 1 n h
  rw [Nat.pow_one] at this
  omega
 have l1 := zaW (tw m)
 have l2 := zaW (tw n)
 have hz : ws 0 (tw m).length = List.replicate (tw m).length 0 := by
  have : ∀ k, ws 0 k = List.replicate k 0 := by
   intro k
   induction k with
   | zero => rfl
   | succ k ih => rw [ws, Nat.zero_div, ih, List.replicate_succ, Nat.zero_mod]
  exact this _
 have hrep : List.replicate (wns (tw m)).length (List.map RV.v [Value.int IntKind.u64 0]) = wns (ws 0 (tw m).length) := by
  rw [hz, l1]; unfold wns; rw [List.map_replicate]; rfl
 have cT := zeK (tw m) (by omega)
 rw [zqv] at cT
 have cS := zkk m (by omega)
 have cS2 := zkk n (by omega)
 have hbm : bl m ≤ 64 * (tw m).length := zce (by
  have := zfj (tw m) (zbn m)
  rw [za0, zaQ, ← Nat.pow_mul] at this
  exact this)
 have hbn : bl n ≤ 64 * 4 := zce (by
  have := hn
  rw [zaQ, ← Nat.pow_mul] at this
  exact this)
 by_cases hlt : bl m < bl n
 ·have hmn : m < n := by
   have h1 := ziJ m
   have h2 := zjC n hn0
   have h3 : 2 ^ bl m ≤ 2 ^ (bl n - 1) := Nat.pow_le_pow_right (by decide) (by omega)
   omega
  rw [Nat.div_eq_of_lt hmn, Nat.mod_eq_of_lt hmn, zcw]
  have hsub : IntKind.i64.wrap (((bl m : Nat) : Int) - ((bl n : Nat) : Int)) = ((bl m : Nat) : Int) - ((bl n : Nat) : Int) := by rw [IntKind.wrap_i64]; omega
  refine zap Tryz.func85 rfl (Nat.le_of_ble_eq_true rfl) rfl rfl ?_
  (repeat' (first | (first | refine zaH 12 ?_ | refine zaz 12 ?_) | refine zb9 ?_ | refine zaG ?_ | (refine is_f 115 ?_; refine ze7 (cT) ?_) | (refine is_f 119 ?_; refine zmh (cS) ?_) | (refine is_f 119 ?_; refine zaa (cS2) ?_) | (refine zac (fun hb => ?_) (fun hb => ?_) <;> (try (exfalso; omega))) | fail))
  all_goals (first | (exfalso; omega) | skip)
  refine halt ?_
  refine zdU ?_
  refine zdV ?_
  refine zeb ?_
  refine zag rfl (.inl ⟨rfl, rfl⟩) (zbB (out := .ow _) rfl) ?_
  refine zcV ?_
  refine zag rfl (.inl ⟨rfl, rfl⟩) (zr7 1 rfl) ?_
  (repeat' (first | refine zad ?_ | (refine zac (fun hb => ?_) (fun hb => ?_) <;> (try (exfalso; omega))) | fail))
  all_goals (first | (exfalso; omega) | exact ret2 [3] (.r _) (.fz 3 _ _ _ rfl (by simp)) rfl rfl rfl rfl)
 ·obtain ⟨N, hN⟩ : ∃ N, N = bl m - bl n := ⟨_, rfl⟩
  have hsub : IntKind.i64.wrap (((bl m : Nat) : Int) - ((bl n : Nat) : Int)) = ((N : Nat) : Int) := by rw [IntKind.wrap_i64]; omega
  have hini := zsv m n hn0 (by omega)
  rw [← hN] at hini
  have hN256 : N < 256 := by
   have := zg0 hn0
   omega
  have hNL : N < 64 * (tw m).length := by
   have := zg0 hn0
   omega
  have cU := zqd (tw n) (zbn n) (N / 64) (N % 64) (by omega) (by omega) (Nat.mod_lt _ (by decide))
  rw [show 64 * (N / 64) + N % 64 = N by omega, za0] at cU
  have hX4 : n * 2 ^ N < B64 ^ 4 := by
   have h1 := ziJ n
   have h2 : n * 2 ^ N < 2 ^ bl n * 2 ^ N := Nat.mul_lt_mul_of_pos_right h1 (Nat.pow_pos (by decide))
   rw [← Nat.pow_add] at h2
   have h3 : 2 ^ (bl n + N) ≤ 2 ^ (64 * 4) := Nat.pow_le_pow_right (by decide) (by omega)
   rw [zaQ, ← Nat.pow_mul]
   exact Nat.lt_of_lt_of_le h2 h3
  clear hbm hbn hlt hN hz
  have hmL : m < B64 ^ (tw m).length := by
   have := zfj (tw m) (zbn m)
   rwa [za0] at this
  obtain ⟨L, hL⟩ : ∃ L, L = (tw m).length := ⟨_, rfl⟩
  rw [← hL] at hrep hNL hmL l1 hlm
  refine zap Tryz.func85 rfl (Nat.le_of_ble_eq_true rfl) rfl rfl ?_
  (repeat' (first | refine zad ?_ | (refine is_f 115 ?_; refine ze7 (cT) ?_) | (refine is_f 119 ?_; refine zmh (cS) ?_) | (refine is_f 119 ?_; refine zaa (cS2) ?_) | (refine is_f 120 ?_; refine zaa (cU) ?_) | (refine zac (fun hb => ?_) (fun hb => ?_) <;> (try (exfalso; omega))) | fail))
  all_goals (first | (exfalso; omega) | skip)
  have e1 : m / (n * 2 ^ (N + 1)) * 2 ^ (N + 1) = 0 := by rw [Nat.div_eq_of_lt hini, Nat.zero_mul]
  have e2 : m % (n * 2 ^ (N + 1)) = m := Nat.mod_eq_of_lt hini
  have e3 : n * 2 ^ (N + 1) / 2 = n * 2 ^ N := by rw [Nat.pow_succ, ← Nat.mul_assoc]; exact Nat.mul_div_cancel _ (by decide)
  refine zas (fun t : Nat => rd3S (ws (m / (n * 2 ^ t) * 2 ^ t) L) (m % (n * 2 ^ t)) (n * 2 ^ t / 2) ((t : Int) - 1)) (fun t => t ≤ N + 1) (fun t => t) (N + 1) (Nat.le_refl _) (by
   have e4 : ((N + 1 : Nat) : Int) - 1 = (N : Int) := by omega
   show Le _ _ (rd3S (ws (m / (n * 2 ^ (N + 1)) * 2 ^ (N + 1)) L) (m % (n * 2 ^ (N + 1))) (n * 2 ^ (N + 1) / 2) (((N + 1 : Nat) : Int) - 1))
   rw [e1, e2, e3, e4]
   unfold rd3S
   rw [← hrep]
   (refine Le.mk [(0,0),(1,4)] [3] zaj zao zaq zal)) fun t ht => ?_
  clear cT cS cS2 cU hsub hini e1 e2 e3 hrep
  rcases t with _ | i
  ·have hw := zdp L (m / n)
   have cA := zeK (ws (m / n) L) (by rw [zbV]; omega)
   have hq : m / n < B64 ^ L := Nat.lt_of_le_of_lt (Nat.div_le_self _ _) hmL
   rw [zcK _ hw, zcX _ _ hq] at cA
   show awp _ _ _ _ _ (rd3S (ws (m / (n * 2 ^ 0) * 2 ^ 0) L) (m % (n * 2 ^ 0)) (n * 2 ^ 0 / 2) (-1))
   rw [Nat.pow_zero, Nat.mul_one, Nat.mul_one]
   (repeat' (first | refine zad ?_ | (refine is_f 115 ?_; refine ze6 (cA) ?_) | (refine zac (fun hb => ?_) (fun hb => ?_) <;> (try (exfalso; omega))) | fail))
   all_goals (first | (exfalso; omega) | exact ret2 [2] (.fz 2 _ _ _ rfl (by simp)) (.r _) rfl rfl rfl rfl)
  ·show awp _ _ _ _ _ (rd3S (ws (m / (n * 2 ^ (i + 1)) * 2 ^ (i + 1)) L) (m % (n * 2 ^ (i + 1))) (n * 2 ^ (i + 1) / 2) (((i + 1 : Nat) : Int) - 1))
   have hX : 0 < n * 2 ^ i := Nat.mul_pos (by omega) (Nat.pow_pos (by decide))
   have hsd := zsw m (n * 2 ^ i) hX
   have eX : n * 2 ^ (i + 1) = 2 * (n * 2 ^ i) := by rw [Nat.pow_succ, ← Nat.mul_assoc, Nat.mul_comm]
   have eD : n * 2 ^ (i + 1) / 2 = n * 2 ^ i := by rw [eX]; exact Nat.mul_div_cancel_left _ (by decide)
   have hbnd : m / (n * 2 ^ i) * 2 ^ i ≤ m := by
    have h1 : m / (n * 2 ^ i) * 2 ^ i ≤ m / (n * 2 ^ i) * (n * 2 ^ i) := Nat.mul_le_mul (Nat.le_refl _) (Nat.le_mul_of_pos_left _ (by omega))
    exact Nat.le_trans h1 (Nat.div_mul_le_self _ _)
   rw [eD, eX, show (((i + 1 : Nat) : Int) - 1) = (i : Int) by omega]
   have hRm : m % (2 * (n * 2 ^ i)) ≤ m := Nat.mod_le _ _
   have hR2 : m % (2 * (n * 2 ^ i)) < 2 * (n * 2 ^ i) := Nat.mod_lt _ (by omega)
   have hXle : n * 2 ^ i ≤ n * 2 ^ N := Nat.mul_le_mul (Nat.le_refl _) (Nat.pow_le_pow_right (by decide) (by omega))
   have hbit := zrg (m / (2 * (n * 2 ^ i))) i L
   generalize gX : n * 2 ^ i = X at *
   generalize n * 2 ^ N = XN at *
   have hlR := zbw 4 (m % (2 * X)) (by omega)
   have hlX := zbw 4 X (by omega)
   have cC := zer (m % (2 * X)) X (by omega) (by omega)
   have cH := zs5 (tw X) (zbn X) (by omega)
   rw [za0] at cH
   have hdec : IntKind.i64.wrap ((i : Int) - 1) = (i : Int) - 1 := by rw [IntKind.wrap_i64]; omega
   have hmX : m / X * 2 ^ i < B64 ^ L := by omega
   by_cases hc : m % (2 * X) < X
   ·obtain ⟨f1, f2⟩ := hsd.1 hc
    have hcm : cmpN (m % (2 * X)) X = -1 := if_pos hc
    rw [hcm] at cC
    have hQ : m / X * 2 ^ i = m / (2 * X) * 2 ^ (i + 1) := by rw [f2, Nat.pow_succ, Nat.mul_comm 2 (m / (2 * X)), Nat.mul_assoc, Nat.mul_comm 2 (2 ^ i)]
    obtain ⟨R, gR⟩ : ∃ R, m % X = R := ⟨_, rfl⟩
    obtain ⟨Q, gQ⟩ : ∃ Q, m / X * 2 ^ i = Q := ⟨_, rfl⟩
    rw [← hQ, ← f1, gR, gQ]
    rw [← f1, gR] at cC
    clear hsd hbit f1 f2 hQ eX eD hc hcm hmX hbnd
    (repeat' (first | refine zad ?_ | (refine is_f 82 ?_; refine zmf (cC) ?_) | (refine is_f 121 ?_; refine zmd (cH) ?_) | (refine zac (fun hb => ?_) (fun hb => ?_) <;> (try (exfalso; omega))) | fail))
    all_goals (first | (exfalso; omega) | skip)
    refine ⟨i, by omega, ?_, by show i < i + 1; omega⟩
    show Le _ _ (rd3S (ws (m / (n * 2 ^ i) * 2 ^ i) L) (m % (n * 2 ^ i)) (n * 2 ^ i / 2) ((i : Int) - 1))
    rw [gX, gR, gQ]
    (refine Le.mk [(0,0),(1,2)] [] zaj zao zaq zal)
   ·obtain ⟨f1, f2⟩ := hsd.2 (by omega)
    have hcm : cmpN (m % (2 * X)) X = 0 ∨ cmpN (m % (2 * X)) X = 1 := by
     unfold cmpN
     rw [if_neg hc]
     split
     ·exact .inr rfl
     ·exact .inl rfl
    have hQ : m / X * 2 ^ i = m / (2 * X) * 2 ^ (i + 1) + 2 ^ i := by rw [f2, Nat.pow_succ, Nat.add_mul, Nat.one_mul, Nat.mul_comm 2 (m / (2 * X)), Nat.mul_assoc, Nat.mul_comm 2 (2 ^ i)]
    have cB := zkl (tw (m % (2 * X))) (tw X) (zbn _) (zbn _) (by omega) (zeL (by omega)) (by rw [za0, za0]; omega)
    rw [za0, za0, ← f1] at cB
    rw [hQ] at hmX
    obtain ⟨b1, b2, b3⟩ := hbit hmX (by omega)
    have gQ : ws (m / X * 2 ^ i) L = ws (m / (2 * X) * 2 ^ (i + 1) + 2 ^ i) L := by rw [hQ]
    rw [← b3] at gQ
    obtain ⟨R2, gR⟩ : ∃ R, m % X = R := ⟨_, rfl⟩
    rw [gR] at cB
    have hw : i / 64 < L := by omega
    have hp : 2 ^ (i % 64) < B64 := by
     rw [zaQ]
     exact Nat.pow_lt_pow_right (by decide) (Nat.mod_lt _ (by decide))
    have s1 : IntKind.u64.wrap (1 * 2 ^ (min (Int.toNat ((i % 64 : Nat) : Int)) IntKind.u64.bits)) = ((2 ^ (i % 64) : Nat) : Int) := by
     have := zcI 1 (i % 64) (Nat.mod_lt _ (by decide))
     rw [Nat.one_mul, Nat.mod_eq_of_lt hp] at this
     exact this
    have s2 := zfh _ (2 ^ (i % 64)) (i % 64 + 1) b1 (Nat.pow_lt_pow_right (by decide) (by omega)) b2
    have q1 : IntKind.i64.wrap (Int.tdiv (i : Int) 64) = ((i / 64 : Nat) : Int) := by rw [IntKind.wrap_i64, Int.tdiv_eq_ediv_of_nonneg (by omega)]; omega
    have q2 : Int.tmod (i : Int) 64 = ((i % 64 : Nat) : Int) := by rw [Int.tmod_eq_emod_of_nonneg (by omega)]; omega
    have q3 : IntKind.u64.wrap ((i % 64 : Nat) : Int) = ((i % 64 : Nat) : Int) := by rw [IntKind.wrap_u64]; omega
    have hwl := zbV L (m / (2 * X) * 2 ^ (i + 1))
    clear hsd hbit f1 f2 hQ eX eD b1 b2 b3 hp hmX hbnd
    generalize ws (m / (2 * X) * 2 ^ (i + 1)) L = ql at *
    generalize m % (2 * X) = R at *
    generalize cmpN R X = cv at *
    generalize i % 64 = r at *
    generalize i / 64 = w at *
    generalize 2 ^ r = bt at *
    have gq := zbh (l := ql) (i := w) (by omega)
    have l3 := zaW ql
    generalize ql.getD w 0 = x at *
    have hE : (wns ql).set w [.v (.int .u64 ((x + bt : Nat) : Int))] = wns (ql.set w (x + bt)) := zcB ql _ _
    (repeat' (first | refine zad ?_ | (refine is_f 82 ?_; refine zmf (cC) ?_) | (refine zac (fun hb => ?_) (fun hb => ?_) <;> (try (exfalso; omega))) | fail))
    all_goals (first | (exfalso; omega) | skip)
    refine is_f 87 ?_
    refine zeO [1] [(1, _)] cB (.cons _ _ _ _ (.r _) (.cons _ _ _ _ (.fz 1 _ _ _ rfl (by simp)) .nil)) (by kernel_rfl) (by intro g h; rw [List.mem_singleton] at h; subst h; exact ⟨_, List.mem_cons_self, rfl⟩) (by intro i b h; rw [List.mem_singleton] at h; injection h with h1 h2; subst h1 h2; rfl) (.inr (zqA _ _)) rfl rfl rfl (.inl ⟨rfl, rfl⟩) ?_
    (repeat' (first | refine zad ?_ | (refine is_f 121 ?_; refine zmd (cH) ?_) | (refine zac (fun hb => ?_) (fun hb => ?_) <;> (try (exfalso; omega))) | fail))
    all_goals (first | (exfalso; omega) | skip)
    refine ⟨i, by omega, ?_, by show i < i + 1; omega⟩
    show Le _ _ (rd3S (ws (m / (n * 2 ^ i) * 2 ^ i) L) (m % (n * 2 ^ i)) (n * 2 ^ i / 2) ((i : Int) - 1))
    rw [gX, gR, gQ]
    (refine Le.mk [(0,0),(1,3)] [2] zaj zao zaq zal)
theorem zlk (m n : Nat) (hm : m < B64 ^ 4) (hn : n < B64 ^ 4) (hn0 : n ≠ 0) : zan Tryz.prog 85 [.r (.sl 1 (wns (tw m))), .r (.sl 1 (wns (tw n)))] [] (.tu [.r (.sl 1 (wns (tw (m / n)))), .r (.sl 1 (wns (tw (m % n))))]) [] := by
 rcases Nat.lt_or_ge n B64 with h | h
 ·exact zki m n hm h hn0
 ·exact zkj m n hm hn h
theorem zmZ (m n : Nat) (hm : m < B64 ^ 4) (hn : n < B64 ^ 4) (hn0 : n ≠ 0) : zan Tryz.prog 49 [wz (m : Int), wz (n : Int)] [] (.tu [wz ((m / n : Nat) : Int), wz ((m % n : Nat) : Int), .r (.v (.bool true))]) [] :=
 zm0 m n hm hn hn0 (zlk m n hm hn hn0)
theorem zmc (m0 n0 : Nat) (hm0 : m0 < B64 ^ 4) (hn0 : n0 < B64 ^ 4) : zan Tryz.prog 47 [wz (m0 : Int), wz (n0 : Int)] [] (wz ((Nat.gcd m0 n0 : Nat) : Int)) [] := by
 rw [zat, zat, zat]
 refine zap Tryz.func47 rfl (Nat.le_of_ble_eq_true rfl) rfl rfl ?_
 (repeat' (first | refine zad ?_ | (refine zac (fun hb => ?_) (fun hb => ?_) <;> (try (exfalso; omega))) | fail))
 refine zas (fun x : Nat × Nat => dgS x.1 x.2) (fun x => Nat.gcd x.1 x.2 = Nat.gcd m0 n0 ∧ x.1 < B64 ^ 4 ∧ x.2 < B64 ^ 4) (fun x => x.2) (m0, n0) ⟨rfl, hm0, hn0⟩ (by (refine Le.mk [(0,0),(1,1),(2,2)] [] zaj zao zaq zal)) fun z hz => ?_
 obtain ⟨m, n⟩ := z
 obtain ⟨hgz, hm4, hn4⟩ := hz
 dsimp only at hgz hm4 hn4
 have cS := zdj (n : Int) (za7 hn4)
 rw [zat] at cS
 change awp _ _ _ _ _ (dgS m n)
 by_cases h0 : n = 0
 ·subst h0
  rw [Nat.gcd_zero_right] at hgz
  rw [← hgz]
  rw [show sgZ ((0 : Nat) : Int) = 0 from rfl] at cS
  (repeat' (first | refine zad ?_ | (refine is_f 46 ?_; refine zaa (cS) ?_) | (refine zac (fun hb => ?_) (fun hb => ?_) <;> (try (exfalso; omega))) | fail))
  all_goals (first | (exfalso; omega) | exact absurd rfl hb | exact zbO [] (Rt.wd false m) rfl rfl rfl rfl (zak rfl) rfl)
 ·have hs : ¬ sgZ (n : Int) = 0 := by unfold sgZ; rw [if_neg (by omega), if_neg (by omega)]; omega
  generalize sgZ (n : Int) = sg at *
  by_cases hsm : m < B64 ∧ n < B64
  ·obtain ⟨hm, hn⟩ := hsm
   have u1 := zej m hm
   have u2 := zej n hn
   rw [zat] at u1 u2
   have cU := fun x hx => zqW x hx
   (repeat' (first | refine zad ?_ | (refine is_f 46 ?_; refine zaa (cS) ?_) | (refine is_f 83 ?_; refine zaa (u1) ?_) | (refine is_f 83 ?_; refine zaa (u2) ?_) | (refine zac (fun hb => ?_) (fun hb => ?_) <;> (try (exfalso; omega))) | fail))
   all_goals (first | (exfalso; omega) | skip)
   refine zas (fun x : Nat × Nat => rgI m n x.1 x.2) (fun x => Nat.gcd x.1 x.2 = Nat.gcd m0 n0 ∧ x.1 < B64 ∧ x.2 < B64) (fun x => x.2) (m, n) ⟨hgz, hm, hn⟩ (by (refine Le.mk [(0,0),(1,1),(2,2)] [] zaj zao zaq zal)) fun x hx => ?_
   obtain ⟨x, y⟩ := x
   obtain ⟨hx1, hx2, hx3⟩ := hx
   dsimp only at hx1 hx2 hx3
   change awp _ _ _ _ _ (rgI m n x y)
   by_cases hy0 : y = 0
   ·subst hy0
    rw [Nat.gcd_zero_right] at hx1
    rw [← hx1]
    have cU := cU x hx2
    rw [zat] at cU
    (repeat' (first | refine zad ?_ | (refine is_f 84 ?_; refine zaa (cU) ?_) | (refine zac (fun hb => ?_) (fun hb => ?_) <;> (try (exfalso; omega))) | fail))
    all_goals (first | (exfalso; omega) | exact absurd rfl hb | exact zbO [] (Rt.wd false x) rfl rfl rfl rfl (zak rfl) rfl)
   ·have hrem := zmo x y
    have hlt := Nat.mod_lt x (Nat.pos_of_ne_zero hy0)
    have hg : Nat.gcd y (x % y) = Nat.gcd m0 n0 := by rw [← hx1, Nat.gcd_comm x y, Nat.gcd_rec y x, Nat.gcd_comm]
    have hyi : (y : Int) ≠ 0 := by omega
    clear cU
    generalize x % y = r at *
    (repeat' (first | refine zad ?_ | (refine zac (fun hb => ?_) (fun hb => ?_) <;> (try (exfalso; omega))) | fail))
    all_goals (first | (exfalso; omega) | exact ⟨(y, r), ⟨hg, hx3, by show r < B64; omega⟩, by show Le _ _ (rgI m n y r); (refine Le.mk [(0,0),(1,1),(2,2)] [] zaj zao zaq zal), by show r < y; omega⟩)
  ·obtain ⟨v1, b1, u1, v2, b2, u2, hbb⟩ : ∃ (v1 : Int) (b1 : Bool) (_ : zan Tryz.prog 83 [wz (m : Int)] [] (.tu [.r (.v (.int .u64 v1)), .r (.v (.bool b1))]) []) (v2 : Int) (b2 : Bool) (_ : zan Tryz.prog 83 [wz (n : Int)] [] (.tu [.r (.v (.int .u64 v2)), .r (.v (.bool b2))]) []), b1 = false ∨ b1 = true ∧ b2 = false := by
    rcases Nat.lt_or_ge m B64 with h1 | h1
    ·refine ⟨_, _, zej m h1, _, _, zdt n (by omega) hn4, .inr ⟨rfl, rfl⟩⟩
    ·rcases Nat.lt_or_ge n B64 with h2 | h2
     ·exact ⟨_, _, zdt m h1 hm4, _, _, zej n h2, .inl rfl⟩
     ·exact ⟨_, _, zdt m h1 hm4, _, _, zdt n h2 hn4, .inl rfl⟩
   have cD := zmZ m n hm4 hn4 h0
   have hlt := Nat.mod_lt m (Nat.pos_of_ne_zero h0)
   have hg : Nat.gcd n (m % n) = Nat.gcd m0 n0 := by rw [← hgz, Nat.gcd_comm m n, Nat.gcd_rec n m, Nat.gcd_comm]
   have hr4 : m % n < B64 ^ 4 := Nat.lt_trans hlt hn4
   rw [zat] at u1 u2
   rw [zat, zat, zat, zat] at cD
   clear hgz hm0 hn0
   generalize m % n = r at *
   generalize m / n = q at *
   rcases hbb with rfl | ⟨rfl, rfl⟩
   ·(repeat' (first | refine zad ?_ | (refine is_f 46 ?_; refine zaa (cS) ?_) | (refine is_f 83 ?_; refine zaa (u1) ?_) | (refine is_f 83 ?_; refine zaa (u2) ?_) | (refine is_f 49 ?_; refine zaa (cD) ?_) | (refine zac (fun hb => ?_) (fun hb => ?_) <;> (try (exfalso; omega))) | fail))
    all_goals (first | (exfalso; omega) | exact absurd rfl hb | exact ⟨(n, r), ⟨hg, hn4, hr4⟩, by show Le _ _ (dgS n r); (refine Le.mk [(0,0),(1,1),(2,2)] [] zaj zao zaq zal), hlt⟩)
   ·(repeat' (first | refine zad ?_ | (refine is_f 46 ?_; refine zaa (cS) ?_) | (refine is_f 83 ?_; refine zaa (u1) ?_) | (refine is_f 83 ?_; refine zaa (u2) ?_) | (refine is_f 49 ?_; refine zaa (cD) ?_) | (refine zac (fun hb => ?_) (fun hb => ?_) <;> (try (exfalso; omega))) | fail))
    all_goals (first | (exfalso; omega) | exact absurd rfl hb | exact ⟨(n, r), ⟨hg, hn4, hr4⟩, by show Le _ _ (dgS n r); (refine Le.mk [(0,0),(1,1),(2,2)] [] zaj zao zaq zal), hlt⟩)
end Go.Proofs.YtibedaeefnjjlaaGreat
