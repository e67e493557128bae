/- Texts of the second layer in one: Wr4 Wr8 Dv0 Dv1. -/
import Derived.Test.YtibedaeefnjjlaaGreatG21
import Derived.Test.YtibedaeefnjjlaaGreatG22
import Derived.Test.YtibedaeefnjjlaaGreatG10
import Derived.Test.YtibedaeefnjjlaaGreatG11
import Derived.Test.YtibedaeefnjjlaaGreatG6
set_option maxHeartbeats 8000000
set_option maxRecDepth 100000
set_option linter.unusedVariables false
set_option linter.unusedSimpArgs false
namespace Go.Proofs.YtibedaeefnjjlaaGreat
open Go.RowKit Go.Ab Go.Wd
theorem zgR : ∀ (m k p : Nat), p < k → (ws m k).getD p 0 = wo m p
 | m, 0, p, h => by omega
 | m, k + 1, 0, h => by rw [ws, wo0]; rfl
 | m, k + 1, p + 1, h => by
  rw [ws, List.getD_cons_succ, zgR (m / B64) k p (by omega)]
  unfold wo
  rw [Nat.pow_succ, Nat.mul_comm, Nat.div_div_eq_div_mul]
theorem zqz (a : List Nat) (hw : Wds a) (w r i N : Nat) (hr : r < 64) (hi : i < a.length) (hN : a.length + w < N) :
  ∃ c lo hi2 : Nat, c < 2 ^ r ∧ lo = a.getD i 0 * 2 ^ r % B64 ∧ lo % 2 ^ r = 0 ∧ c + lo < B64 ∧ hi2 = a.getD i 0 / 2 ^ (64 - r) ∧ hi2 < B64 ∧ (r = 0 → hi2 = 0) ∧
   (ws (val (a.take i) * 2 ^ (64 * w + r)) N).getD (i + w) 0 = c ∧ (ws (val (a.take i) * 2 ^ (64 * w + r)) N).getD (i + w + 1) 0 = 0 ∧
   ((ws (val (a.take i) * 2 ^ (64 * w + r)) N).set (i + w) (c + lo)).set (i + w + 1) hi2 = ws (val (a.take (i + 1)) * 2 ^ (64 * w + r)) N := by
 have hx := hw.get i
 have hV := zfF a hw i (by omega)
 have hV2 := zcy a i hi
 have ep : 2 ^ (64 * w + r) = B64 ^ w * 2 ^ r := by rw [Nat.pow_add, Nat.pow_mul, ← zaQ]
 obtain ⟨s, hs⟩ : ∃ s, s = 64 - r := ⟨_, rfl⟩
 have hb : B64 = 2 ^ s * 2 ^ r := by rw [zaQ, ← Nat.pow_add]; congr 1; omega
 have hps : 0 < 2 ^ s := Nat.pow_pos (by decide)
 have hpr : 0 < 2 ^ r := Nat.pow_pos (by decide)
 have hr0 : r = 0 → 2 ^ s = B64 := fun h => by rw [hs, h, ← zaQ]
 rw [← hs]
 have hbw : 0 < B64 ^ w := Nat.pow_pos (by decide)
 have hbi : 0 < B64 ^ i := Nat.pow_pos (by decide)
 generalize val (a.take i) = V at *
 generalize val (a.take (i + 1)) = V2 at *
 generalize a.getD i 0 = x at *
 generalize 2 ^ r = R at *
 generalize 2 ^ s = S at *
 rw [ep]
 -- M = V * (B^w * R) < B^(i+w) * R
 obtain ⟨M, hM⟩ : ∃ M, M = V * (B64 ^ w * R) := ⟨_, rfl⟩
 have hMlt : M < B64 ^ (i + w) * R := by
  have : V * (B64 ^ w * R) < B64 ^ i * (B64 ^ w * R) := Nat.mul_lt_mul_of_pos_right hV (Nat.mul_pos hbw hpr)
  rw [hM, Nat.pow_add, Nat.mul_assoc]; exact this
 have hpp : 0 < B64 ^ (i + w) := Nat.pow_pos (by decide)
 have hc : M / B64 ^ (i + w) < R := by rw [Nat.div_lt_iff_lt_mul hpp, Nat.mul_comm]; exact hMlt
 have hRB : R ≤ B64 := by rw [hb]; exact Nat.le_mul_of_pos_left R hps
 have hlo : x * R % B64 = R * (x % S) := by rw [hb, Nat.mul_comm x R, Nat.mul_comm S R, Nat.mul_mod_mul_left]
 have hcl : M / B64 ^ (i + w) + x * R % B64 < B64 := by
  rw [hlo]
  have h1 : x % S < S := Nat.mod_lt _ hps
  have h2 : R * (x % S + 1) ≤ R * S := Nat.mul_le_mul (Nat.le_refl _) h1
  have hRS : R * S = B64 := by rw [hb, Nat.mul_comm]
  rw [Nat.mul_add, hRS] at h2
  generalize M / B64 ^ (i + w) = c at hc ⊢
  generalize R * (x % S) = d at h2 ⊢
  omega
 have hsum : x * R = x * R % B64 + B64 * (x / S) := by
  have h1 := Nat.mod_add_div x S
  rw [hlo, show B64 = R * S by rw [hb, Nat.mul_comm], Nat.mul_assoc, ← Nat.mul_add, h1, Nat.mul_comm]
 have hwoP : (ws M N).getD (i + w) 0 = M / B64 ^ (i + w) := by
  rw [zgR M N (i + w) (by omega)]
  exact Nat.mod_eq_of_lt (by omega)
 have hwoQ : (ws M N).getD (i + w + 1) 0 = 0 := by
  rw [zgR M N (i + w + 1) (by omega)]
  refine zem ?_
  rw [Nat.pow_succ]
  exact Nat.lt_of_lt_of_le hMlt (Nat.mul_le_mul (Nat.le_refl _) hRB)
 have hMN : M < B64 ^ N := by
  have h1 : B64 ^ (i + w) * R ≤ B64 ^ (i + w) * B64 := Nat.mul_le_mul (Nat.le_refl _) hRB
  rw [← Nat.pow_succ] at h1
  have h2 : B64 ^ (i + w).succ ≤ B64 ^ N := Nat.pow_le_pow_right (by decide) (by omega)
  omega
 rw [← hM]
 refine ⟨M / B64 ^ (i + w), x * R % B64, x / S, hc, rfl, by rw [hlo, Nat.mul_mod_right], hcl, rfl, Nat.lt_of_le_of_lt (Nat.div_le_self _ _) hx, fun h => by rw [hr0 h]; exact Nat.div_eq_of_lt hx, hwoP, hwoQ, ?_⟩
 have hws1 : Wds (((ws M N).set (i + w) (M / B64 ^ (i + w) + x * R % B64)).set (i + w + 1) (x / S)) :=
  ((zdp N M).set _ hcl).set _ (Nat.lt_of_le_of_lt (Nat.div_le_self _ _) hx)
 have hv1 := zdo (ws M N) (i + w) (M / B64 ^ (i + w) + x * R % B64) (by rw [zbV]; omega)
 have hv2 := zdo ((ws M N).set (i + w) (M / B64 ^ (i + w) + x * R % B64)) (i + w + 1) (x / S) (by rw [List.length_set, zbV]; omega)
 have hg2 : ((ws M N).set (i + w) (M / B64 ^ (i + w) + x * R % B64)).getD (i + w + 1) 0 = 0 := by
  have h1 : ((ws M N).set (i + w) (M / B64 ^ (i + w) + x * R % B64))[i + w + 1]? = (ws M N)[i + w + 1]? := List.getElem?_set_ne (by omega)
  rw [List.getD_eq_getElem?_getD, h1, ← List.getD_eq_getElem?_getD]
  exact hwoQ
 rw [hg2, Nat.mul_zero, Nat.add_zero] at hv2
 rw [hwoP, zcX N M hMN, Nat.mul_add] at hv1
 have hfin : val (((ws M N).set (i + w) (M / B64 ^ (i + w) + x * R % B64)).set (i + w + 1) (x / S)) = V2 * (B64 ^ w * R) := by
  have e1 : B64 ^ i * x * (B64 ^ w * R) = B64 ^ (i + w) * (x * R) := by
   rw [Nat.pow_add]; simp only [Nat.mul_assoc, Nat.mul_comm, Nat.mul_left_comm]
  have h3 : B64 ^ (i + w) * (x * R) = B64 ^ (i + w) * (x * R % B64) + B64 ^ (i + w) * (B64 * (x / S)) := by rw [← Nat.mul_add, ← hsum]
  have h4 : B64 ^ (i + w + 1) * (x / S) = B64 ^ (i + w) * (B64 * (x / S)) := by rw [Nat.pow_succ, Nat.mul_assoc]
  rw [hV2, Nat.add_mul, ← hM, e1, h3]
  omega
 have := ziE _ hws1
 rw [hfin, List.length_set, List.length_set, zbV] at this
 exact this.symm
def ruS (a l : List Nat) (k i : Nat) : St := ⟨[(0, .r (.sl 1 (wns a))), (1, .r (.v (.int .i64 (k : Int)))), (5, .ow 0), (6, .r (.v (.int .i64 (i : Int))))], [(0, some (.row 33 1 (wns l)))], 1⟩
theorem zqd (a : List Nat) (hw : Wds a) (w r : Nat) (hla : a.length ≤ 100) (hw100 : w ≤ 100) (hr : r < 64) : zan Tryz.prog 120 [.r (.sl 1 (wns a)), .r (.v (.int .i64 ((64 * w + r : Nat) : Int)))] [] (.fr 33 1 (wns (tw (val a * 2 ^ (64 * w + r))))) [] := by
 have hround := fun i hi => zqz a hw w r i (a.length + w + 1) hr hi (by omega)
 have hq : IntKind.i64.wrap (Int.tdiv ((64 * w + r : Nat) : Int) 64) = (w : Int) := by rw [IntKind.wrap_i64, Int.tdiv_eq_ediv_of_nonneg (by omega)]; omega
 have hrem : Int.tmod ((64 * w + r : Nat) : Int) 64 = (r : Int) := by rw [Int.tmod_eq_emod_of_nonneg (by omega)]; omega
 have hz : ws (val (a.take 0) * 2 ^ (64 * w + r)) (a.length + w + 1) = List.replicate (a.length + w + 1) 0 := by
  rw [List.take_zero]
  show ws (0 * _) _ = _
  rw [Nat.zero_mul]
  have : ∀ k, ws 0 k = List.replicate k 0 := by
   intro k
   induction k with
   | zero => rfl
   | succ k ih => rw [ws, Nat.zero_div, ih, List.replicate_succ, Nat.zero_mod]
  exact this _
 have hfin : trim (ws (val (a.take a.length) * 2 ^ (64 * w + r)) (a.length + w + 1)) = tw (val a * 2 ^ (64 * w + r)) := by
  rw [zcK _ (zdp _ _), List.take_length, zcX]
  have h1 := zfj a hw
  have h2 : 2 ^ (64 * w + r) ≤ 2 ^ (64 * (w + 1)) := Nat.pow_le_pow_right (by decide) (by omega)
  rw [Nat.pow_mul, ← zaQ] at h2
  have h3 : val a * 2 ^ (64 * w + r) ≤ val a * B64 ^ (w + 1) := Nat.mul_le_mul (Nat.le_refl _) h2
  have h4 : val a * B64 ^ (w + 1) < B64 ^ a.length * B64 ^ (w + 1) := Nat.mul_lt_mul_of_pos_right h1 (Nat.pow_pos (by decide))
  rw [← Nat.pow_add, ← Nat.add_assoc] at h4
  omega
 rw [← hfin]
 clear hfin
 have l1 := zaW a
 have s1 := zds a.length w (by omega)
 have s2 := zaT (a.length + w) (by omega)
 rw [← l1] at s1 s2
 have hrep : List.replicate ((wns a).length + w + 1) (List.map RV.v [Value.int IntKind.u64 0]) = wns (List.replicate (a.length + w + 1) 0) := by
  rw [l1]; unfold wns; rw [List.map_replicate]; rfl
 have cT := zeK (ws (val (a.take a.length) * 2 ^ (64 * w + r)) (a.length + w + 1)) (by rw [zbV]; omega)
 obtain ⟨f, hf⟩ : ∃ f : Nat → List Nat, f = fun i => ws (val (a.take i) * 2 ^ (64 * w + r)) (a.length + w + 1) := ⟨_, rfl⟩
 have hfl : ∀ i, (f i).length = a.length + w + 1 := fun i => by rw [hf]; exact zbV _ _
 have hround2 : ∀ i, i < a.length → ∃ c lo hi2 : Nat, c < 2 ^ r ∧ lo = a.getD i 0 * 2 ^ r % B64 ∧ lo % 2 ^ r = 0 ∧ c + lo < B64 ∧ hi2 = a.getD i 0 / 2 ^ (64 - r) ∧ hi2 < B64 ∧ (r = 0 → hi2 = 0) ∧ (f i).getD (i + w) 0 = c ∧ (f i).getD (i + w + 1) 0 = 0 ∧ ((f i).set (i + w) (c + lo)).set (i + w + 1) hi2 = f (i + 1) := by rw [hf]; exact hround
 have cT2 : zan Tryz.prog 115 [.ow 0] [.row 33 1 (wns (f a.length))] (.fr 33 1 (wns (trim (f a.length)))) [none] := by rw [hf]; exact cT
 have hz2 : f 0 = List.replicate (a.length + w + 1) 0 := by rw [hf]; exact hz
 have hres : ws (val (a.take a.length) * 2 ^ (64 * w + r)) (a.length + w + 1) = f a.length := by rw [hf]
 rw [hres]
 clear hf hres hround cT hz
 generalize 64 * w + r = k at *
 refine zap Tryz.func120 rfl (Nat.le_of_ble_eq_true rfl) rfl rfl ?_
 (repeat' (first | refine zad ?_ | (refine zac (fun hb => ?_) (fun hb => ?_) <;> (try (exfalso; omega))) | fail))
 refine zas (fun x : Nat × List Nat => ruS a x.2 k x.1) (fun x => x.1 ≤ a.length ∧ x.2 = f x.1) (fun x => a.length - x.1) (0, List.replicate (a.length + w + 1) 0) ⟨Nat.zero_le _, hz2.symm⟩ (by (refine Le.mk [(0,0)] [] zaj zao zaq zal)) fun x hx => ?_
 obtain ⟨i, l⟩ := x
 obtain ⟨hx1, hx2⟩ := hx
 dsimp only at hx1 hx2
 change awp _ _ _ _ _ (ruS a l k i)
 rcases Nat.lt_or_ge i a.length with hi | hi
 ·obtain ⟨c, lo, hi2, q1, q2, q3, q4, q5, q6, q7, q8, q9, q10⟩ := hround2 i hi
  have hll : l.length = a.length + w + 1 := by rw [hx2]; exact hfl i
  rw [← hx2] at q8 q9 q10
  have l3 := zaW l
  have ga := zbh (l := a) (i := i) hi
  have g1 := zbh (l := l) (i := i + w) (by omega)
  rw [q8] at g1
  have c1 := zcI (a.getD i 0) r hr
  rw [← q2] at c1
  have hor := zhk c lo r q3 q1 q4
  obtain ⟨s, hs⟩ : ∃ s, s = 64 - r := ⟨_, rfl⟩
  have hsr : IntKind.i64.wrap (64 - (r : Int)) = (s : Int) := by rw [IntKind.wrap_i64]; omega
  have c2 := zdA (a.getD i 0) s (by omega)
  rw [hs, ← q5, ← hs] at c2
  have hor2 := zfh 0 hi2 64 rfl (by rw [← zaQ]; exact q6) (by omega)
  rw [Nat.zero_add] at hor2
  have hinc : IntKind.i64.wrap ((i : Int) + 1) = ((i + 1 : Nat) : Int) := zaT i (by omega)
  have hiw := zds i w (by omega)
  have hiw1 := zaT (i + w) (by omega)
  have cv1 : IntKind.u64.wrap (r : Int) = (r : Int) := by rw [IntKind.wrap_u64]; omega
  have cv2 : IntKind.u64.wrap (s : Int) = (s : Int) := by rw [IntKind.wrap_u64]; omega
  have hE1 : (wns l).set (i + w) [.v (.int .u64 ((c + lo : Nat) : Int))] = wns (l.set (i + w) (c + lo)) := zcB l _ _
  have g2 : (wns (l.set (i + w) (c + lo)))[i + w + 1]? = some [.v (.int .u64 (0 : Nat))] := by
   rw [zbh (by rw [List.length_set]; omega)]
   have : (l.set (i + w) (c + lo)).getD (i + w + 1) 0 = 0 := by
    have h1 : (l.set (i + w) (c + lo))[i + w + 1]? = l[i + w + 1]? := List.getElem?_set_ne (by omega)
    rw [List.getD_eq_getElem?_getD, h1, ← List.getD_eq_getElem?_getD]
    exact q9
   rw [this]
  have l4 : (wns (l.set (i + w) (c + lo))).length = a.length + w + 1 := by rw [zaW, List.length_set]; exact hll
  have hE2 : (wns (l.set (i + w) (c + lo))).set (i + w + 1) [.v (.int .u64 ((hi2 : Nat) : Int))] = wns ((l.set (i + w) (c + lo)).set (i + w + 1) hi2) := zcB _ _ _
  rw [← hE1] at g2 l4 hE2
  have hsmall : i + w + 1 < a.length + w + 1 := by omega
  by_cases hr0 : r = 0
  ·have e : l.set (i + w) (c + lo) = f (i + 1) := by
    rw [← q10, q7 hr0]
    have : (l.set (i + w) (c + lo)).getD (i + w + 1) 0 = 0 := by
     have h1 : (l.set (i + w) (c + lo))[i + w + 1]? = l[i + w + 1]? := List.getElem?_set_ne (by omega)
     rw [List.getD_eq_getElem?_getD, h1, ← List.getD_eq_getElem?_getD]
     exact q9
    apply List.ext_getElem?
    intro p
    by_cases hp : p = i + w + 1
    ·subst hp
     rw [List.getElem?_set_self (by rw [List.length_set]; omega)]
     have h2 : i + w + 1 < (l.set (i + w) (c + lo)).length := by rw [List.length_set]; omega
     rw [List.getD_eq_getElem?_getD] at this
     rw [List.getElem?_eq_getElem h2] at this ⊢
     simp only [Option.getD_some] at this
     rw [this]
    ·exact (List.getElem?_set_ne (fun h => hp h.symm)).symm
   clear q1 q2 q3 q4 q5 q6 q7 q8 q9 q10 hE2 g2 l4 c2 hor2 hround2 cT2 hfl hz2
   (repeat' (first | refine zad ?_ | (refine zac (fun hb => ?_) (fun hb => ?_) <;> (try (exfalso; omega))) | fail))
   all_goals (first | (exfalso; omega) | exact ⟨(i + 1, l.set (i + w) (c + lo)), ⟨hi, e⟩, by show Le _ _ (ruS a (l.set (i + w) (c + lo)) k (i + 1)); (refine Le.mk [(0,0)] [] zaj zao zaq zal), by show a.length - (i + 1) < a.length - i; omega⟩)
  ·clear q1 q2 q3 q4 q5 q6 q7 q8 q9 hround2 cT2 hfl hz2
   (repeat' (first | refine zad ?_ | (refine zac (fun hb => ?_) (fun hb => ?_) <;> (try (exfalso; omega))) | fail))
   all_goals (first | (exfalso; omega) | exact ⟨(i + 1, (l.set (i + w) (c + lo)).set (i + w + 1) hi2), ⟨hi, q10⟩, by show Le _ _ (ruS a ((l.set (i + w) (c + lo)).set (i + w + 1) hi2) k (i + 1)); (refine Le.mk [(0,0)] [] zaj zao zaq zal), by show a.length - (i + 1) < a.length - i; omega⟩)
 ·have hie : i = a.length := by omega
  subst hie
  rw [← hx2] at cT2 ⊢
  (repeat' (first | refine zad ?_ | (refine is_f 115 ?_; refine ze6 (cT2) ?_) | (refine zac (fun hb => ?_) (fun hb => ?_) <;> (try (exfalso; omega))) | fail))
  all_goals (first | (exfalso; omega) | exact ret1 [] (.fr 1 _ _ _ rfl) rfl rfl rfl | exact ret1 [] (.fr 2 _ _ _ rfl) rfl rfl rfl)
theorem zeL {m n : Nat} (h : n ≤ m) : (tw n).length ≤ (tw m).length := by
 rcases Nat.lt_or_ge (tw m).length (tw n).length with h1 | h1
 ·have := zgp h1; omega
 ·exact h1
theorem zmb (x y : Int) (hx : x.natAbs < B64 ^ 4) (hy : y.natAbs < B64 ^ 4) (hxy : (x + y).natAbs < B64 ^ 4) : zan Tryz.prog 90 [wz x, wz y] [] (.tu [wz (x + y), .r (.v (.bool true))]) [] := by
 have c1 := zcS x hx
 have c2 := zcS y hy
 rcases zbk x with ⟨m, rfl⟩ | ⟨m, hm, rfl⟩ <;> rcases zbk y with ⟨n, rfl⟩ | ⟨n, hn, rfl⟩
 ·have hM : m < B64 ^ 4 := by simpa using hx
  have hN : n < B64 ^ 4 := by simpa using hy
  have l1 := zbw 4 m hM
  have l2 := zbw 4 n hN
  have o1 := of_m false m hM
  have o2 := of_m false n hN
  rw [zat m] at c1
  rw [zat n] at c2
  rw [zat m, zat n]
  have hS : m + n < B64 ^ 4 := by omega
  have cA := zkg (tw m) (tw n) (zbn m) (zbn n) (by omega) (by omega)
  rw [za0, za0] at cA
  have cS := zcA false (m + n) hS
  rw [zb_f] at cS
  rw [show (m : Int) + (n : Int) = ((m + n : Nat) : Int) by omega]
  generalize m + n = s at *
  refine zap Tryz.func90 rfl (Nat.le_of_ble_eq_true rfl) rfl rfl ?_
  (repeat' (first | refine zad ?_ | (refine is_f 78 ?_; refine zaa (c1) ?_) | (refine is_f 78 ?_; refine zaa (c2) ?_) | (refine is_f 81 ?_; refine zaa (o1) ?_) | (refine is_f 81 ?_; refine zaa (o2) ?_) | (refine is_f 86 ?_; refine zaa (cA) ?_) | (refine is_f 79 ?_; refine zaa (cS) ?_) | (refine zac (fun hb => ?_) (fun hb => ?_) <;> (try (exfalso; omega))) | fail))
  all_goals (first | exact absurd rfl hb | exact zbb [] (Rt.wz _) (.bool rfl) rfl rfl rfl rfl rfl (zak rfl) rfl)
 ·have hM : m < B64 ^ 4 := by simpa using hx
  have hN : n < B64 ^ 4 := by simpa using hy
  have l1 := zbw 4 m hM
  have l2 := zbw 4 n hN
  have o1 := of_m false m hM
  have o2 := of_m true n hN
  rw [zat m] at c1
  rw [zaD n hn] at c2
  rw [zat m, zaD n hn]
  have cC := zer m n (by omega) (by omega)
  rcases Nat.lt_or_ge m n with hlt | hge
  ·have cA := zfU (tw n) (tw m) (zbn n) (zbn m) (by omega) (zeL (by omega)) (by rw [za0, za0]; omega)
   rw [za0, za0] at cA
   have cS := zcA true (n - m) (by omega)
   have hc := zgG hlt
   rw [zb_t] at cS
   rw [show (m : Int) + -(n : Int) = -((n - m : Nat) : Int) by omega]
   generalize n - m = s at *
   generalize cmpN m n = e at *
   refine zap Tryz.func90 rfl (Nat.le_of_ble_eq_true rfl) rfl rfl ?_
   (repeat' (first | refine zad ?_ | (refine is_f 78 ?_; refine zaa (c1) ?_) | (refine is_f 78 ?_; refine zaa (c2) ?_) | (refine is_f 81 ?_; refine zaa (o1) ?_) | (refine is_f 81 ?_; refine zaa (o2) ?_) | (refine is_f 82 ?_; refine zaa (cC) ?_) | (refine is_f 87 ?_; refine zaa (cA) ?_) | (refine is_f 79 ?_; refine zaa (cS) ?_) | (refine zac (fun hb => ?_) (fun hb => ?_) <;> (try (exfalso; omega))) | fail))
   all_goals (first | (exfalso; omega) | exact absurd rfl hb | exact zbb [] (Rt.wz _) (.bool rfl) rfl rfl rfl rfl rfl (zak rfl) rfl)
  ·have cA := zfU (tw m) (tw n) (zbn m) (zbn n) (by omega) (zeL hge) (by rw [za0, za0]; omega)
   rw [za0, za0] at cA
   have cS := zcA false (m - n) (by omega)
   have hc := ziM hge
   rw [zb_f] at cS
   rw [show (m : Int) + -(n : Int) = ((m - n : Nat) : Int) by omega]
   generalize m - n = s at *
   generalize cmpN m n = e at *
   refine zap Tryz.func90 rfl (Nat.le_of_ble_eq_true rfl) rfl rfl ?_
   (repeat' (first | refine zad ?_ | (refine is_f 78 ?_; refine zaa (c1) ?_) | (refine is_f 78 ?_; refine zaa (c2) ?_) | (refine is_f 81 ?_; refine zaa (o1) ?_) | (refine is_f 81 ?_; refine zaa (o2) ?_) | (refine is_f 82 ?_; refine zaa (cC) ?_) | (refine is_f 87 ?_; refine zaa (cA) ?_) | (refine is_f 79 ?_; refine zaa (cS) ?_) | (refine zac (fun hb => ?_) (fun hb => ?_) <;> (try (exfalso; omega))) | fail))
   all_goals (first | (exfalso; omega) | exact absurd rfl hb | exact zbb [] (Rt.wz _) (.bool rfl) rfl rfl rfl rfl rfl (zak rfl) rfl)
 ·have hM : m < B64 ^ 4 := by simpa using hx
  have hN : n < B64 ^ 4 := by simpa using hy
  have l1 := zbw 4 m hM
  have l2 := zbw 4 n hN
  have o1 := of_m true m hM
  have o2 := of_m false n hN
  rw [zaD m hm] at c1
  rw [zat n] at c2
  rw [zaD m hm, zat n]
  have cC := zer m n (by omega) (by omega)
  rcases Nat.lt_or_ge m n with hlt | hge
  ·have cA := zfU (tw n) (tw m) (zbn n) (zbn m) (by omega) (zeL (by omega)) (by rw [za0, za0]; omega)
   rw [za0, za0] at cA
   have cS := zcA false (n - m) (by omega)
   have hc := zgG hlt
   rw [zb_f] at cS
   rw [show -(m : Int) + (n : Int) = ((n - m : Nat) : Int) by omega]
   generalize n - m = s at *
   generalize cmpN m n = e at *
   refine zap Tryz.func90 rfl (Nat.le_of_ble_eq_true rfl) rfl rfl ?_
   (repeat' (first | refine zad ?_ | (refine is_f 78 ?_; refine zaa (c1) ?_) | (refine is_f 78 ?_; refine zaa (c2) ?_) | (refine is_f 81 ?_; refine zaa (o1) ?_) | (refine is_f 81 ?_; refine zaa (o2) ?_) | (refine is_f 82 ?_; refine zaa (cC) ?_) | (refine is_f 87 ?_; refine zaa (cA) ?_) | (refine is_f 79 ?_; refine zaa (cS) ?_) | (refine zac (fun hb => ?_) (fun hb => ?_) <;> (try (exfalso; omega))) | fail))
   all_goals (first | (exfalso; omega) | exact absurd rfl hb | exact zbb [] (Rt.wz _) (.bool rfl) rfl rfl rfl rfl rfl (zak rfl) rfl)
  ·have cA := zfU (tw m) (tw n) (zbn m) (zbn n) (by omega) (zeL hge) (by rw [za0, za0]; omega)
   rw [za0, za0] at cA
   have cS := zcA true (m - n) (by omega)
   have hc := ziM hge
   rw [zb_t] at cS
   rw [show -(m : Int) + (n : Int) = -((m - n : Nat) : Int) by omega]
   generalize m - n = s at *
   generalize cmpN m n = e at *
   refine zap Tryz.func90 rfl (Nat.le_of_ble_eq_true rfl) rfl rfl ?_
   (repeat' (first | refine zad ?_ | (refine is_f 78 ?_; refine zaa (c1) ?_) | (refine is_f 78 ?_; refine zaa (c2) ?_) | (refine is_f 81 ?_; refine zaa (o1) ?_) | (refine is_f 81 ?_; refine zaa (o2) ?_) | (refine is_f 82 ?_; refine zaa (cC) ?_) | (refine is_f 87 ?_; refine zaa (cA) ?_) | (refine is_f 79 ?_; refine zaa (cS) ?_) | (refine zac (fun hb => ?_) (fun hb => ?_) <;> (try (exfalso; omega))) | fail))
   all_goals (first | (exfalso; omega) | exact absurd rfl hb | exact zbb [] (Rt.wz _) (.bool rfl) rfl rfl rfl rfl rfl (zak rfl) rfl)
 ·have hM : m < B64 ^ 4 := by simpa using hx
  have hN : n < B64 ^ 4 := by simpa using hy
  have l1 := zbw 4 m hM
  have l2 := zbw 4 n hN
  have o1 := of_m true m hM
  have o2 := of_m true n hN
  rw [zaD m hm] at c1
  rw [zaD n hn] at c2
  rw [zaD m hm, zaD n hn]
  have hS : m + n < B64 ^ 4 := by omega
  have cA := zkg (tw m) (tw n) (zbn m) (zbn n) (by omega) (by omega)
  rw [za0, za0] at cA
  have cS := zcA true (m + n) hS
  rw [zb_t] at cS
  rw [show -(m : Int) + -(n : Int) = -((m + n : Nat) : Int) by omega]
  generalize m + n = s at *
  refine zap Tryz.func90 rfl (Nat.le_of_ble_eq_true rfl) rfl rfl ?_
  (repeat' (first | refine zad ?_ | (refine is_f 78 ?_; refine zaa (c1) ?_) | (refine is_f 78 ?_; refine zaa (c2) ?_) | (refine is_f 81 ?_; refine zaa (o1) ?_) | (refine is_f 81 ?_; refine zaa (o2) ?_) | (refine is_f 86 ?_; refine zaa (cA) ?_) | (refine is_f 79 ?_; refine zaa (cS) ?_) | (refine zac (fun hb => ?_) (fun hb => ?_) <;> (try (exfalso; omega))) | fail))
  all_goals (first | exact absurd rfl hb | exact zbb [] (Rt.wz _) (.bool rfl) rfl rfl rfl rfl rfl (zak rfl) rfl)
theorem zoR (x y : Int) (hx : x.natAbs < B64 ^ 4) (hy : y.natAbs < B64 ^ 4) (hxy : (x - y).natAbs < B64 ^ 4) : zan Tryz.prog 89 [wz x, wz y] [] (.tu [wz (x - y), .r (.v (.bool true))]) [] := by
 have c1 := zkc y hy
 have c2 := zmb x (-y) hx (by omega) (by rw [← Int.sub_eq_add_neg]; exact hxy)
 rw [← Int.sub_eq_add_neg] at c2
 refine zap Tryz.func89 rfl (Nat.le_of_ble_eq_true rfl) rfl rfl ?_
 (repeat' (first | refine zad ?_ | (refine is_f 50 ?_; refine zaa (c1) ?_) | (refine is_f 90 ?_; refine zaa (c2) ?_) | (refine zac (fun hb => ?_) (fun hb => ?_) <;> (try (exfalso; omega))) | fail))
 all_goals (first | exact zbb [] (Rt.wz _) (.bool rfl) rfl rfl rfl rfl rfl (zak rfl) rfl)
def W32 : Nat := 4294967296
theorem zrc : W32 = 4294967296 := rfl
def KI (a b u n q rh : Nat) : Prop := q * a + rh = u ∧ (u * W32 + n) / (a * W32 + b) ≤ q ∧ rh < W32
structure KP (a b u n : Nat) : Prop where
 a1 : W32 ≤ 2 * a
 a2 : a < W32
 hb : b < W32
 hn : n < W32
 hu : u < a * W32 + b
theorem KP.pos {a b u n : Nat} (h : KP a b u n) : 0 < a * W32 + b := by have := h.hu; omega
theorem KP.q {a b u n : Nat} (h : KP a b u n) : (u * W32 + n) / (a * W32 + b) < W32 := by
 rw [Nat.div_lt_iff_lt_mul h.pos, Nat.mul_comm W32]
 have h1 := h.hu
 have h2 := h.hn
 generalize a * W32 + b = y at *
 have : (u + 1) * W32 ≤ y * W32 := Nat.mul_le_mul h1 (Nat.le_refl _)
 rw [Nat.add_mul] at this
 omega
theorem zob {a b u n : Nat} (h : KP a b u n) : KI a b u n (u / a) (u % a) := by
 have ha : 0 < a := by have := h.a1; rw [zrc] at this; omega
 refine ⟨by rw [Nat.mul_comm]; exact Nat.div_add_mod u a, ?_, Nat.lt_trans (Nat.mod_lt _ ha) h.a2⟩
 rw [Nat.le_div_iff_mul_le ha]
 have h1 := Nat.div_mul_le_self (u * W32 + n) (a * W32 + b)
 generalize (u * W32 + n) / (a * W32 + b) = q at *
 have h2 : q * a * W32 ≤ q * (a * W32 + b) := by rw [Nat.mul_add, ← Nat.mul_assoc]; omega
 have h3 : q * a * W32 < (u + 1) * W32 := by rw [Nat.add_mul]; have := h.hn; omega
 have := Nat.lt_of_mul_lt_mul_right h3
 omega
theorem ztb {a b u n q rh : Nat} (h : KP a b u n) (h1 : q * a + rh = u) (h2 : q * b ≤ W32 * rh + n) : q ≤ (u * W32 + n) / (a * W32 + b) := by
 rw [Nat.le_div_iff_mul_le h.pos, Nat.mul_add, ← h1, Nat.add_mul, ← Nat.mul_assoc, Nat.mul_comm rh]
 omega
theorem zod {a b u n q rh : Nat} (h : KP a b u n) (hi : KI a b u n q rh) (h2 : q * b ≤ W32 * rh + n) : q = (u * W32 + n) / (a * W32 + b) :=
 Nat.le_antisymm (ztb h hi.1 h2) hi.2.1
theorem zpS {a b u n q rh : Nat} (h : KP a b u n) (hi : KI a b u n q rh) (hc : W32 ≤ q ∨ W32 * rh + n < q * b) : 1 ≤ q ∧ (q - 1) * a + (rh + a) = u ∧ (u * W32 + n) / (a * W32 + b) ≤ q - 1 := by
 obtain ⟨i1, i2, i3⟩ := hi
 have hlt : (u * W32 + n) / (a * W32 + b) < q := by
  rcases hc with hc | hc
  ·exact Nat.lt_of_lt_of_le h.q hc
  ·rw [Nat.div_lt_iff_lt_mul h.pos, Nat.mul_add, ← i1, Nat.add_mul, ← Nat.mul_assoc, Nat.mul_comm rh]
   omega
 generalize (u * W32 + n) / (a * W32 + b) = Q at *
 have hq : 1 ≤ q := by omega
 refine ⟨hq, ?_, by omega⟩
 obtain ⟨q, rfl⟩ : ∃ m, q = m + 1 := ⟨q - 1, by omega⟩
 rw [Nat.add_sub_cancel, ← i1, Nat.add_mul]; omega
theorem zlR {a b u n q rh : Nat} (h : KP a b u n) (h1 : q * a + rh = u) (h2 : (u * W32 + n) / (a * W32 + b) ≤ q) (h3 : W32 ≤ rh) : q = (u * W32 + n) / (a * W32 + b) := by
 refine Nat.le_antisymm (ztb h h1 ?_) h2
 have hu := h.hu
 have hb := h.hb
 have hq : q < W32 := by
  have : q * a < W32 * a := by rw [Nat.mul_comm W32]; omega
  exact Nat.lt_of_mul_lt_mul_right this
 have e1 : q * b ≤ W32 * W32 := Nat.mul_le_mul (Nat.le_of_lt hq) (Nat.le_of_lt hb)
 have e2 : W32 * W32 ≤ W32 * rh := Nat.mul_le_mul (Nat.le_refl _) h3
 omega
theorem zrH {u n1 n0 y : Nat} (hy : 0 < y) : ((u * W32 + n1) * W32 + n0) / y = (u * W32 + n1) / y * W32 + ((u * W32 + n1) % y * W32 + n0) / y ∧ ((u * W32 + n1) * W32 + n0) % y = ((u * W32 + n1) % y * W32 + n0) % y := by
 generalize u * W32 + n1 = U
 have e : U * W32 + n0 = (U % y * W32 + n0) + y * (U / y * W32) := by
  have := Nat.mod_add_div U y
  conv => lhs; rw [← this]
  rw [Nat.add_mul, Nat.mul_assoc]; omega
 rw [e]
 refine ⟨?_, Nat.add_mul_mod_self_left _ _ _⟩
 rw [Nat.add_mul_div_left _ _ hy, Nat.add_comm]
theorem zpU (N y s : Nat) (hy : 0 < y) : N * 2 ^ s / (y * 2 ^ s) = N / y ∧ N * 2 ^ s % (y * 2 ^ s) / 2 ^ s = N % y := by
 have hp : 0 < 2 ^ s := Nat.pow_pos (by decide)
 exact ⟨Nat.mul_div_mul_right _ _ hp, by rw [Nat.mul_mod_mul_right, Nat.mul_div_cancel _ hp]⟩
theorem zpV (hi lo y s : Nat) (hlo : lo < B64) (hh : hi < y) (hs : s < 64) (hy : y * 2 ^ s < B64) :
  hi * 2 ^ s < B64 ∧ lo / 2 ^ (64 - s) < 2 ^ s ∧ hi * 2 ^ s + lo / 2 ^ (64 - s) < y * 2 ^ s ∧ (hi * 2 ^ s + lo / 2 ^ (64 - s)) * B64 + lo * 2 ^ s % B64 = (hi * B64 + lo) * 2 ^ s := by
 have hb : B64 = 2 ^ (64 - s) * 2 ^ s := by rw [← Nat.pow_add, show 64 - s + s = 64 by omega, zaQ]
 have hp : 0 < 2 ^ s := Nat.pow_pos (by decide)
 have hp2 : 0 < 2 ^ (64 - s) := Nat.pow_pos (by decide)
 generalize 2 ^ (64 - s) = S at *
 generalize 2 ^ s = R at *
 generalize B64 = Bq at *
 have h1 : lo / S < R := by rw [Nat.div_lt_iff_lt_mul hp2, Nat.mul_comm]; rw [hb] at hlo; exact hlo
 have h2 : (hi + 1) * R ≤ y * R := Nat.mul_le_mul hh (Nat.le_refl _)
 rw [Nat.add_mul] at h2
 refine ⟨by omega, h1, by omega, ?_⟩
 have h3 : lo * R % Bq = lo % S * R := by rw [hb, Nat.mul_mod_mul_right]
 rw [h3]
 have h4 := Nat.mod_add_div lo S
 have e1 : (hi * Bq + lo) * R = hi * Bq * R + lo % S * R + S * (lo / S) * R := by
  conv => lhs; rw [← h4]
  rw [Nat.add_mul, Nat.add_mul]; omega
 rw [e1, Nat.add_mul]
 have e2 : hi * R * Bq = hi * Bq * R := Nat.mul_right_comm _ _ _
 have e3 : lo / S * Bq = S * (lo / S) * R := by rw [hb, ← Nat.mul_assoc, Nat.mul_comm (lo / S)]
 omega
theorem zt4 (z : Int) (m : Nat) (hm : m < B64) (h : ∃ k : Int, z = (m : Int) + k * 18446744073709551616) : IntKind.u64.wrap z = (m : Int) := by
 obtain ⟨k, rfl⟩ := h
 rw [IntKind.wrap_u64]
 unfold B64 at hm
 rw [Int.add_mul_emod_self_right]
 omega
theorem zoc (u n q y : Nat) (hy : y < B64) (hr : (u * W32 + n) % y < B64) (hq : q = (u * W32 + n) / y) :
  IntKind.u64.wrap (IntKind.u64.wrap (IntKind.u64.wrap ((u : Int) * 4294967296) + (n : Int)) - IntKind.u64.wrap ((q : Int) * (y : Int))) = (((u * W32 + n) % y : Nat) : Int) := by
 have h := Nat.mod_add_div (u * W32 + n) y
 rw [← hq] at h
 generalize (u * W32 + n) % y = r at *
 refine zt4 _ r hr ?_
 simp only [IntKind.wrap_u64]
 have e1 := Int.emod_add_mul_ediv ((u : Int) * 4294967296) 18446744073709551616
 have e2 := Int.emod_add_mul_ediv ((u : Int) * 4294967296 % 18446744073709551616 + n) 18446744073709551616
 have e3 := Int.emod_add_mul_ediv ((q : Int) * (y : Int)) 18446744073709551616
 have e4 : (r : Int) + (q : Int) * (y : Int) = (u : Int) * 4294967296 + n := by
  have : ((r + y * q : Nat) : Int) = ((u * W32 + n : Nat) : Int) := by rw [h]
  rw [Int.natCast_add, Int.natCast_add, Int.natCast_mul, Int.natCast_mul, Int.mul_comm (y : Int)] at this
  exact this
 refine ⟨((q : Int) * (y : Int)) / 18446744073709551616 - ((u : Int) * 4294967296 % 18446744073709551616 + n) / 18446744073709551616 - ((u : Int) * 4294967296) / 18446744073709551616, ?_⟩
 generalize (q : Int) * (y : Int) = Q at *
 omega
theorem zpj (a b : Nat) (ha : a < B64) : IntKind.u64.wrap (Int.tdiv (a : Int) (b : Int)) = ((a / b : Nat) : Int) := by
 have h : Int.tdiv (a : Int) (b : Int) = ((a / b : Nat) : Int) := by rw [Int.tdiv_eq_ediv_of_nonneg (by omega)]; simp
 have h2 : a / b ≤ a := Nat.div_le_self _ _
 rw [h]
 generalize a / b = q at *
 rw [IntKind.wrap_u64]; unfold B64 at ha; omega
theorem zh0 (v : Nat) (hv : v < B64) : bits .and .u64 (v : Int) 4294967295 = ((v % W32 : Nat) : Int) := by
 have h := u64_and_nat v 4294967295 (by unfold B64 at hv; omega) (by omega)
 rw [show (4294967295 : Nat) = 2 ^ 32 - 1 from rfl, Nat.and_two_pow_sub_one_eq_mod] at h
 exact h
theorem ztx (v : Nat) : Int.fdiv (v : Int) (2 ^ (min (Int.toNat 32) IntKind.u64.bits)) = ((v / W32 : Nat) : Int) := zdA v 32 (by omega)
def dvA (s Y a b u n1 n0 : Nat) (x : Nat × Nat) : St := ⟨[(2, .r (.v (.int .u64 (Y : Int)))), (8, .r (.v (.int .u64 (s : Int)))), (9, .r (.v (.int .u64 (a : Int)))), (10, .r (.v (.int .u64 (b : Int)))), (11, .r (.v (.int .u64 (u : Int)))), (13, .r (.v (.int .u64 (n1 : Int)))), (14, .r (.v (.int .u64 (n0 : Int)))), (15, .r (.v (.int .u64 (x.1 : Int)))), (16, .r (.v (.int .u64 (x.2 : Int))))], [], 0⟩
def dvB (s Y a b u n1 n0 Q v : Nat) (x : Nat × Nat) : St := ⟨[(2, .r (.v (.int .u64 (Y : Int)))), (8, .r (.v (.int .u64 (s : Int)))), (9, .r (.v (.int .u64 (a : Int)))), (10, .r (.v (.int .u64 (b : Int)))), (14, .r (.v (.int .u64 (n0 : Int)))), (15, .r (.v (.int .u64 (Q : Int)))), (17, .r (.v (.int .u64 (v : Int)))), (18, .r (.v (.int .u64 (x.1 : Int)))), (16, .r (.v (.int .u64 (x.2 : Int))))], [], 0⟩
theorem zqN {a b u n q rh : Nat} (h : KP a b u n) (hi : KI a b u n q rh) (hq : q < B64) :
  IntKind.u64.wrap (4294967296 * (rh : Int)) = ((W32 * rh : Nat) : Int) ∧ IntKind.u64.wrap (((W32 * rh : Nat) : Int) + (n : Int)) = ((W32 * rh + n : Nat) : Int) ∧ (q < W32 → IntKind.u64.wrap ((q : Int) * (b : Int)) = ((q * b : Nat) : Int)) ∧ IntKind.u64.wrap ((rh : Int) + (a : Int)) = ((rh + a : Nat) : Int) := by
 have h1 := hi.2.2
 have h2 := h.hn
 have h3 := h.a2
 have h4 := h.hb
 have hW := zrc
 have hWr : W32 * rh = 4294967296 * rh := rfl
 rw [hWr]
 refine ⟨by rw [IntKind.wrap_u64]; omega, by rw [IntKind.wrap_u64]; omega, fun hqw => ?_, by rw [IntKind.wrap_u64]; omega⟩
 have e : q * b < W32 * W32 := Nat.mul_lt_mul'' hqw h4
 have e2 : W32 * W32 = 18446744073709551616 := rfl
 rw [← Int.natCast_mul]
 generalize q * b = z at *
 rw [IntKind.wrap_u64]; omega
theorem zrb : B64 = 18446744073709551616 := rfl
theorem zra : B64 = W32 * W32 := rfl
theorem zpT (Y v u : Nat) (hY : Y < B64) (hY2 : B64 ≤ 2 * Y) (hv : v < B64) (hu : u < Y) : ∃ a b n1 n0 u2 Q1 Q0 r : Nat,
  Int.fdiv (Y : Int) (2 ^ (min (Int.toNat 32) IntKind.u64.bits)) = (a : Int) ∧ bits .and .u64 (Y : Int) 4294967295 = (b : Int) ∧
  Int.fdiv (v : Int) (2 ^ (min (Int.toNat 32) IntKind.u64.bits)) = (n1 : Int) ∧ bits .and .u64 (v : Int) 4294967295 = (n0 : Int) ∧
  KP a b u n1 ∧ KP a b u2 n0 ∧ a * W32 + b = Y ∧ Q1 = (u * W32 + n1) / (a * W32 + b) ∧ Q0 = (u2 * W32 + n0) / (a * W32 + b) ∧
  IntKind.u64.wrap (IntKind.u64.wrap (IntKind.u64.wrap ((u : Int) * 4294967296) + (n1 : Int)) - IntKind.u64.wrap ((Q1 : Int) * (Y : Int))) = (u2 : Int) ∧
  IntKind.u64.wrap (IntKind.u64.wrap (IntKind.u64.wrap ((u2 : Int) * 4294967296) + (n0 : Int)) - IntKind.u64.wrap ((Q0 : Int) * (Y : Int))) = (r : Int) ∧
  IntKind.u64.wrap (IntKind.u64.wrap ((Q1 : Int) * 4294967296) + (Q0 : Int)) = (((u * B64 + v) / Y : Nat) : Int) ∧ r = (u * B64 + v) % Y := by
 have hW := zrc
 have hB := zrb
 have hn1 : v / W32 < W32 := by unfold W32; omega
 have hn0 : v % W32 < W32 := by unfold W32; omega
 have hab : Y / W32 * W32 + Y % W32 = Y := by unfold W32; omega
 have hP : KP (Y / W32) (Y % W32) u (v / W32) := ⟨by unfold W32; omega, by unfold W32; omega, by unfold W32; omega, hn1, by omega⟩
 have hvv : (u * W32 + v / W32) * W32 + v % W32 = u * B64 + v := by
  rw [zra, Nat.add_mul, ← Nat.mul_assoc, Nat.add_assoc, show v / W32 * W32 + v % W32 = v by unfold W32; omega]
 obtain ⟨j1, j2⟩ := zrH (u := u) (n1 := v / W32) (n0 := v % W32) (y := Y) (by omega)
 rw [hvv] at j1 j2
 have hu2 : (u * W32 + v / W32) % Y < Y := Nat.mod_lt _ (by omega)
 have hP2 : KP (Y / W32) (Y % W32) ((u * W32 + v / W32) % Y) (v % W32) := ⟨hP.a1, hP.a2, hP.hb, hn0, by omega⟩
 have r1 := zoc u (v / W32) ((u * W32 + v / W32) / Y) Y hY (by omega) rfl
 have hu3 : ((u * W32 + v / W32) % Y * W32 + v % W32) % Y < Y := Nat.mod_lt _ (by omega)
 have r2 := zoc ((u * W32 + v / W32) % Y) (v % W32) (((u * W32 + v / W32) % Y * W32 + v % W32) / Y) Y hY (by omega) rfl
 have q1 := hP.q
 have q0 := hP2.q
 rw [hab] at q1 q0
 refine ⟨Y / W32, Y % W32, v / W32, v % W32, (u * W32 + v / W32) % Y, (u * W32 + v / W32) / Y, ((u * W32 + v / W32) % Y * W32 + v % W32) / Y, ((u * W32 + v / W32) % Y * W32 + v % W32) % Y, ztx Y, zh0 Y hY, ztx v, zh0 v hv, hP, hP2, hab, by rw [hab], by rw [hab], r1, r2, ?_, j2.symm⟩
 rw [j1]
 generalize (u * W32 + v / W32) / Y = X1 at *
 generalize ((u * W32 + v / W32) % Y * W32 + v % W32) / Y = X0 at *
 have e1 : IntKind.u64.wrap ((X1 : Int) * 4294967296) = ((X1 * W32 : Nat) : Int) := by rw [IntKind.wrap_u64]; unfold W32 at q1 ⊢; omega
 rw [e1, IntKind.wrap_u64]
 unfold W32 at q1 q0 ⊢
 omega
theorem zrL (hi lo y : Nat) (hh : hi < y) (hlo : lo < B64) (s : Nat) (hs : s < 64) (hY : y * 2 ^ s < B64) (hY2 : B64 ≤ 2 * (y * 2 ^ s)) : ∃ Y A C u v s2 a b n1 n0 u2 Q1 Q0 r : Nat,
  IntKind.u64.wrap (s : Int) = (s : Int) ∧ IntKind.u64.wrap (64 - (s : Int)) = (s2 : Int) ∧
  IntKind.u64.wrap ((y : Int) * 2 ^ (min (Int.toNat (s : Int)) IntKind.u64.bits)) = (Y : Int) ∧
  IntKind.u64.wrap ((hi : Int) * 2 ^ (min (Int.toNat (s : Int)) IntKind.u64.bits)) = (A : Int) ∧
  Int.fdiv (lo : Int) (2 ^ (min (Int.toNat (s2 : Int)) IntKind.u64.bits)) = (C : Int) ∧
  bits .or .u64 (A : Int) (C : Int) = (u : Int) ∧
  IntKind.u64.wrap ((lo : Int) * 2 ^ (min (Int.toNat (s : Int)) IntKind.u64.bits)) = (v : Int) ∧
  Int.fdiv (Y : Int) (2 ^ (min (Int.toNat 32) IntKind.u64.bits)) = (a : Int) ∧ bits .and .u64 (Y : Int) 4294967295 = (b : Int) ∧
  Int.fdiv (v : Int) (2 ^ (min (Int.toNat 32) IntKind.u64.bits)) = (n1 : Int) ∧ bits .and .u64 (v : Int) 4294967295 = (n0 : Int) ∧
  KP a b u n1 ∧ KP a b u2 n0 ∧ u < B64 ∧ u2 < B64 ∧ Q1 = (u * W32 + n1) / (a * W32 + b) ∧ Q0 = (u2 * W32 + n0) / (a * W32 + b) ∧
  IntKind.u64.wrap (IntKind.u64.wrap (IntKind.u64.wrap ((u : Int) * 4294967296) + (n1 : Int)) - IntKind.u64.wrap ((Q1 : Int) * (Y : Int))) = (u2 : Int) ∧
  IntKind.u64.wrap (IntKind.u64.wrap (IntKind.u64.wrap ((u2 : Int) * 4294967296) + (n0 : Int)) - IntKind.u64.wrap ((Q0 : Int) * (Y : Int))) = (r : Int) ∧
  IntKind.u64.wrap (IntKind.u64.wrap ((Q1 : Int) * 4294967296) + (Q0 : Int)) = (((hi * B64 + lo) / y : Nat) : Int) ∧
  Int.fdiv (r : Int) (2 ^ (min (Int.toNat (s : Int)) IntKind.u64.bits)) = (((hi * B64 + lo) % y : Nat) : Int) := by
 obtain ⟨w1, w2, w3, w4⟩ := zpV hi lo y s hlo hh hs hY
 obtain ⟨k1, k2⟩ := zpU (hi * B64 + lo) y s (by omega)
 rw [← w4] at k1 k2
 have g1 := zcI y s hs
 rw [Nat.mod_eq_of_lt hY] at g1
 have g2 := zcI hi s hs
 rw [Nat.mod_eq_of_lt w1] at g2
 have g3 := zdA lo (64 - s) (by omega)
 have g4 := zfh (hi * 2 ^ s) (lo / 2 ^ (64 - s)) s (Nat.mul_mod_left _ _) w2 (Nat.lt_trans w3 hY)
 have g5 := zcI lo s hs
 have g6 : IntKind.u64.wrap (64 - (s : Int)) = ((64 - s : Nat) : Int) := by rw [IntKind.wrap_u64]; omega
 have g7 : IntKind.u64.wrap (s : Int) = (s : Int) := by rw [IntKind.wrap_u64]; omega
 obtain ⟨a, b, n1, n0, u2, Q1, Q0, r, t1, t2, t3, t4, t5, t6, t7, t8, t9, t10, t11, t12, t13⟩ := zpT (y * 2 ^ s) (lo * 2 ^ s % B64) (hi * 2 ^ s + lo / 2 ^ (64 - s)) hY hY2 (Nat.mod_lt _ (by decide)) w3
 rw [k1] at t12
 have g8 := zdA r s (Nat.le_of_lt hs)
 rw [t13, k2, ← t13] at g8
 have hu2 := t6.hu
 rw [t7] at hu2
 exact ⟨_, _, _, _, _, _, a, b, n1, n0, u2, Q1, Q0, r, g7, g6, g1, g2, g3, g4, g5, t1, t2, t3, t4, t5, t6, Nat.lt_trans w3 hY, Nat.lt_trans hu2 hY, t8, t9, t10, t11, t12, g8⟩
theorem zrt (hi lo y : Nat) (hh : hi < y) (hlo : lo < B64) (hy : y < B64) (h0 : hi ≠ 0) (s : Nat) (hs : s < 64) (hY : y * 2 ^ s < B64) (hY2 : B64 ≤ 2 * (y * 2 ^ s))
  (cL : zan Tryz.prog 149 [.r (.v (.int .u64 (y : Int)))] [] (.r (.v (.int .i64 (s : Int)))) []) :
  zan Tryz.prog 118 [.r (.v (.int .u64 (hi : Int))), .r (.v (.int .u64 (lo : Int))), .r (.v (.int .u64 (y : Int)))] [] (.tu [.r (.v (.int .u64 (((hi * B64 + lo) / y : Nat) : Int))), .r (.v (.int .u64 (((hi * B64 + lo) % y : Nat) : Int)))]) [] := by
 obtain ⟨Y, A, C, u, v, s2, a, b, n1, n0, u2, Q1, Q0, r, g7, g6, g1, g2, g3, g4, g5, e1, e2, e3, e4, hP, hP2, hu, hu2, hQ1, hQ0, r1, r2, r3, g8⟩ := zrL hi lo y hh hlo s hs hY hY2
 generalize (hi * B64 + lo) / y = Qf at *
 generalize (hi * B64 + lo) % y = Rf at *
 have hI1 := zob hP
 have hI2 := zob hP2
 clear hY hY2
 have d1 := zpj u a hu
 have d2 := zpj u2 a hu2
 have ha0 : (a : Int) ≠ 0 := by
  have := hP.a1
  unfold W32 at this; omega
 have m1 : IntKind.u64.wrap (((u / a : Nat) : Int) * (a : Int)) = ((u / a * a : Nat) : Int) := by
  have := Nat.div_mul_le_self u a
  rw [← Int.natCast_mul]
  generalize u / a * a = z at *
  unfold B64 at hu
  rw [IntKind.wrap_u64]; omega
 have m2 : IntKind.u64.wrap (((u2 / a : Nat) : Int) * (a : Int)) = ((u2 / a * a : Nat) : Int) := by
  have := Nat.div_mul_le_self u2 a
  rw [← Int.natCast_mul]
  generalize u2 / a * a = z at *
  unfold B64 at hu2
  rw [IntKind.wrap_u64]; omega
 have t1 : IntKind.u64.wrap ((u : Int) - ((u / a * a : Nat) : Int)) = ((u % a : Nat) : Int) := by
  have h1 := Nat.mod_add_div u a
  rw [Nat.mul_comm] at h1
  generalize u / a * a = z at *
  generalize u % a = x at *
  unfold B64 at hu
  rw [IntKind.wrap_u64]; omega
 have t2 : IntKind.u64.wrap ((u2 : Int) - ((u2 / a * a : Nat) : Int)) = ((u2 % a : Nat) : Int) := by
  have h1 := Nat.mod_add_div u2 a
  rw [Nat.mul_comm] at h1
  generalize u2 / a * a = z at *
  generalize u2 % a = x at *
  unfold B64 at hu2
  rw [IntKind.wrap_u64]; omega
 refine zap Tryz.func118 rfl (Nat.le_of_ble_eq_true rfl) rfl rfl ?_
 (repeat' (first | refine zad ?_ | (refine is_f 149 ?_; refine zaa (cL) ?_) | (refine zac (fun hb => ?_) (fun hb => ?_) <;> (try (exfalso; omega))) | fail))
 all_goals (first | (exfalso; omega) | skip)
 refine zjB (dvA s Y a b u n1 n0) (fun x => x.1 = Q1) ?_ ?_
 ·skip
  refine zas (fun x : Nat × Nat => dvA s Y a b u n1 n0 x) (fun x => KI a b u n1 x.1 x.2 ∧ x.1 ≤ u / a) (fun x => x.1) (u / a, u % a) ⟨hI1, Nat.le_refl _⟩ (by (refine Le.mk [] [] zaj zao zaq zal)) fun x hx => ?_
  obtain ⟨q, rh⟩ := x
  obtain ⟨hi, hqa⟩ := hx
  dsimp only at hi hqa
  have hq9 : q < B64 := Nat.lt_of_le_of_lt (Nat.le_trans hqa (Nat.div_le_self _ _)) hu
  obtain ⟨c1, c2, c3, c4⟩ := zqN hP hi hq9
  change awp _ _ _ _ _ (dvA s Y a b u n1 n0 (q, rh))
  unfold dvA
  dsimp only
  rcases Nat.lt_or_ge q W32 with hqw | hqw
  ·have c5 := c3 hqw
   have hx1 : ¬ (4294967296 : Int) ≤ (q : Int) := by unfold W32 at hqw; omega
   by_cases hc : W32 * rh + n1 < q * b
   ·obtain ⟨z1, z2, z3⟩ := zpS hP hi (.inr hc)
    have hd : IntKind.u64.wrap ((q : Int) - 1) = ((q - 1 : Nat) : Int) := by rw [IntKind.wrap_u64]; unfold B64 at hq9; omega
    by_cases hbk : W32 ≤ rh + a
    ·have hs9 : q - 1 = Q1 := by rw [hQ1]; exact zlR hP z2 z3 hbk
     have hx9 : (4294967296 : Int) ≤ ((rh + a : Nat) : Int) := by unfold W32 at hbk; omega
     clear z1 z2 z3
     (repeat' (first | refine zad ?_ | (refine zac (fun hb => ?_) (fun hb => ?_) <;> (try (exfalso; omega))) | fail))
     all_goals (first | (exfalso; omega) | exact ⟨(q - 1, rh + a), hs9, by show Le _ _ (dvA s Y a b u n1 n0 (q - 1, rh + a)); unfold dvA; (refine Le.mk [] [] zaj zao zaq zal)⟩)
    ·have hx9 : ¬ (4294967296 : Int) ≤ ((rh + a : Nat) : Int) := by unfold W32 at hbk; omega
     (repeat' (first | refine zad ?_ | (refine zac (fun hb => ?_) (fun hb => ?_) <;> (try (exfalso; omega))) | fail))
     all_goals (first | (exfalso; omega) | exact ⟨(q - 1, rh + a), ⟨⟨z2, z3, by show rh + a < W32; omega⟩, by show q - 1 ≤ u / a; omega⟩, by show Le _ _ (dvA s Y a b u n1 n0 (q - 1, rh + a)); unfold dvA; (refine Le.mk [] [] zaj zao zaq zal), by show q - 1 < q; omega⟩)
   ·have hs9 : q = Q1 := by rw [hQ1]; exact zod hP hi (by omega)
    (repeat' (first | refine zad ?_ | (refine zac (fun hb => ?_) (fun hb => ?_) <;> (try (exfalso; omega))) | fail))
    all_goals (first | (exfalso; omega) | exact ⟨(q, rh), hs9, by show Le _ _ (dvA s Y a b u n1 n0 (q, rh)); unfold dvA; (refine Le.mk [] [] zaj zao zaq zal)⟩)
  ·have hx1 : (4294967296 : Int) ≤ (q : Int) := by unfold W32 at hqw; omega
   obtain ⟨z1, z2, z3⟩ := zpS hP hi (.inl hqw)
   have hd : IntKind.u64.wrap ((q : Int) - 1) = ((q - 1 : Nat) : Int) := by rw [IntKind.wrap_u64]; unfold B64 at hq9; omega
   by_cases hbk : W32 ≤ rh + a
   ·have hs9 : q - 1 = Q1 := by rw [hQ1]; exact zlR hP z2 z3 hbk
    have hx9 : (4294967296 : Int) ≤ ((rh + a : Nat) : Int) := by unfold W32 at hbk; omega
    clear z1 z2 z3
    (repeat' (first | refine zad ?_ | (refine zac (fun hb => ?_) (fun hb => ?_) <;> (try (exfalso; omega))) | fail))
    all_goals (first | (exfalso; omega) | exact ⟨(q - 1, rh + a), hs9, by show Le _ _ (dvA s Y a b u n1 n0 (q - 1, rh + a)); unfold dvA; (refine Le.mk [] [] zaj zao zaq zal)⟩)
   ·have hx9 : ¬ (4294967296 : Int) ≤ ((rh + a : Nat) : Int) := by unfold W32 at hbk; omega
    (repeat' (first | refine zad ?_ | (refine zac (fun hb => ?_) (fun hb => ?_) <;> (try (exfalso; omega))) | fail))
    all_goals (first | (exfalso; omega) | exact ⟨(q - 1, rh + a), ⟨⟨z2, z3, by show rh + a < W32; omega⟩, by show q - 1 ≤ u / a; omega⟩, by show Le _ _ (dvA s Y a b u n1 n0 (q - 1, rh + a)); unfold dvA; (refine Le.mk [] [] zaj zao zaq zal), by show q - 1 < q; omega⟩)
 ·rintro ⟨q, rh⟩ hq9
  dsimp only at hq9
  subst q
  change awp _ _ _ _ _ (dvA s Y a b u n1 n0 (Q1, rh))
  unfold dvA
  dsimp only
  (repeat' (first | refine zad ?_ | (refine zac (fun hb => ?_) (fun hb => ?_) <;> (try (exfalso; omega))) | fail))
  refine zjB (dvB s Y a b u n1 n0 Q1 u2) (fun x => x.1 = Q0) ?_ ?_
  ·skip
   refine zas (fun x : Nat × Nat => dvB s Y a b u n1 n0 Q1 u2 x) (fun x => KI a b u2 n0 x.1 x.2 ∧ x.1 ≤ u2 / a) (fun x => x.1) (u2 / a, u2 % a) ⟨hI2, Nat.le_refl _⟩ (by (refine Le.mk [] [] zaj zao zaq zal)) fun x hx => ?_
   obtain ⟨q, rh⟩ := x
   obtain ⟨hi, hqa⟩ := hx
   dsimp only at hi hqa
   have hq9 : q < B64 := Nat.lt_of_le_of_lt (Nat.le_trans hqa (Nat.div_le_self _ _)) hu2
   obtain ⟨c1, c2, c3, c4⟩ := zqN hP2 hi hq9
   change awp _ _ _ _ _ (dvB s Y a b u n1 n0 Q1 u2 (q, rh))
   unfold dvB
   dsimp only
   rcases Nat.lt_or_ge q W32 with hqw | hqw
   ·have c5 := c3 hqw
    have hx1 : ¬ (4294967296 : Int) ≤ (q : Int) := by unfold W32 at hqw; omega
    by_cases hc : W32 * rh + n0 < q * b
    ·obtain ⟨z1, z2, z3⟩ := zpS hP2 hi (.inr hc)
     have hd : IntKind.u64.wrap ((q : Int) - 1) = ((q - 1 : Nat) : Int) := by rw [IntKind.wrap_u64]; unfold B64 at hq9; omega
     by_cases hbk : W32 ≤ rh + a
     ·have hs9 : q - 1 = Q0 := by rw [hQ0]; exact zlR hP2 z2 z3 hbk
      have hx9 : (4294967296 : Int) ≤ ((rh + a : Nat) : Int) := by unfold W32 at hbk; omega
      clear z1 z2 z3
      (repeat' (first | refine zad ?_ | (refine zac (fun hb => ?_) (fun hb => ?_) <;> (try (exfalso; omega))) | fail))
      all_goals (first | (exfalso; omega) | exact ⟨(q - 1, rh + a), hs9, by show Le _ _ (dvB s Y a b u n1 n0 Q1 u2 (q - 1, rh + a)); unfold dvB; (refine Le.mk [] [] zaj zao zaq zal)⟩)
     ·have hx9 : ¬ (4294967296 : Int) ≤ ((rh + a : Nat) : Int) := by unfold W32 at hbk; omega
      (repeat' (first | refine zad ?_ | (refine zac (fun hb => ?_) (fun hb => ?_) <;> (try (exfalso; omega))) | fail))
      all_goals (first | (exfalso; omega) | exact ⟨(q - 1, rh + a), ⟨⟨z2, z3, by show rh + a < W32; omega⟩, by show q - 1 ≤ u2 / a; omega⟩, by show Le _ _ (dvB s Y a b u n1 n0 Q1 u2 (q - 1, rh + a)); unfold dvB; (refine Le.mk [] [] zaj zao zaq zal), by show q - 1 < q; omega⟩)
    ·have hs9 : q = Q0 := by rw [hQ0]; exact zod hP2 hi (by omega)
     (repeat' (first | refine zad ?_ | (refine zac (fun hb => ?_) (fun hb => ?_) <;> (try (exfalso; omega))) | fail))
     all_goals (first | (exfalso; omega) | exact ⟨(q, rh), hs9, by show Le _ _ (dvB s Y a b u n1 n0 Q1 u2 (q, rh)); unfold dvB; (refine Le.mk [] [] zaj zao zaq zal)⟩)
   ·have hx1 : (4294967296 : Int) ≤ (q : Int) := by unfold W32 at hqw; omega
    obtain ⟨z1, z2, z3⟩ := zpS hP2 hi (.inl hqw)
    have hd : IntKind.u64.wrap ((q : Int) - 1) = ((q - 1 : Nat) : Int) := by rw [IntKind.wrap_u64]; unfold B64 at hq9; omega
    by_cases hbk : W32 ≤ rh + a
    ·have hs9 : q - 1 = Q0 := by rw [hQ0]; exact zlR hP2 z2 z3 hbk
     have hx9 : (4294967296 : Int) ≤ ((rh + a : Nat) : Int) := by unfold W32 at hbk; omega
     clear z1 z2 z3
     (repeat' (first | refine zad ?_ | (refine zac (fun hb => ?_) (fun hb => ?_) <;> (try (exfalso; omega))) | fail))
     all_goals (first | (exfalso; omega) | exact ⟨(q - 1, rh + a), hs9, by show Le _ _ (dvB s Y a b u n1 n0 Q1 u2 (q - 1, rh + a)); unfold dvB; (refine Le.mk [] [] zaj zao zaq zal)⟩)
    ·have hx9 : ¬ (4294967296 : Int) ≤ ((rh + a : Nat) : Int) := by unfold W32 at hbk; omega
     (repeat' (first | refine zad ?_ | (refine zac (fun hb => ?_) (fun hb => ?_) <;> (try (exfalso; omega))) | fail))
     all_goals (first | (exfalso; omega) | exact ⟨(q - 1, rh + a), ⟨⟨z2, z3, by show rh + a < W32; omega⟩, by show q - 1 ≤ u2 / a; omega⟩, by show Le _ _ (dvB s Y a b u n1 n0 Q1 u2 (q - 1, rh + a)); unfold dvB; (refine Le.mk [] [] zaj zao zaq zal), by show q - 1 < q; omega⟩)
  ·rintro ⟨q, rh⟩ hq9
   dsimp only at hq9
   subst q
   change awp _ _ _ _ _ (dvB s Y a b u n1 n0 Q1 u2 (Q0, rh))
   unfold dvB
   dsimp only
   clear hI1 hI2 d1 d2 m1 m2 t1 t2
   (repeat' (first | refine zad ?_ | (refine zac (fun hb => ?_) (fun hb => ?_) <;> (try (exfalso; omega))) | fail))
   all_goals (first | (exfalso; omega) | exact ret2 [] (.int rfl) (.int rfl) rfl rfl rfl rfl)
end Go.Proofs.YtibedaeefnjjlaaGreat
