/- Texts of the second layer in one: Rg2. -/
import Derived.Test.YtibedaeefnjjlaaGreatG24
import Derived.Test.YtibedaeefnjjlaaGreatG26
import Derived.Test.YtibedaeefnjjlaaGreatG27
set_option maxHeartbeats 4000000
set_option maxRecDepth 100000
set_option linter.unusedVariables false
set_option linter.unusedSimpArgs false
namespace Go.Proofs.YtibedaeefnjjlaaGreat
open Go.RowKit Go.Ab Go.Wd
theorem zdk (p q : Int) (h : VR p q) : zan Tryz.prog 41 [rt p q] [] (.r (.v (.bool true))) [] := by
 have hv := h
 have v1 := zcz p hv.w4n
 have v2 := zcz q hv.w4d
 have cS := zdj q hv.w4d
 have s1 := zfS p hv.w4n
 have s2 := zfS q hv.w4d
 have cA := zin p hv.w4n
 have cO := zoO
 have h0 := hv.1
 have hqn : ((q.natAbs : Nat) : Int) = q := by omega
 have cG := zmc p.natAbs q.natAbs hv.w4n hv.w4d
 rw [hv.2.2.2, hqn] at cG
 rw [decide_eq_true hv.2.1] at s1
 rw [decide_eq_true hv.2.2.1] at s2
 have hsg : sgZ q = 1 := by unfold sgZ; rw [if_neg (by omega), if_neg (by omega)]
 rw [hsg] at cS
 have h1w := wone
 refine zap Tryz.func41 rfl (Nat.le_of_ble_eq_true rfl) rfl rfl ?_
 (repeat' (first | (refine zbP ?_; refine zbl ?_; refine zag rfl zab (zow h1w h1w (decide_eq_true rfl) rfl rfl) ?_) | refine zad ?_ | (refine is_f 45 ?_; refine zaa (v1) ?_) | (refine is_f 45 ?_; refine zaa (v2) ?_) | (refine is_f 46 ?_; refine zaa (cS) ?_) | (refine is_f 77 ?_; refine zaa (s1) ?_) | (refine is_f 77 ?_; refine zaa (s2) ?_) | (refine is_f 48 ?_; refine zaa (cA) ?_) | (refine is_f 47 ?_; refine zaa (cG) ?_) | (refine is_f 60 ?_; refine zaa (cO) ?_) | (refine zac (fun hb => ?_) (fun hb => ?_) <;> (try (exfalso; omega))) | fail))
 all_goals (first | (exfalso; omega) | exact ret1 [] (.bool rfl) rfl rfl rfl)
theorem zkb (p q : Int) (h : VR p q) : zan Tryz.prog 42 [rt p q] [] (rt p q) [] := by
 have cV := zdk p q h
 refine zap Tryz.func42 rfl (Nat.le_of_ble_eq_true rfl) rfl rfl ?_
 (repeat' (first | refine zad ?_ | (refine is_f 41 ?_; refine zaa (cV) ?_) | (refine zac (fun hb => ?_) (fun hb => ?_) <;> (try (exfalso; omega))) | fail))
 all_goals exact zbO [] (Rt.rt p q) rfl rfl rfl rfl (zak rfl) rfl
theorem zeG (p q r s : Int) (h1 : VR p q) (h2 : VR r s) : zan Tryz.prog 18 [rt p q, rt r s] [] (.r (.v (.int .i64 (cmpZ (p * s) (r * q))))) [] := by
 have c1 := zkb p q h1
 have c2 := zkb r s h2
 have m1 := zhA p s h1.w4n h2.w4d (zdr h1.2.1 h2.2.2.1)
 have m2 := zhA r q h2.w4n h1.w4d (zdr h2.2.1 h1.2.2.1)
 have cC := ze5 (p * s) (r * q) (zdr h1.2.1 h2.2.2.1) (zdr h2.2.1 h1.2.2.1)
 generalize p * s = x at *
 generalize r * q = y at *
 refine zap Tryz.func18 rfl (Nat.le_of_ble_eq_true rfl) rfl rfl ?_
 (repeat' (first | refine zad ?_ | (refine is_f 42 ?_; refine zaa (c1) ?_) | (refine is_f 42 ?_; refine zaa (c2) ?_) | (refine is_f 43 ?_; refine zaa (m1) ?_) | (refine is_f 43 ?_; refine zaa (m2) ?_) | (refine is_f 44 ?_; refine zaa (cC) ?_) | (refine zac (fun hb => ?_) (fun hb => ?_) <;> (try (exfalso; omega))) | fail))
 all_goals exact ret1 [] (.int rfl) rfl rfl rfl
theorem zoN (m n : Nat) (hm : m < B64 ^ 4) (hn : n < B64 ^ 4) (hn0 : n ≠ 0) (hV : VR ((m / Nat.gcd m n : Nat) : Int) ((n / Nat.gcd m n : Nat) : Int)) : zan Tryz.prog 22 [wz (m : Int), wz (n : Int)] [] (.tu [rt ((m / Nat.gcd m n : Nat) : Int) ((n / Nat.gcd m n : Nat) : Int), .r (.v (.bool true))]) [] := by
 have hM : W4 (m : Int) := za7 hm
 have hN : W4 (n : Int) := za7 hn
 have v1 := zcz (m : Int) hM
 have v2 := zcz (n : Int) hN
 have cS := zdj (n : Int) hN
 have a1 := zin (m : Int) hM
 have a2 := zin (n : Int) hN
 rw [Int.natAbs_natCast] at a1 a2
 have cG := zmc m n hm hn
 have hg0 : Nat.gcd m n ≠ 0 := Nat.pos_iff_ne_zero.mp (Nat.gcd_pos_of_pos_right _ (Nat.pos_of_ne_zero hn0))
 have hgB : Nat.gcd m n < B64 ^ 4 := Nat.lt_of_le_of_lt (Nat.gcd_le_right _ (Nat.pos_of_ne_zero hn0)) hn
 have d1 := zmZ m _ hm hgB hg0
 have d2 := zmZ n _ hn hgB hg0
 have cV := zdk _ _ hV
 have hsg : sgZ (n : Int) = 1 := by unfold sgZ; rw [if_neg (by omega), if_neg (by omega)]
 rw [hsg] at cS
 clear hV
 generalize m % Nat.gcd m n = x1 at *
 generalize n % Nat.gcd m n = x2 at *
 generalize m / Nat.gcd m n = a at *
 generalize n / Nat.gcd m n = b at *
 generalize Nat.gcd m n = g at *
 rw [zat m] at v1 a1 cG d1 ⊢
 rw [zat n] at v2 a2 cG d2 cS ⊢
 unfold wd at *
 generalize m / B64 / B64 / B64 % B64 = u3 at *
 generalize m / B64 / B64 % B64 = u2 at *
 generalize m / B64 % B64 = u1 at *
 generalize m % B64 = u0 at *
 generalize n / B64 / B64 / B64 % B64 = w3 at *
 generalize n / B64 / B64 % B64 = w2 at *
 generalize n / B64 % B64 = w1 at *
 generalize n % B64 = w0 at *
 refine zap Tryz.func22 rfl (Nat.le_of_ble_eq_true rfl) rfl rfl ?_
 (repeat' (first | refine zad ?_ | (refine is_f 45 ?_; refine zaa (v1) ?_) | (refine is_f 45 ?_; refine zaa (v2) ?_) | (refine is_f 46 ?_; refine zaa (cS) ?_) | (refine is_f 48 ?_; refine zaa (a1) ?_) | (refine is_f 48 ?_; refine zaa (a2) ?_) | (refine is_f 47 ?_; refine zaa (cG) ?_) | (refine is_f 49 ?_; refine zaa (d1) ?_) | (refine is_f 49 ?_; refine zaa (d2) ?_) | (refine is_f 41 ?_; refine zaa (cV) ?_) | (refine zac (fun hb => ?_) (fun hb => ?_) <;> (try (exfalso; omega))) | fail))
 all_goals (first | (exfalso; omega) | exact zbb [] (Rt.rt a b) (.bool rfl) rfl rfl rfl rfl rfl (zak rfl) rfl)
theorem zoM (m n : Nat) (hm : m < B64 ^ 4) (hm0 : m ≠ 0) (hn : n < B64 ^ 4) (hn0 : n ≠ 0) (hV : VR (-((m / Nat.gcd m n : Nat) : Int)) ((n / Nat.gcd m n : Nat) : Int)) : zan Tryz.prog 22 [wz (-(m : Int)), wz (n : Int)] [] (.tu [rt (-((m / Nat.gcd m n : Nat) : Int)) ((n / Nat.gcd m n : Nat) : Int), .r (.v (.bool true))]) [] := by
 have hM : W4 (-(m : Int)) := by unfold W4; rw [Int.natAbs_neg, Int.natAbs_natCast]; exact hm
 have hN : W4 (n : Int) := za7 hn
 have v1 := zcz (-(m : Int)) hM
 have v2 := zcz (n : Int) hN
 have cS := zdj (n : Int) hN
 have a1 := zin (-(m : Int)) hM
 have a2 := zin (n : Int) hN
 rw [Int.natAbs_neg] at a1
 rw [Int.natAbs_natCast] at a1 a2
 have cG := zmc m n hm hn
 have hg0 : Nat.gcd m n ≠ 0 := Nat.pos_iff_ne_zero.mp (Nat.gcd_pos_of_pos_right _ (Nat.pos_of_ne_zero hn0))
 have hgB : Nat.gcd m n < B64 ^ 4 := Nat.lt_of_le_of_lt (Nat.gcd_le_right _ (Nat.pos_of_ne_zero hn0)) hn
 have d1 := zmZ m _ hm hgB hg0
 have d2 := zmZ n _ hn hgB hg0
 have hA : W4 ((m / Nat.gcd m n : Nat) : Int) := za7 (Nat.lt_of_le_of_lt (Nat.div_le_self _ _) hm)
 have cN := zkc _ hA
 have cV := zdk _ _ hV
 have hsg : sgZ (n : Int) = 1 := by unfold sgZ; rw [if_neg (by omega), if_neg (by omega)]
 rw [hsg] at cS
 clear hV
 generalize m % Nat.gcd m n = x1 at *
 generalize n % Nat.gcd m n = x2 at *
 generalize m / Nat.gcd m n = a at *
 generalize n / Nat.gcd m n = b at *
 generalize Nat.gcd m n = g at *
 rw [zaD m hm0] at v1 a1 ⊢
 rw [zat m] at a1 cG d1
 rw [zat n] at v2 a2 cG d2 cS ⊢
 unfold wd at *
 generalize m / B64 / B64 / B64 % B64 = u3 at *
 generalize m / B64 / B64 % B64 = u2 at *
 generalize m / B64 % B64 = u1 at *
 generalize m % B64 = u0 at *
 generalize n / B64 / B64 / B64 % B64 = w3 at *
 generalize n / B64 / B64 % B64 = w2 at *
 generalize n / B64 % B64 = w1 at *
 generalize n % B64 = w0 at *
 refine zap Tryz.func22 rfl (Nat.le_of_ble_eq_true rfl) rfl rfl ?_
 (repeat' (first | refine zad ?_ | (refine is_f 45 ?_; refine zaa (v1) ?_) | (refine is_f 45 ?_; refine zaa (v2) ?_) | (refine is_f 46 ?_; refine zaa (cS) ?_) | (refine is_f 48 ?_; refine zaa (a1) ?_) | (refine is_f 48 ?_; refine zaa (a2) ?_) | (refine is_f 47 ?_; refine zaa (cG) ?_) | (refine is_f 49 ?_; refine zaa (d1) ?_) | (refine is_f 49 ?_; refine zaa (d2) ?_) | (refine is_f 50 ?_; refine zaa (cN) ?_) | (refine is_f 41 ?_; refine zaa (cV) ?_) | (refine zac (fun hb => ?_) (fun hb => ?_) <;> (try (exfalso; omega))) | fail))
 all_goals (first | (exfalso; omega) | exact zbb [] (Rt.rt (-(a : Int)) b) (.bool rfl) rfl rfl rfl rfl rfl (zak rfl) rfl)
theorem zoj (m : Int) (d : Nat) (hm : W4 m) (hd : d < B64 ^ 4) (hd0 : d ≠ 0) (hV : VR (mkQ m d).1 (mkQ m d).2) : zan Tryz.prog 22 [wz m, wz (d : Int)] [] (.tu [rt (mkQ m d).1 (mkQ m d).2, .r (.v (.bool true))]) [] := by
 unfold mkQ at *
 by_cases h : m < 0
 ·rw [if_pos h] at *
  have := zoM m.natAbs d hm (by omega) hd hd0 hV
  rwa [show -(m.natAbs : Int) = m by omega] at this
 ·rw [if_neg h] at *
  have := zoN m.natAbs d hm hd hd0 hV
  rwa [show (m.natAbs : Int) = m by omega] at this
end Go.Proofs.YtibedaeefnjjlaaGreat
