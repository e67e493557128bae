/- Texts of the second layer in one: Tq9 Tq6 Tq10. -/
import Derived.Test.YtibedaeefnjjlaaGreatG39
import Derived.Test.YtibedaeefnjjlaaGreatG4
import Derived.Test.YtibedaeefnjjlaaGreatG38
set_option maxHeartbeats 4000000
set_option maxRecDepth 100000
set_option linter.unusedVariables false
set_option linter.unusedSimpArgs false
namespace Go.Proofs.YtibedaeefnjjlaaGreat
open Go.RowKit Go.Ab
def part (f : Int × Int → Int) (l : List (Int × Int)) (k : Nat) : List (List RV) := nums .i64 ((l.take k).map f) ++ List.replicate (l.length - k) [.v (.int .i64 0)]
def smX (t : List Int) (kind slope : Int) (i : Nat) (v : Int) (k : Nat) : Int × Int × Nat :=
 if kind = 1 then (IntKind.i64.wrap (v + IntKind.i64.wrap ((i : Int) * slope)), v, k)
 else if kind = 2 then (IntKind.i64.wrap (IntKind.i64.wrap (v + IntKind.i64.wrap ((i : Int) * slope)) + (nx t k 7 - 3)), v, adv t k)
 else if kind = 3 then (IntKind.i64.wrap (v + (nx t k 9 - 4)), v, adv t k)
 else if kind = 4 then ((itv t k).1, v, (itv t k).2)
 else if kind = 5 then (if nx t k (5 : Nat) = 1 then (IntKind.i64.wrap (IntKind.i64.wrap (v + (nx t (adv t k) 400 - 200)) + nx t (adv t (adv t k)) 3), IntKind.i64.wrap (v + (nx t (adv t k) 400 - 200)), adv t (adv t (adv t k))) else (IntKind.i64.wrap (v + nx t (adv t k) 3), v, adv t (adv t k)))
 else if kind = 6 then (IntKind.i64.wrap (IntKind.i64.wrap (nx t k 50 * nx t (adv t k) 50) * slope), v, adv t (adv t k))
 else (v, v, k)
def sms (t : List Int) (kind slope : Int) (ts : List Int) : Nat → Nat → Int → Nat → List (Int × Int) → List (Int × Int) × Nat
 | 0, i, v, k, acc => (acc, k)
 | j + 1, i, v, k, acc => sms t kind slope ts j (i + 1) (smX t kind slope i v k).2.1 (smX t kind slope i v k).2.2 (acc ++ [(ts.getD i 0, (smX t kind slope i v k).1)])
def smpL (t : List Int) (k n : Nat) : List (Int × Int) × Nat :=
 sms t (nx t (tmL t k n).2 7) (nx t (itv t (adv t (tmL t k n).2)).2 41 - 20) (tmL t k n).1 (tmL t k n).1.length 0 (itv t (adv t (tmL t k n).2)).1 (adv t (itv t (adv t (tmL t k n).2)).2) []
theorem zph (t : List Int) (kind step : Int) : ∀ (i k : Nat) (a : Int) (acc : List Int), (tms t kind step i k a acc).1.length ≤ acc.length + i
 | 0, k, a, acc => by simp [tms]
 | i + 1, k, a, acc => by
  rw [tms]
  split
  ·simp
  ·have := zph t kind step i (tmD t kind step k).2 (a + (tmD t kind step k).1) (acc ++ [a])
   simp at this
   omega
theorem zpg (t : List Int) (k n : Nat) : (tmL t k n).1.length ≤ n := by
 have h := zph t (nx t k 5) (1 + nx t (itv t (adv t k)).2 50) (nx t (adv t (itv t (adv t k)).2) ((n : Int) + 1)).toNat (adv t (adv t (itv t (adv t k)).2)) (itv t (adv t k)).1 []
 have hn := zau t (adv t (itv t (adv t k)).2) (show (1 : Int) ≤ (n : Int) + 1 by omega)
 unfold tmL
 simp at h
 omega
def smS (t : List Int) (kind slope : Int) (ts : List Int) (i : Nat) (v : Int) (k : Nat) (acc : List (Int × Int)) : St :=
 ⟨[(0, .pt 0 0), (5, .r (.sl 1 (nums .i64 ts))), (6, .ow 1), (7, .r (.v (.int .i64 kind))), (8, .r (.v (.int .i64 v))), (9, .r (.v (.int .i64 slope))), (10, .r (.v (.int .i64 i)))], [(0, some (tb t k)), (1, some (.row 65 2 (smps acc)))], 2⟩
theorem zo4 (t : List Int) (k n : Nat) (ht : Ints t) (htn : t.length ≤ 140737488351232) (hn : n ≤ 1000) : zan Tryz.prog 10 [.pt 0 0, .r (.v (.int .i64 n))] [tb t k] (.fr 65 2 (smps (smpL t k n).1)) [some (tb t (smpL t k n).2)] := by
 refine zap Tryz.func10 rfl (Nat.le_of_ble_eq_true rfl) rfl rfl ?_
 have h7 := zau t (tmL t k n).2 (show (1 : Int) ≤ 7 by omega)
 have h41 := zau t (itv t (adv t (tmL t k n).2)).2 (show (1 : Int) ≤ 41 by omega)
 have hI := zeC t (adv t (tmL t k n).2)
 (repeat' (first | refine zaV ?_ | (refine is_f 27 ?_; refine zaF (zsF t k n ht htn hn) ?_) | (refine is_f 12 ?_; refine zaF (za3 t (tmL t k n).2 7 ht htn (by omega)) ?_) | (refine is_f 28 ?_; refine zaF (zrF t (adv t (tmL t k n).2) ht htn) ?_) | (refine is_f 12 ?_; refine zaF (za3 t (itv t (adv t (tmL t k n).2)).2 41 ht htn (by omega)) ?_) | (refine zaU (fun hb => ?_) (fun hb => ?_) <;> (try (exfalso; omega))) | fail))
 refine zdd 6 65 2 rfl rfl ?_
 have h00 : ([] : List (List RV)) = smps [] := rfl
 have hlen := zpg t k n
 refine zas (fun x : Nat × Int × Nat × List (Int × Int) => smS t (nx t (tmL t k n).2 7) (nx t (itv t (adv t (tmL t k n).2)).2 41 - 20) (tmL t k n).1 x.1 x.2.1 x.2.2.1 x.2.2.2) (fun x => x.1 ≤ (tmL t k n).1.length ∧ sms t (nx t (tmL t k n).2 7) (nx t (itv t (adv t (tmL t k n).2)).2 41 - 20) (tmL t k n).1 ((tmL t k n).1.length - x.1) x.1 x.2.1 x.2.2.1 x.2.2.2 = smpL t k n ∧ x.2.2.2.length = x.1) (fun x => (tmL t k n).1.length - x.1)
  (0, (itv t (adv t (tmL t k n).2)).1, adv t (itv t (adv t (tmL t k n).2)).2, []) ⟨Nat.zero_le _, rfl, rfl⟩ (by (refine Le.mk [(0,0),(1,2)] [1] rfl zcb zcc zal)) fun x hx => ?_
 obtain ⟨i, v, q, acc⟩ := x
 obtain ⟨hx1, hx2, hx3⟩ := hx
 dsimp only at hx1 hx2 hx3
 generalize smpL t k n = R at *
 clear hI
 generalize nx t (tmL t k n).2 7 = kind at *
 generalize hsl : nx t (itv t (adv t (tmL t k n).2)).2 41 - 20 = slope at *
 have hs2 : -20 ≤ slope ∧ slope ≤ 20 := by omega
 clear hsl h41
 generalize (tmL t k n).1 = ts at *
 change awp _ _ _ _ _ (smS t kind slope ts i v q acc)
 have hbl : (nums .i64 ts).length = ts.length := zbz .i64 ts
 have hal := zjp acc
 rcases Nat.lt_or_ge i ts.length with hi | hi
 ·obtain ⟨j, hj⟩ : ∃ j, ts.length - i = j + 1 := ⟨ts.length - i - 1, by omega⟩
  have hj2 : j = ts.length - (i + 1) := by omega
  rw [hj, sms] at hx2
  subst hj2
  by_cases k1 : kind = 1
  ·have hD : smX t kind slope i v q = (IntKind.i64.wrap (v + IntKind.i64.wrap ((i : Int) * slope)), v, q) := by unfold smX; (repeat' split) <;> first | rfl | (exfalso; omega)
   rw [hD] at hx2
   dsimp only at hx2
   have hE : smps acc ++ [[.v (.int .i64 (ts.getD i 0)), .v (.int .i64 (IntKind.i64.wrap (v + IntKind.i64.wrap ((i : Int) * slope))))]] = smps (acc ++ [(ts.getD i 0, IntKind.i64.wrap (v + IntKind.i64.wrap ((i : Int) * slope)))]) := by rw [zb6]; rfl
   (repeat' (first | refine zaV ?_ | (refine zaU (fun hb => ?_) (fun hb => ?_) <;> (try (exfalso; omega))) | fail))
   all_goals exact ⟨(i + 1, v, q, acc ++ [(ts.getD i 0, IntKind.i64.wrap (v + IntKind.i64.wrap ((i : Int) * slope)))]), ⟨by show i + 1 ≤ ts.length; omega, hx2, by show (acc ++ [(ts.getD i 0, IntKind.i64.wrap (v + IntKind.i64.wrap ((i : Int) * slope)))]).length = i + 1; rw [List.length_append, hx3]; rfl⟩, by show Le _ _ (smS t kind slope ts (i + 1) (v) (q) (acc ++ [(ts.getD i 0, IntKind.i64.wrap (v + IntKind.i64.wrap ((i : Int) * slope)))])); (refine Le.mk [(0,0),(1,3)] [] rfl zcb zcc zal), by show ts.length - (i + 1) < ts.length - i; omega⟩
  ·by_cases k2 : kind = 2
   ·have h9 := zau t q (show (1 : Int) ≤ 7 by omega)
    have hD : smX t kind slope i v q = (IntKind.i64.wrap (IntKind.i64.wrap (v + IntKind.i64.wrap ((i : Int) * slope)) + (nx t q 7 - 3)), v, adv t q) := by unfold smX; (repeat' split) <;> first | rfl | (exfalso; omega)
    rw [hD] at hx2
    dsimp only at hx2
    have hE : smps acc ++ [[.v (.int .i64 (ts.getD i 0)), .v (.int .i64 (IntKind.i64.wrap (IntKind.i64.wrap (v + IntKind.i64.wrap ((i : Int) * slope)) + (nx t q 7 - 3))))]] = smps (acc ++ [(ts.getD i 0, IntKind.i64.wrap (IntKind.i64.wrap (v + IntKind.i64.wrap ((i : Int) * slope)) + (nx t q 7 - 3)))]) := by rw [zb6]; rfl
    (repeat' (first | refine zaV ?_ | (refine is_f 12 ?_; refine zaF (za3 t q 7 ht htn (by omega)) ?_) | (refine zaU (fun hb => ?_) (fun hb => ?_) <;> (try (exfalso; omega))) | fail))
    all_goals exact ⟨(i + 1, v, adv t q, acc ++ [(ts.getD i 0, IntKind.i64.wrap (IntKind.i64.wrap (v + IntKind.i64.wrap ((i : Int) * slope)) + (nx t q 7 - 3)))]), ⟨by show i + 1 ≤ ts.length; omega, hx2, by show (acc ++ [(ts.getD i 0, IntKind.i64.wrap (IntKind.i64.wrap (v + IntKind.i64.wrap ((i : Int) * slope)) + (nx t q 7 - 3)))]).length = i + 1; rw [List.length_append, hx3]; rfl⟩, by show Le _ _ (smS t kind slope ts (i + 1) (v) (adv t q) (acc ++ [(ts.getD i 0, IntKind.i64.wrap (IntKind.i64.wrap (v + IntKind.i64.wrap ((i : Int) * slope)) + (nx t q 7 - 3)))])); (refine Le.mk [(0,0),(1,3)] [] rfl zcb zcc zal), by show ts.length - (i + 1) < ts.length - i; omega⟩
   ·by_cases k3 : kind = 3
    ·have h9 := zau t q (show (1 : Int) ≤ 9 by omega)
     have hD : smX t kind slope i v q = (IntKind.i64.wrap (v + (nx t q 9 - 4)), v, adv t q) := by unfold smX; (repeat' split) <;> first | rfl | (exfalso; omega)
     rw [hD] at hx2
     dsimp only at hx2
     have hE : smps acc ++ [[.v (.int .i64 (ts.getD i 0)), .v (.int .i64 (IntKind.i64.wrap (v + (nx t q 9 - 4))))]] = smps (acc ++ [(ts.getD i 0, IntKind.i64.wrap (v + (nx t q 9 - 4)))]) := by rw [zb6]; rfl
     (repeat' (first | refine zaV ?_ | (refine is_f 12 ?_; refine zaF (za3 t q 9 ht htn (by omega)) ?_) | (refine zaU (fun hb => ?_) (fun hb => ?_) <;> (try (exfalso; omega))) | fail))
     all_goals exact ⟨(i + 1, v, adv t q, acc ++ [(ts.getD i 0, IntKind.i64.wrap (v + (nx t q 9 - 4)))]), ⟨by show i + 1 ≤ ts.length; omega, hx2, by show (acc ++ [(ts.getD i 0, IntKind.i64.wrap (v + (nx t q 9 - 4)))]).length = i + 1; rw [List.length_append, hx3]; rfl⟩, by show Le _ _ (smS t kind slope ts (i + 1) (v) (adv t q) (acc ++ [(ts.getD i 0, IntKind.i64.wrap (v + (nx t q 9 - 4)))])); (refine Le.mk [(0,0),(1,3)] [] rfl zcb zcc zal), by show ts.length - (i + 1) < ts.length - i; omega⟩
    ·by_cases k4 : kind = 4
     ·have hD : smX t kind slope i v q = ((itv t q).1, v, (itv t q).2) := by unfold smX; (repeat' split) <;> first | rfl | (exfalso; omega)
      rw [hD] at hx2
      dsimp only at hx2
      have hE : smps acc ++ [[.v (.int .i64 (ts.getD i 0)), .v (.int .i64 ((itv t q).1))]] = smps (acc ++ [(ts.getD i 0, (itv t q).1)]) := by rw [zb6]; rfl
      (repeat' (first | refine zaV ?_ | (refine is_f 28 ?_; refine zaF (zrF t q ht htn) ?_) | (refine zaU (fun hb => ?_) (fun hb => ?_) <;> (try (exfalso; omega))) | fail))
      all_goals exact ⟨(i + 1, v, (itv t q).2, acc ++ [(ts.getD i 0, (itv t q).1)]), ⟨by show i + 1 ≤ ts.length; omega, hx2, by show (acc ++ [(ts.getD i 0, (itv t q).1)]).length = i + 1; rw [List.length_append, hx3]; rfl⟩, by show Le _ _ (smS t kind slope ts (i + 1) (v) ((itv t q).2) (acc ++ [(ts.getD i 0, (itv t q).1)])); (refine Le.mk [(0,0),(1,3)] [] rfl zcb zcc zal), by show ts.length - (i + 1) < ts.length - i; omega⟩
     ·by_cases k5 : kind = 5
      ·by_cases k5b : nx t q (5 : Nat) = 1
       ·have h400 := zau t (adv t q) (show (1 : Int) ≤ 400 by omega)
        have h3 := zau t (adv t (adv t q)) (show (1 : Int) ≤ 3 by omega)
        have hD : smX t kind slope i v q = (IntKind.i64.wrap (IntKind.i64.wrap (v + (nx t (adv t q) 400 - 200)) + nx t (adv t (adv t q)) 3), IntKind.i64.wrap (v + (nx t (adv t q) 400 - 200)), adv t (adv t (adv t q))) := by unfold smX; (repeat' split) <;> first | rfl | (exfalso; omega)
        rw [hD] at hx2
        dsimp only at hx2
        have hE : smps acc ++ [[.v (.int .i64 (ts.getD i 0)), .v (.int .i64 (IntKind.i64.wrap (IntKind.i64.wrap (v + (nx t (adv t q) 400 - 200)) + nx t (adv t (adv t q)) 3)))]] = smps (acc ++ [(ts.getD i 0, IntKind.i64.wrap (IntKind.i64.wrap (v + (nx t (adv t q) 400 - 200)) + nx t (adv t (adv t q)) 3))]) := by rw [zb6]; rfl
        (repeat' (first | refine zaV ?_ | (refine is_f 20 ?_; refine zaF (znt t q 5 (by omega) (by omega) ht htn) ?_) | (refine is_f 12 ?_; refine zaF (za3 t (adv t q) 400 ht htn (by omega)) ?_) | (refine is_f 12 ?_; refine zaF (za3 t (adv t (adv t q)) 3 ht htn (by omega)) ?_) | (refine zaU (fun hb => ?_) (fun hb => ?_) <;> (try (exfalso; omega))) | fail))
        all_goals exact ⟨(i + 1, IntKind.i64.wrap (v + (nx t (adv t q) 400 - 200)), adv t (adv t (adv t q)), acc ++ [(ts.getD i 0, IntKind.i64.wrap (IntKind.i64.wrap (v + (nx t (adv t q) 400 - 200)) + nx t (adv t (adv t q)) 3))]), ⟨by show i + 1 ≤ ts.length; omega, hx2, by show (acc ++ [(ts.getD i 0, IntKind.i64.wrap (IntKind.i64.wrap (v + (nx t (adv t q) 400 - 200)) + nx t (adv t (adv t q)) 3))]).length = i + 1; rw [List.length_append, hx3]; rfl⟩, by show Le _ _ (smS t kind slope ts (i + 1) (IntKind.i64.wrap (v + (nx t (adv t q) 400 - 200))) (adv t (adv t (adv t q))) (acc ++ [(ts.getD i 0, IntKind.i64.wrap (IntKind.i64.wrap (v + (nx t (adv t q) 400 - 200)) + nx t (adv t (adv t q)) 3))])); (refine Le.mk [(0,0),(1,3)] [] rfl zcb zcc zal), by show ts.length - (i + 1) < ts.length - i; omega⟩
       ·have h3 := zau t (adv t q) (show (1 : Int) ≤ 3 by omega)
        have hD : smX t kind slope i v q = (IntKind.i64.wrap (v + nx t (adv t q) 3), v, adv t (adv t q)) := by unfold smX; (repeat' split) <;> first | rfl | (exfalso; omega)
        rw [hD] at hx2
        dsimp only at hx2
        have hE : smps acc ++ [[.v (.int .i64 (ts.getD i 0)), .v (.int .i64 (IntKind.i64.wrap (v + nx t (adv t q) 3)))]] = smps (acc ++ [(ts.getD i 0, IntKind.i64.wrap (v + nx t (adv t q) 3))]) := by rw [zb6]; rfl
        (repeat' (first | refine zaV ?_ | (refine is_f 20 ?_; refine zaF (znt t q 5 (by omega) (by omega) ht htn) ?_) | (refine is_f 12 ?_; refine zaF (za3 t (adv t q) 3 ht htn (by omega)) ?_) | (refine zaU (fun hb => ?_) (fun hb => ?_) <;> (try (exfalso; omega))) | fail))
        all_goals exact ⟨(i + 1, v, adv t (adv t q), acc ++ [(ts.getD i 0, IntKind.i64.wrap (v + nx t (adv t q) 3))]), ⟨by show i + 1 ≤ ts.length; omega, hx2, by show (acc ++ [(ts.getD i 0, IntKind.i64.wrap (v + nx t (adv t q) 3))]).length = i + 1; rw [List.length_append, hx3]; rfl⟩, by show Le _ _ (smS t kind slope ts (i + 1) (v) (adv t (adv t q)) (acc ++ [(ts.getD i 0, IntKind.i64.wrap (v + nx t (adv t q) 3))])); (refine Le.mk [(0,0),(1,3)] [] rfl zcb zcc zal), by show ts.length - (i + 1) < ts.length - i; omega⟩
      ·by_cases k6 : kind = 6
       ·have h50 := zau t q (show (1 : Int) ≤ 50 by omega)
        have h51 := zau t (adv t q) (show (1 : Int) ≤ 50 by omega)
        have hD : smX t kind slope i v q = (IntKind.i64.wrap (IntKind.i64.wrap (nx t q 50 * nx t (adv t q) 50) * slope), v, adv t (adv t q)) := by unfold smX; (repeat' split) <;> first | rfl | (exfalso; omega)
        rw [hD] at hx2
        dsimp only at hx2
        have hE : smps acc ++ [[.v (.int .i64 (ts.getD i 0)), .v (.int .i64 (IntKind.i64.wrap (IntKind.i64.wrap (nx t q 50 * nx t (adv t q) 50) * slope)))]] = smps (acc ++ [(ts.getD i 0, IntKind.i64.wrap (IntKind.i64.wrap (nx t q 50 * nx t (adv t q) 50) * slope))]) := by rw [zb6]; rfl
        (repeat' (first | refine zaV ?_ | (refine is_f 12 ?_; refine zaF (za3 t q 50 ht htn (by omega)) ?_) | (refine is_f 12 ?_; refine zaF (za3 t (adv t q) 50 ht htn (by omega)) ?_) | (refine zaU (fun hb => ?_) (fun hb => ?_) <;> (try (exfalso; omega))) | fail))
        all_goals exact ⟨(i + 1, v, adv t (adv t q), acc ++ [(ts.getD i 0, IntKind.i64.wrap (IntKind.i64.wrap (nx t q 50 * nx t (adv t q) 50) * slope))]), ⟨by show i + 1 ≤ ts.length; omega, hx2, by show (acc ++ [(ts.getD i 0, IntKind.i64.wrap (IntKind.i64.wrap (nx t q 50 * nx t (adv t q) 50) * slope))]).length = i + 1; rw [List.length_append, hx3]; rfl⟩, by show Le _ _ (smS t kind slope ts (i + 1) (v) (adv t (adv t q)) (acc ++ [(ts.getD i 0, IntKind.i64.wrap (IntKind.i64.wrap (nx t q 50 * nx t (adv t q) 50) * slope))])); (refine Le.mk [(0,0),(1,3)] [] rfl zcb zcc zal), by show ts.length - (i + 1) < ts.length - i; omega⟩
       ·have hD : smX t kind slope i v q = (v, v, q) := by unfold smX; (repeat' split) <;> first | rfl | (exfalso; omega)
        rw [hD] at hx2
        dsimp only at hx2
        have hE : smps acc ++ [[.v (.int .i64 (ts.getD i 0)), .v (.int .i64 (v))]] = smps (acc ++ [(ts.getD i 0, v)]) := by rw [zb6]; rfl
        (repeat' (first | refine zaV ?_ | (refine zaU (fun hb => ?_) (fun hb => ?_) <;> (try (exfalso; omega))) | fail))
        all_goals exact ⟨(i + 1, v, q, acc ++ [(ts.getD i 0, v)]), ⟨by show i + 1 ≤ ts.length; omega, hx2, by show (acc ++ [(ts.getD i 0, v)]).length = i + 1; rw [List.length_append, hx3]; rfl⟩, by show Le _ _ (smS t kind slope ts (i + 1) (v) (q) (acc ++ [(ts.getD i 0, v)])); (refine Le.mk [(0,0),(1,3)] [] rfl zcb zcc zal), by show ts.length - (i + 1) < ts.length - i; omega⟩
 ·have hz : ts.length - i = 0 := by omega
  rw [hz, sms] at hx2
  subst hx2
  (repeat' (first | refine zaV ?_ | (refine zaU (fun hb => ?_) (fun hb => ?_) <;> (try (exfalso; omega))) | fail))
  all_goals exact zdl [] (.fr 1 _ _ _ rfl) rfl rfl (zbN rfl rfl) rfl
theorem ziw (t : List Int) (kind step : Int) (hs : 1 ≤ step ∧ step ≤ 50) : ∀ (i k : Nat) (a : Int) (acc : List Int), acc.Pairwise (· < ·) → (∀ x ∈ acc, x < a ∧ I64 x) → I64 a → (tms t kind step i k a acc).1.Pairwise (· < ·) ∧ ∀ x ∈ (tms t kind step i k a acc).1, I64 x
 | 0, k, a, acc, h1, h2, h3 => by rw [tms]; exact ⟨h1, fun x hx => (h2 x hx).2⟩
 | i + 1, k, a, acc, h1, h2, h3 => by
  have hd := zdn t kind step k hs
  have hp : (acc ++ [a]).Pairwise (· < ·) := List.pairwise_append.2 ⟨h1, by simp, fun x hx y hy => by simp at hy; subst hy; exact (h2 x hx).1⟩
  have hr : ∀ x ∈ acc ++ [a], I64 x := fun x hx => by
   rcases List.mem_append.1 hx with h | h
   ·exact (h2 x h).2
   ·simp at h; subst h; exact h3
  rw [tms]
  split
  ·exact ⟨hp, hr⟩
  ·rename_i hov
   have h4 : I64 (a + (tmD t kind step k).1) := by unfold I64 at *; omega
   refine ziw t kind step hs i _ _ _ hp (fun x hx => ⟨?_, hr x hx⟩) h4
   rcases List.mem_append.1 hx with h | h
   ·have := (h2 x h).1; omega
   ·simp at h; omega
theorem ziu (t : List Int) (k n : Nat) : (tmL t k n).1.Pairwise (· < ·) ∧ ∀ x ∈ (tmL t k n).1, I64 x := by
 have h50 := zau t (itv t (adv t k)).2 (show (1 : Int) ≤ 50 by omega)
 exact ziw t _ _ (by omega) _ _ _ [] (by simp) (by simp) (zeC t (adv t k))
theorem zmz (x : Int) : I64 (IntKind.i64.wrap x) := by unfold I64; rw [i64w]; omega
theorem zo9 (t : List Int) (kind slope : Int) (i : Nat) (v : Int) (k : Nat) (h : I64 v) : I64 (smX t kind slope i v k).1 ∧ I64 (smX t kind slope i v k).2.1 := by
 unfold smX
 (repeat' split) <;> exact ⟨by first | exact zmz _ | exact zeC _ _ | exact h, by first | exact h | exact zmz _⟩
theorem zpa (t : List Int) (kind slope : Int) (ts : List Int) : ∀ (j i : Nat) (v : Int) (k : Nat) (acc : List (Int × Int)), i + j = ts.length → (sms t kind slope ts j i v k acc).1.map Prod.fst = acc.map Prod.fst ++ ts.drop i
 | 0, i, v, k, acc, h => by rw [sms, List.drop_eq_nil_of_le (by omega), List.append_nil]
 | j + 1, i, v, k, acc, h => by
  rw [sms, zpa t kind slope ts j (i + 1) _ _ _ (by omega), List.map_append, List.append_assoc]
  congr 1
  rw [List.drop_eq_getElem_cons (show i < ts.length by omega)]
  simp [show i < ts.length by omega]
theorem zpb (t : List Int) (kind slope : Int) (ts : List Int) : ∀ (j i : Nat) (v : Int) (k : Nat) (acc : List (Int × Int)), I64 v → (∀ s ∈ acc, I64 s.2) → ∀ s ∈ (sms t kind slope ts j i v k acc).1, I64 s.2
 | 0, i, v, k, acc, h, h2 => by rw [sms]; exact h2
 | j + 1, i, v, k, acc, h, h2 => by
  rw [sms]
  have hx := zo9 t kind slope i v k h
  refine zpb t kind slope ts j (i + 1) _ _ _ hx.2 fun s hs => ?_
  rcases List.mem_append.1 hs with h3 | h3
  ·exact h2 s h3
  ·simp at h3; subst h3; exact hx.1
theorem zjn (t : List Int) (k n : Nat) : (smpL t k n).1.map Prod.fst = (tmL t k n).1 := by
 unfold smpL; rw [zpa _ _ _ _ _ _ _ _ _ (by omega)]; simp
theorem zqp (t : List Int) (k n : Nat) : (smpL t k n).1.length ≤ n := by
 have := congrArg List.length (zjn t k n)
 rw [List.length_map] at this
 rw [this]; exact zpg t k n
theorem zpX {α : Type} (l : List α) (i : Nat) (d : α) (h : i < l.length) : l.getD i d ∈ l := by
 have : l.getD i d = l[i] := by simp [h]
 rw [this]; exact List.getElem_mem h
theorem zqq (t : List Int) (k n : Nat) : Smp (smpL t k n).1 := by
 intro i hi
 have hm := zpX _ i ((0 : Int), (0 : Int)) hi
 constructor
 ·have h1 : ((smpL t k n).1.getD i (0, 0)).1 ∈ (smpL t k n).1.map Prod.fst := List.mem_map_of_mem hm
  rw [zjn] at h1
  exact (ziu t k n).2 _ h1
 ·exact zpb t _ _ _ _ _ _ _ [] (zeC t _) (by simp) _ hm
end Go.Proofs.YtibedaeefnjjlaaGreat
