/- Texts of the second layer in one: Tq7 Tq8 Tq9 Tq6 Tq10. -/
import Derived.Test.YtibedaeefnjjlaaGreatG11
import Derived.Test.YtibedaeefnjjlaaGreatG5
set_option maxRecDepth 100000
set_option linter.unusedVariables false
set_option linter.unusedSimpArgs false
namespace Go.Proofs.YtibedaeefnjjlaaGreat
open Go.RowKit Go.Ab
def inc (l : List Int) : Bool := allR (l.length - 1) fun j => decide (l.getD j 0 < l.getD (j + 1) 0)
def dst (a b : Int) : Int := if a < b then b - a else a - b
theorem dst_sub (a b : Int) (h : I64 a) (h' : I64 b) (hab : a ≤ b) : IntKind.u64.wrap (IntKind.u64.wrap b - IntKind.u64.wrap a) = b - a := by
 unfold I64 at h h'
 rw [u64w, u64w, u64w]; omega
theorem refDist_m (a b : Int) (ha : I64 a) (hb0 : I64 b) : Meets Tryz.prog 58 [.r (.v (.int .i64 a)), .r (.v (.int .i64 b))] [] (.r (.v (.int .u64 (dst a b)))) [] := by
 refine fn_of Tryz.func58 rfl (Nat.le_of_ble_eq_true rfl) rfl rfl ?_
 by_cases h : a < b
 ·have h1 := dst_sub a b ha hb0 (by omega)
  have h2 : b - a = dst a b := (if_pos h).symm
  (repeat' (first | refine r_9b4c86 ?_ | (refine r_5efa8e (fun hb => ?_) (fun hb => ?_) <;> (try (exfalso; omega))) | fail))
  all_goals exact ret1 [] (.int h2) rfl rfl rfl
 ·have h1 := dst_sub b a hb0 ha (by omega)
  have h2 : a - b = dst a b := (if_neg h).symm
  (repeat' (first | refine r_9b4c86 ?_ | (refine r_5efa8e (fun hb => ?_) (fun hb => ?_) <;> (try (exfalso; omega))) | fail))
  all_goals exact ret1 [] (.int h2) rfl rfl rfl
end Go.Proofs.YtibedaeefnjjlaaGreat
namespace Go.Proofs.YtibedaeefnjjlaaGreat
open Go.RowKit Go.Ab
def Smp (l : List (Int × Int)) : Prop := ∀ i, i < l.length → I64 (l.getD i (0, 0)).1 ∧ I64 (l.getD i (0, 0)).2
def chkS (l : List (Int × Int)) : Int := if inc (l.map Prod.fst) then 0 else 7
end Go.Proofs.YtibedaeefnjjlaaGreat
namespace Go.Proofs.YtibedaeefnjjlaaGreat
open Go.RowKit Go.Ab
def part (f : Int × Int → Int) (l : List (Int × Int)) (k : Nat) : List (List RV) := nums .i64 ((l.take k).map f) ++ List.replicate (l.length - k) [.v (.int .i64 0)]
end Go.Proofs.YtibedaeefnjjlaaGreat
namespace Go.Proofs.YtibedaeefnjjlaaGreat
open Go.RowKit Go.Ab
def smX (t : List Int) (kind slope : Int) (i : Nat) (v : Int) (k : Nat) : Int × Int × Nat :=
 if kind = 1 then (IntKind.i64.wrap (v + IntKind.i64.wrap ((i : Int) * slope)), v, k)
 else if kind = 2 then (IntKind.i64.wrap (IntKind.i64.wrap (v + IntKind.i64.wrap ((i : Int) * slope)) + (nx t k 7 - 3)), v, adv t k)
 else if kind = 3 then (IntKind.i64.wrap (v + (nx t k 9 - 4)), v, adv t k)
 else if kind = 4 then ((itv t k).1, v, (itv t k).2)
 else if kind = 5 then (if nx t k (5 : Nat) = 1 then (IntKind.i64.wrap (IntKind.i64.wrap (v + (nx t (adv t k) 400 - 200)) + nx t (adv t (adv t k)) 3), IntKind.i64.wrap (v + (nx t (adv t k) 400 - 200)), adv t (adv t (adv t k))) else (IntKind.i64.wrap (v + nx t (adv t k) 3), v, adv t (adv t k)))
 else if kind = 6 then (IntKind.i64.wrap (IntKind.i64.wrap (nx t k 50 * nx t (adv t k) 50) * slope), v, adv t (adv t k))
 else (v, v, k)
def sms (t : List Int) (kind slope : Int) (ts : List Int) : Nat → Nat → Int → Nat → List (Int × Int) → List (Int × Int) × Nat
 | 0, i, v, k, acc => (acc, k)
 | j + 1, i, v, k, acc => sms t kind slope ts j (i + 1) (smX t kind slope i v k).2.1 (smX t kind slope i v k).2.2 (acc ++ [(ts.getD i 0, (smX t kind slope i v k).1)])
def smpL (t : List Int) (k n : Nat) : List (Int × Int) × Nat :=
 sms t (nx t (tmL t k n).2 7) (nx t (itv t (adv t (tmL t k n).2)).2 41 - 20) (tmL t k n).1 (tmL t k n).1.length 0 (itv t (adv t (tmL t k n).2)).1 (adv t (itv t (adv t (tmL t k n).2)).2) []
theorem tms_len (t : List Int) (kind step : Int) : ∀ (i k : Nat) (a : Int) (acc : List Int), (tms t kind step i k a acc).1.length ≤ acc.length + i
 | 0, k, a, acc => by simp [tms]
 | i + 1, k, a, acc => by
  rw [tms]
  split
  ·simp
  ·have := tms_len t kind step i (tmD t kind step k).2 (a + (tmD t kind step k).1) (acc ++ [a])
   simp at this
   omega
theorem tmL_len (t : List Int) (k n : Nat) : (tmL t k n).1.length ≤ n := by
 have h := tms_len t (nx t k 5) (1 + nx t (itv t (adv t k)).2 50) (nx t (adv t (itv t (adv t k)).2) ((n : Int) + 1)).toNat (adv t (adv t (itv t (adv t k)).2)) (itv t (adv t k)).1 []
 have hn := nx_range t (adv t (itv t (adv t k)).2) (show (1 : Int) ≤ (n : Int) + 1 by omega)
 unfold tmL
 simp at h
 omega
def smS (t : List Int) (kind slope : Int) (ts : List Int) (i : Nat) (v : Int) (k : Nat) (acc : List (Int × Int)) : St :=
 ⟨[(0, .pt 0 0), (5, .r (.sl 1 (nums .i64 ts))), (6, .ow 1), (7, .r (.v (.int .i64 kind))), (8, .r (.v (.int .i64 v))), (9, .r (.v (.int .i64 slope))), (10, .r (.v (.int .i64 i)))], [(0, some (tb t k)), (1, some (.row 65 2 (smps acc)))], 2⟩
set_option maxHeartbeats 4000000 in
theorem samples_m (t : List Int) (k n : Nat) (ht : Ints t) (htn : t.length ≤ 140737488351232) (hn : n ≤ 1000) : Meets Tryz.prog 10 [.pt 0 0, .r (.v (.int .i64 n))] [tb t k] (.fr 65 2 (smps (smpL t k n).1)) [some (tb t (smpL t k n).2)] := by
 refine fn_of Tryz.func10 rfl (Nat.le_of_ble_eq_true rfl) rfl rfl ?_
 have h7 := nx_range t (tmL t k n).2 (show (1 : Int) ≤ 7 by omega)
 have h41 := nx_range t (itv t (adv t (tmL t k n).2)).2 (show (1 : Int) ≤ 41 by omega)
 have hI := itv_range t (adv t (tmL t k n).2)
 (repeat' (first | refine r_9b4c86 ?_ | (refine is_f 27 ?_; refine r_23d47f (times_m t k n ht htn hn) ?_) | (refine is_f 12 ?_; refine r_23d47f (next_m t (tmL t k n).2 7 ht htn (by omega)) ?_) | (refine is_f 28 ?_; refine r_23d47f (int_m t (adv t (tmL t k n).2) ht htn) ?_) | (refine is_f 12 ?_; refine r_23d47f (next_m t (itv t (adv t (tmL t k n).2)).2 41 ht htn (by omega)) ?_) | (refine r_5efa8e (fun hb => ?_) (fun hb => ?_) <;> (try (exfalso; omega))) | fail))
 refine awp_nilow 6 65 2 rfl rfl ?_
 have h00 : ([] : List (List RV)) = smps [] := rfl
 have hlen := tmL_len t k n
 refine awp_loop' (fun x : Nat × Int × Nat × List (Int × Int) => smS t (nx t (tmL t k n).2 7) (nx t (itv t (adv t (tmL t k n).2)).2 41 - 20) (tmL t k n).1 x.1 x.2.1 x.2.2.1 x.2.2.2) (fun x => x.1 ≤ (tmL t k n).1.length ∧ sms t (nx t (tmL t k n).2 7) (nx t (itv t (adv t (tmL t k n).2)).2 41 - 20) (tmL t k n).1 ((tmL t k n).1.length - x.1) x.1 x.2.1 x.2.2.1 x.2.2.2 = smpL t k n ∧ x.2.2.2.length = x.1) (fun x => (tmL t k n).1.length - x.1)
  (0, (itv t (adv t (tmL t k n).2)).1, adv t (itv t (adv t (tmL t k n).2)).2, []) ⟨Nat.zero_le _, rfl, rfl⟩ (by (refine Le.mk [(0,0),(1,2)] [1] rfl q_4bd83 q_5650d q_509a2)) fun x hx => ?_
 obtain ⟨i, v, q, acc⟩ := x
 obtain ⟨hx1, hx2, hx3⟩ := hx
 dsimp only at hx1 hx2 hx3
 generalize smpL t k n = R at *
 clear hI
 generalize nx t (tmL t k n).2 7 = kind at *
 generalize hsl : nx t (itv t (adv t (tmL t k n).2)).2 41 - 20 = slope at *
 have hs2 : -20 ≤ slope ∧ slope ≤ 20 := by omega
 clear hsl h41
 generalize (tmL t k n).1 = ts at *
 change awp _ _ _ _ _ (smS t kind slope ts i v q acc)
 have hbl : (nums .i64 ts).length = ts.length := nums_len .i64 ts
 have hal := smps_len acc
 rcases Nat.lt_or_ge i ts.length with hi | hi
 ·obtain ⟨j, hj⟩ : ∃ j, ts.length - i = j + 1 := ⟨ts.length - i - 1, by omega⟩
  have hj2 : j = ts.length - (i + 1) := by omega
  rw [hj, sms] at hx2
  subst hj2
  by_cases k1 : kind = 1
  ·have hD : smX t kind slope i v q = (IntKind.i64.wrap (v + IntKind.i64.wrap ((i : Int) * slope)), v, q) := by unfold smX; (repeat' split) <;> first | rfl | (exfalso; omega)
   rw [hD] at hx2
   dsimp only at hx2
   have hE : smps acc ++ [[.v (.int .i64 (ts.getD i 0)), .v (.int .i64 (IntKind.i64.wrap (v + IntKind.i64.wrap ((i : Int) * slope))))]] = smps (acc ++ [(ts.getD i 0, IntKind.i64.wrap (v + IntKind.i64.wrap ((i : Int) * slope)))]) := by rw [smps_append]; rfl
   (repeat' (first | refine r_9b4c86 ?_ | (refine r_5efa8e (fun hb => ?_) (fun hb => ?_) <;> (try (exfalso; omega))) | fail))
   all_goals exact ⟨(i + 1, v, q, acc ++ [(ts.getD i 0, IntKind.i64.wrap (v + IntKind.i64.wrap ((i : Int) * slope)))]), ⟨by show i + 1 ≤ ts.length; omega, hx2, by show (acc ++ [(ts.getD i 0, IntKind.i64.wrap (v + IntKind.i64.wrap ((i : Int) * slope)))]).length = i + 1; rw [List.length_append, hx3]; rfl⟩, by show Le _ _ (smS t kind slope ts (i + 1) (v) (q) (acc ++ [(ts.getD i 0, IntKind.i64.wrap (v + IntKind.i64.wrap ((i : Int) * slope)))])); (refine Le.mk [(0,0),(1,3)] [] rfl q_4bd83 q_5650d q_509a2), by show ts.length - (i + 1) < ts.length - i; omega⟩
  ·by_cases k2 : kind = 2
   ·have h9 := nx_range t q (show (1 : Int) ≤ 7 by omega)
    have hD : smX t kind slope i v q = (IntKind.i64.wrap (IntKind.i64.wrap (v + IntKind.i64.wrap ((i : Int) * slope)) + (nx t q 7 - 3)), v, adv t q) := by unfold smX; (repeat' split) <;> first | rfl | (exfalso; omega)
    rw [hD] at hx2
    dsimp only at hx2
    have hE : smps acc ++ [[.v (.int .i64 (ts.getD i 0)), .v (.int .i64 (IntKind.i64.wrap (IntKind.i64.wrap (v + IntKind.i64.wrap ((i : Int) * slope)) + (nx t q 7 - 3))))]] = smps (acc ++ [(ts.getD i 0, IntKind.i64.wrap (IntKind.i64.wrap (v + IntKind.i64.wrap ((i : Int) * slope)) + (nx t q 7 - 3)))]) := by rw [smps_append]; rfl
    (repeat' (first | refine r_9b4c86 ?_ | (refine is_f 12 ?_; refine r_23d47f (next_m t q 7 ht htn (by omega)) ?_) | (refine r_5efa8e (fun hb => ?_) (fun hb => ?_) <;> (try (exfalso; omega))) | fail))
    all_goals exact ⟨(i + 1, v, adv t q, acc ++ [(ts.getD i 0, IntKind.i64.wrap (IntKind.i64.wrap (v + IntKind.i64.wrap ((i : Int) * slope)) + (nx t q 7 - 3)))]), ⟨by show i + 1 ≤ ts.length; omega, hx2, by show (acc ++ [(ts.getD i 0, IntKind.i64.wrap (IntKind.i64.wrap (v + IntKind.i64.wrap ((i : Int) * slope)) + (nx t q 7 - 3)))]).length = i + 1; rw [List.length_append, hx3]; rfl⟩, by show Le _ _ (smS t kind slope ts (i + 1) (v) (adv t q) (acc ++ [(ts.getD i 0, IntKind.i64.wrap (IntKind.i64.wrap (v + IntKind.i64.wrap ((i : Int) * slope)) + (nx t q 7 - 3)))])); (refine Le.mk [(0,0),(1,3)] [] rfl q_4bd83 q_5650d q_509a2), by show ts.length - (i + 1) < ts.length - i; omega⟩
   ·by_cases k3 : kind = 3
    ·have h9 := nx_range t q (show (1 : Int) ≤ 9 by omega)
     have hD : smX t kind slope i v q = (IntKind.i64.wrap (v + (nx t q 9 - 4)), v, adv t q) := by unfold smX; (repeat' split) <;> first | rfl | (exfalso; omega)
     rw [hD] at hx2
     dsimp only at hx2
     have hE : smps acc ++ [[.v (.int .i64 (ts.getD i 0)), .v (.int .i64 (IntKind.i64.wrap (v + (nx t q 9 - 4))))]] = smps (acc ++ [(ts.getD i 0, IntKind.i64.wrap (v + (nx t q 9 - 4)))]) := by rw [smps_append]; rfl
     (repeat' (first | refine r_9b4c86 ?_ | (refine is_f 12 ?_; refine r_23d47f (next_m t q 9 ht htn (by omega)) ?_) | (refine r_5efa8e (fun hb => ?_) (fun hb => ?_) <;> (try (exfalso; omega))) | fail))
     all_goals exact ⟨(i + 1, v, adv t q, acc ++ [(ts.getD i 0, IntKind.i64.wrap (v + (nx t q 9 - 4)))]), ⟨by show i + 1 ≤ ts.length; omega, hx2, by show (acc ++ [(ts.getD i 0, IntKind.i64.wrap (v + (nx t q 9 - 4)))]).length = i + 1; rw [List.length_append, hx3]; rfl⟩, by show Le _ _ (smS t kind slope ts (i + 1) (v) (adv t q) (acc ++ [(ts.getD i 0, IntKind.i64.wrap (v + (nx t q 9 - 4)))])); (refine Le.mk [(0,0),(1,3)] [] rfl q_4bd83 q_5650d q_509a2), by show ts.length - (i + 1) < ts.length - i; omega⟩
    ·by_cases k4 : kind = 4
     ·have hD : smX t kind slope i v q = ((itv t q).1, v, (itv t q).2) := by unfold smX; (repeat' split) <;> first | rfl | (exfalso; omega)
      rw [hD] at hx2
      dsimp only at hx2
      have hE : smps acc ++ [[.v (.int .i64 (ts.getD i 0)), .v (.int .i64 ((itv t q).1))]] = smps (acc ++ [(ts.getD i 0, (itv t q).1)]) := by rw [smps_append]; rfl
      (repeat' (first | refine r_9b4c86 ?_ | (refine is_f 28 ?_; refine r_23d47f (int_m t q ht htn) ?_) | (refine r_5efa8e (fun hb => ?_) (fun hb => ?_) <;> (try (exfalso; omega))) | fail))
      all_goals exact ⟨(i + 1, v, (itv t q).2, acc ++ [(ts.getD i 0, (itv t q).1)]), ⟨by show i + 1 ≤ ts.length; omega, hx2, by show (acc ++ [(ts.getD i 0, (itv t q).1)]).length = i + 1; rw [List.length_append, hx3]; rfl⟩, by show Le _ _ (smS t kind slope ts (i + 1) (v) ((itv t q).2) (acc ++ [(ts.getD i 0, (itv t q).1)])); (refine Le.mk [(0,0),(1,3)] [] rfl q_4bd83 q_5650d q_509a2), by show ts.length - (i + 1) < ts.length - i; omega⟩
     ·by_cases k5 : kind = 5
      ·by_cases k5b : nx t q (5 : Nat) = 1
       ·have h400 := nx_range t (adv t q) (show (1 : Int) ≤ 400 by omega)
        have h3 := nx_range t (adv t (adv t q)) (show (1 : Int) ≤ 3 by omega)
        have hD : smX t kind slope i v q = (IntKind.i64.wrap (IntKind.i64.wrap (v + (nx t (adv t q) 400 - 200)) + nx t (adv t (adv t q)) 3), IntKind.i64.wrap (v + (nx t (adv t q) 400 - 200)), adv t (adv t (adv t q))) := by unfold smX; (repeat' split) <;> first | rfl | (exfalso; omega)
        rw [hD] at hx2
        dsimp only at hx2
        have hE : smps acc ++ [[.v (.int .i64 (ts.getD i 0)), .v (.int .i64 (IntKind.i64.wrap (IntKind.i64.wrap (v + (nx t (adv t q) 400 - 200)) + nx t (adv t (adv t q)) 3)))]] = smps (acc ++ [(ts.getD i 0, IntKind.i64.wrap (IntKind.i64.wrap (v + (nx t (adv t q) 400 - 200)) + nx t (adv t (adv t q)) 3))]) := by rw [smps_append]; rfl
        (repeat' (first | refine r_9b4c86 ?_ | (refine is_f 20 ?_; refine r_23d47f (boolN_m t q 5 (by omega) (by omega) ht htn) ?_) | (refine is_f 12 ?_; refine r_23d47f (next_m t (adv t q) 400 ht htn (by omega)) ?_) | (refine is_f 12 ?_; refine r_23d47f (next_m t (adv t (adv t q)) 3 ht htn (by omega)) ?_) | (refine r_5efa8e (fun hb => ?_) (fun hb => ?_) <;> (try (exfalso; omega))) | fail))
        all_goals exact ⟨(i + 1, IntKind.i64.wrap (v + (nx t (adv t q) 400 - 200)), adv t (adv t (adv t q)), acc ++ [(ts.getD i 0, IntKind.i64.wrap (IntKind.i64.wrap (v + (nx t (adv t q) 400 - 200)) + nx t (adv t (adv t q)) 3))]), ⟨by show i + 1 ≤ ts.length; omega, hx2, by show (acc ++ [(ts.getD i 0, IntKind.i64.wrap (IntKind.i64.wrap (v + (nx t (adv t q) 400 - 200)) + nx t (adv t (adv t q)) 3))]).length = i + 1; rw [List.length_append, hx3]; rfl⟩, by show Le _ _ (smS t kind slope ts (i + 1) (IntKind.i64.wrap (v + (nx t (adv t q) 400 - 200))) (adv t (adv t (adv t q))) (acc ++ [(ts.getD i 0, IntKind.i64.wrap (IntKind.i64.wrap (v + (nx t (adv t q) 400 - 200)) + nx t (adv t (adv t q)) 3))])); (refine Le.mk [(0,0),(1,3)] [] rfl q_4bd83 q_5650d q_509a2), by show ts.length - (i + 1) < ts.length - i; omega⟩
       ·have h3 := nx_range t (adv t q) (show (1 : Int) ≤ 3 by omega)
        have hD : smX t kind slope i v q = (IntKind.i64.wrap (v + nx t (adv t q) 3), v, adv t (adv t q)) := by unfold smX; (repeat' split) <;> first | rfl | (exfalso; omega)
        rw [hD] at hx2
        dsimp only at hx2
        have hE : smps acc ++ [[.v (.int .i64 (ts.getD i 0)), .v (.int .i64 (IntKind.i64.wrap (v + nx t (adv t q) 3)))]] = smps (acc ++ [(ts.getD i 0, IntKind.i64.wrap (v + nx t (adv t q) 3))]) := by rw [smps_append]; rfl
        (repeat' (first | refine r_9b4c86 ?_ | (refine is_f 20 ?_; refine r_23d47f (boolN_m t q 5 (by omega) (by omega) ht htn) ?_) | (refine is_f 12 ?_; refine r_23d47f (next_m t (adv t q) 3 ht htn (by omega)) ?_) | (refine r_5efa8e (fun hb => ?_) (fun hb => ?_) <;> (try (exfalso; omega))) | fail))
        all_goals exact ⟨(i + 1, v, adv t (adv t q), acc ++ [(ts.getD i 0, IntKind.i64.wrap (v + nx t (adv t q) 3))]), ⟨by show i + 1 ≤ ts.length; omega, hx2, by show (acc ++ [(ts.getD i 0, IntKind.i64.wrap (v + nx t (adv t q) 3))]).length = i + 1; rw [List.length_append, hx3]; rfl⟩, by show Le _ _ (smS t kind slope ts (i + 1) (v) (adv t (adv t q)) (acc ++ [(ts.getD i 0, IntKind.i64.wrap (v + nx t (adv t q) 3))])); (refine Le.mk [(0,0),(1,3)] [] rfl q_4bd83 q_5650d q_509a2), by show ts.length - (i + 1) < ts.length - i; omega⟩
      ·by_cases k6 : kind = 6
       ·have h50 := nx_range t q (show (1 : Int) ≤ 50 by omega)
        have h51 := nx_range t (adv t q) (show (1 : Int) ≤ 50 by omega)
        have hD : smX t kind slope i v q = (IntKind.i64.wrap (IntKind.i64.wrap (nx t q 50 * nx t (adv t q) 50) * slope), v, adv t (adv t q)) := by unfold smX; (repeat' split) <;> first | rfl | (exfalso; omega)
        rw [hD] at hx2
        dsimp only at hx2
        have hE : smps acc ++ [[.v (.int .i64 (ts.getD i 0)), .v (.int .i64 (IntKind.i64.wrap (IntKind.i64.wrap (nx t q 50 * nx t (adv t q) 50) * slope)))]] = smps (acc ++ [(ts.getD i 0, IntKind.i64.wrap (IntKind.i64.wrap (nx t q 50 * nx t (adv t q) 50) * slope))]) := by rw [smps_append]; rfl
        (repeat' (first | refine r_9b4c86 ?_ | (refine is_f 12 ?_; refine r_23d47f (next_m t q 50 ht htn (by omega)) ?_) | (refine is_f 12 ?_; refine r_23d47f (next_m t (adv t q) 50 ht htn (by omega)) ?_) | (refine r_5efa8e (fun hb => ?_) (fun hb => ?_) <;> (try (exfalso; omega))) | fail))
        all_goals exact ⟨(i + 1, v, adv t (adv t q), acc ++ [(ts.getD i 0, IntKind.i64.wrap (IntKind.i64.wrap (nx t q 50 * nx t (adv t q) 50) * slope))]), ⟨by show i + 1 ≤ ts.length; omega, hx2, by show (acc ++ [(ts.getD i 0, IntKind.i64.wrap (IntKind.i64.wrap (nx t q 50 * nx t (adv t q) 50) * slope))]).length = i + 1; rw [List.length_append, hx3]; rfl⟩, by show Le _ _ (smS t kind slope ts (i + 1) (v) (adv t (adv t q)) (acc ++ [(ts.getD i 0, IntKind.i64.wrap (IntKind.i64.wrap (nx t q 50 * nx t (adv t q) 50) * slope))])); (refine Le.mk [(0,0),(1,3)] [] rfl q_4bd83 q_5650d q_509a2), by show ts.length - (i + 1) < ts.length - i; omega⟩
       ·have hD : smX t kind slope i v q = (v, v, q) := by unfold smX; (repeat' split) <;> first | rfl | (exfalso; omega)
        rw [hD] at hx2
        dsimp only at hx2
        have hE : smps acc ++ [[.v (.int .i64 (ts.getD i 0)), .v (.int .i64 (v))]] = smps (acc ++ [(ts.getD i 0, v)]) := by rw [smps_append]; rfl
        (repeat' (first | refine r_9b4c86 ?_ | (refine r_5efa8e (fun hb => ?_) (fun hb => ?_) <;> (try (exfalso; omega))) | fail))
        all_goals exact ⟨(i + 1, v, q, acc ++ [(ts.getD i 0, v)]), ⟨by show i + 1 ≤ ts.length; omega, hx2, by show (acc ++ [(ts.getD i 0, v)]).length = i + 1; rw [List.length_append, hx3]; rfl⟩, by show Le _ _ (smS t kind slope ts (i + 1) (v) (q) (acc ++ [(ts.getD i 0, v)])); (refine Le.mk [(0,0),(1,3)] [] rfl q_4bd83 q_5650d q_509a2), by show ts.length - (i + 1) < ts.length - i; omega⟩
 ·have hz : ts.length - i = 0 := by omega
  rw [hz, sms] at hx2
  subst hx2
  (repeat' (first | refine r_9b4c86 ?_ | (refine r_5efa8e (fun hb => ?_) (fun hb => ?_) <;> (try (exfalso; omega))) | fail))
  all_goals exact ret1P [] (.fr 1 _ _ _ rfl) rfl rfl (post_one rfl rfl) rfl
end Go.Proofs.YtibedaeefnjjlaaGreat
namespace Go.Proofs.YtibedaeefnjjlaaGreat
open Go.RowKit Go.Ab
theorem tms_sorted (t : List Int) (kind step : Int) (hs : 1 ≤ step ∧ step ≤ 50) : ∀ (i k : Nat) (a : Int) (acc : List Int), acc.Pairwise (· < ·) → (∀ x ∈ acc, x < a ∧ I64 x) → I64 a → (tms t kind step i k a acc).1.Pairwise (· < ·) ∧ ∀ x ∈ (tms t kind step i k a acc).1, I64 x
 | 0, k, a, acc, h1, h2, h3 => by rw [tms]; exact ⟨h1, fun x hx => (h2 x hx).2⟩
 | i + 1, k, a, acc, h1, h2, h3 => by
  have hd := tmD_range t kind step k hs
  have hp : (acc ++ [a]).Pairwise (· < ·) := List.pairwise_append.2 ⟨h1, by simp, fun x hx y hy => by simp at hy; subst hy; exact (h2 x hx).1⟩
  have hr : ∀ x ∈ acc ++ [a], I64 x := fun x hx => by
   rcases List.mem_append.1 hx with h | h
   ·exact (h2 x h).2
   ·simp at h; subst h; exact h3
  rw [tms]
  split
  ·exact ⟨hp, hr⟩
  ·rename_i hov
   have h4 : I64 (a + (tmD t kind step k).1) := by unfold I64 at *; omega
   refine tms_sorted t kind step hs i _ _ _ hp (fun x hx => ⟨?_, hr x hx⟩) h4
   rcases List.mem_append.1 hx with h | h
   ·have := (h2 x h).1; omega
   ·simp at h; omega
theorem tmL_sorted (t : List Int) (k n : Nat) : (tmL t k n).1.Pairwise (· < ·) ∧ ∀ x ∈ (tmL t k n).1, I64 x := by
 have h50 := nx_range t (itv t (adv t k)).2 (show (1 : Int) ≤ 50 by omega)
 exact tms_sorted t _ _ (by omega) _ _ _ [] (by simp) (by simp) (itv_range t (adv t k))
theorem wrap_I64 (x : Int) : I64 (IntKind.i64.wrap x) := by unfold I64; rw [i64w]; omega
theorem smX_range (t : List Int) (kind slope : Int) (i : Nat) (v : Int) (k : Nat) (h : I64 v) : I64 (smX t kind slope i v k).1 ∧ I64 (smX t kind slope i v k).2.1 := by
 unfold smX
 (repeat' split) <;> exact ⟨by first | exact wrap_I64 _ | exact itv_range _ _ | exact h, by first | exact h | exact wrap_I64 _⟩
theorem sms_fst (t : List Int) (kind slope : Int) (ts : List Int) : ∀ (j i : Nat) (v : Int) (k : Nat) (acc : List (Int × Int)), i + j = ts.length → (sms t kind slope ts j i v k acc).1.map Prod.fst = acc.map Prod.fst ++ ts.drop i
 | 0, i, v, k, acc, h => by rw [sms, List.drop_eq_nil_of_le (by omega), List.append_nil]
 | j + 1, i, v, k, acc, h => by
  rw [sms, sms_fst t kind slope ts j (i + 1) _ _ _ (by omega), List.map_append, List.append_assoc]
  congr 1
  rw [List.drop_eq_getElem_cons (show i < ts.length by omega)]
  simp [show i < ts.length by omega]
theorem sms_rng (t : List Int) (kind slope : Int) (ts : List Int) : ∀ (j i : Nat) (v : Int) (k : Nat) (acc : List (Int × Int)), I64 v → (∀ s ∈ acc, I64 s.2) → ∀ s ∈ (sms t kind slope ts j i v k acc).1, I64 s.2
 | 0, i, v, k, acc, h, h2 => by rw [sms]; exact h2
 | j + 1, i, v, k, acc, h, h2 => by
  rw [sms]
  have hx := smX_range t kind slope i v k h
  refine sms_rng t kind slope ts j (i + 1) _ _ _ hx.2 fun s hs => ?_
  rcases List.mem_append.1 hs with h3 | h3
  ·exact h2 s h3
  ·simp at h3; subst h3; exact hx.1
theorem smpL_fst (t : List Int) (k n : Nat) : (smpL t k n).1.map Prod.fst = (tmL t k n).1 := by
 unfold smpL; rw [sms_fst _ _ _ _ _ _ _ _ _ (by omega)]; simp
theorem smpL_len (t : List Int) (k n : Nat) : (smpL t k n).1.length ≤ n := by
 have := congrArg List.length (smpL_fst t k n)
 rw [List.length_map] at this
 rw [this]; exact tmL_len t k n
theorem mem_getD {α : Type} (l : List α) (i : Nat) (d : α) (h : i < l.length) : l.getD i d ∈ l := by
 have : l.getD i d = l[i] := by simp [h]
 rw [this]; exact List.getElem_mem h
theorem smpL_smp (t : List Int) (k n : Nat) : Smp (smpL t k n).1 := by
 intro i hi
 have hm := mem_getD _ i ((0 : Int), (0 : Int)) hi
 constructor
 ·have h1 : ((smpL t k n).1.getD i (0, 0)).1 ∈ (smpL t k n).1.map Prod.fst := List.mem_map_of_mem hm
  rw [smpL_fst] at h1
  exact (tmL_sorted t k n).2 _ h1
 ·exact sms_rng t _ _ _ _ _ _ _ [] (itv_range t _) (by simp) _ hm
end Go.Proofs.YtibedaeefnjjlaaGreat
