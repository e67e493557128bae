/- Texts of the second layer in one: Tq7 Tq8 Tq9 Tx2 Tq6. -/
import Derived.Test.YtpnbgalbdohfgaaGreatDoorG12
import Derived.Test.YtpnbgalbdohfgaaGreatDoorG4
import Derived.Test.YtpnbgalbdohfgaaGreatDoorG10
set_option maxHeartbeats 4000000
set_option maxRecDepth 100000
set_option linter.unusedVariables false
set_option linter.unusedSimpArgs false
namespace Go.Proofs.YtpnbgalbdohfgaaGreatDoor
open Go.RowKit Go.Ab
def inc (l : List Int) : Bool := allR (l.length - 1) fun j => decide (l.getD j 0 < l.getD (j + 1) 0)
theorem zn9 (l : List Int) (hl : l.length ≤ 140737488355328) : zaq Tryz.prog 80 [.r (.sl 1 (nums .i64 l))] [] (.r (.v (.bool (inc l)))) [] := by
 refine zaw Tryz.func80 rfl (Nat.le_of_ble_eq_true rfl) rfl rfl ?_
 have hlen : (nums .i64 l).length = l.length := za5 .i64 l
 (repeat' (first | refine zaD ?_ | (refine zat (fun hb => ?_) (fun hb => ?_) <;> (try (exfalso; omega))) | fail))
 refine zap (fun k => ⟨[(0, .r (.sl 1 (nums .i64 l))), (3, .r (.v (.int .i64 ((k + 1 : Nat) : Int))))], [], 0⟩) (fun k => (k = 0 ∨ k + 1 ≤ l.length) ∧ ∀ i, i < k → decide (l.getD i 0 < l.getD (i + 1) 0) = true) (fun k => l.length - k) 0 ⟨.inl rfl, fun i h => by omega⟩ (by (refine Le.mk [] [] rfl zbl zbc zah)) fun k hk => ?_
 obtain ⟨hk, hall⟩ := hk
 have hkk : l.getD (k + 1 - 1) 0 = l.getD k 0 := rfl
 rcases Nat.lt_or_ge (k + 1) l.length with h | h
 ·by_cases hlt : l.getD k 0 < l.getD (k + 1) 0
  ·(repeat' (first | refine zaD ?_ | (refine zat (fun hb => ?_) (fun hb => ?_) <;> (try (exfalso; omega))) | fail))
   all_goals exact ⟨k + 1, ⟨.inr (by omega), fun i hi => if h2 : i < k then hall i h2 else (show i = k by omega) ▸ decide_eq_true hlt⟩, by (refine Le.mk [] [] rfl zbl zbc zah), by omega⟩
  ·(repeat' (first | refine zaD ?_ | (refine zat (fun hb => ?_) (fun hb => ?_) <;> (try (exfalso; omega))) | fail))
   all_goals exact ret1 [] (.bool (zcE k (by omega) (decide_eq_false hlt))) rfl rfl rfl
 ·(repeat' (first | refine zaD ?_ | (refine zat (fun hb => ?_) (fun hb => ?_) <;> (try (exfalso; omega))) | fail))
  all_goals exact ret1 [] (.bool (zd8 fun i hi => hall i (by omega))) rfl rfl rfl
def dst (a b : Int) : Int := if a < b then b - a else a - b
theorem zgE (a b : Int) (h : I64 a) (h' : I64 b) (hab : a ≤ b) : IntKind.u64.wrap (IntKind.u64.wrap b - IntKind.u64.wrap a) = b - a := by
 unfold I64 at h h'
 rw [u64w, u64w, u64w]; omega
theorem zkx (a b : Int) (ha : I64 a) (hb0 : I64 b) : zaq Tryz.prog 35 [.r (.v (.int .i64 a)), .r (.v (.int .i64 b))] [] (.r (.v (.int .u64 (dst a b)))) [] := by
 refine zaw Tryz.func35 rfl (Nat.le_of_ble_eq_true rfl) rfl rfl ?_
 by_cases h : a < b
 ·have h1 := zgE a b ha hb0 (by omega)
  have h2 : b - a = dst a b := (if_pos h).symm
  (repeat' (first | refine zaD ?_ | (refine zat (fun hb => ?_) (fun hb => ?_) <;> (try (exfalso; omega))) | fail))
  all_goals exact ret1 [] (.int h2) rfl rfl rfl
 ·have h1 := zgE b a hb0 ha (by omega)
  have h2 : a - b = dst a b := (if_neg h).symm
  (repeat' (first | refine zaD ?_ | (refine zat (fun hb => ?_) (fun hb => ?_) <;> (try (exfalso; omega))) | fail))
  all_goals exact ret1 [] (.int h2) rfl rfl rfl
theorem znv (a b : Int) (ha : I64 a) (hb0 : I64 b) : zaq Tryz.prog 29 [.r (.v (.int .i64 a)), .r (.v (.int .i64 b))] [] (.r (.v (.int .u64 (dst a b)))) [] := by
 refine zaw Tryz.func29 rfl (Nat.le_of_ble_eq_true rfl) rfl rfl ?_
 by_cases h : a < b
 ·have h1 := zgE a b ha hb0 (by omega)
  have h2 : b - a = dst a b := (if_pos h).symm
  (repeat' (first | refine zaD ?_ | (refine zat (fun hb => ?_) (fun hb => ?_) <;> (try (exfalso; omega))) | fail))
  all_goals exact ret1 [] (.int h2) rfl rfl rfl
 ·have h1 := zgE b a hb0 ha (by omega)
  have hmin : (if b < a then b else a) = b := by split <;> omega
  have h2 : a - b = dst a b := (if_neg h).symm
  (repeat' (first | refine zaD ?_ | (refine zat (fun hb => ?_) (fun hb => ?_) <;> (try (exfalso; omega))) | fail))
  all_goals exact ret1 [] (.int h2) rfl rfl rfl
theorem zfj (a b : Int) (ha : I64 a) (hb : I64 b) : 0 ≤ dst a b ∧ dst a b < 18446744073709551616 := by unfold dst I64 at *; split <;> omega
def Smp (l : List (Int × Int)) : Prop := ∀ i, i < l.length → I64 (l.getD i (0, 0)).1 ∧ I64 (l.getD i (0, 0)).2
def chkS (l : List (Int × Int)) : Int := if inc (l.map Prod.fst) then 0 else 7
theorem zlP (s : Int × Int) : zaq Tryz.prog 99 [.ag [.r (.v (.int .i64 s.1)), .r (.v (.int .i64 s.2))]] [] (.r (.v (.int .i64 s.1))) [] := by
 refine zaw Tryz.func99 rfl (Nat.le_of_ble_eq_true rfl) rfl rfl ?_
 (repeat' (first | refine zc7 ?_ | (refine zat (fun hb => ?_) (fun hb => ?_) <;> (try (exfalso; omega))) | fail))
 all_goals exact ret1 [] (.r _) rfl rfl rfl
def part (f : Int × Int → Int) (l : List (Int × Int)) (k : Nat) : List (List RV) := nums .i64 ((l.take k).map f) ++ List.replicate (l.length - k) [.v (.int .i64 0)]
theorem zlt (f : Int × Int → Int) (l : List (Int × Int)) (k : Nat) (h : k ≤ l.length) : (part f l k).length = l.length := by
 unfold part; rw [List.length_append, za5, List.length_map, List.length_take, List.length_replicate]; omega
theorem zls (f : Int × Int → Int) (l : List (Int × Int)) (k : Nat) (h : k < l.length) : (part f l k)[k]? = some [.v (.int .i64 0)] := by
 unfold part
 rw [List.getElem?_append_right (by rw [za5, List.length_map, List.length_take]; omega), za5, List.length_map, List.length_take, Nat.min_eq_left (by omega), Nat.sub_self, show l.length - k = (l.length - (k + 1)) + 1 by omega, List.replicate_succ]
 rfl
theorem zlu (f : Int × Int → Int) (l : List (Int × Int)) (k : Nat) (h : k < l.length) : (part f l k).set k [.v (.int .i64 (f (l.getD k (0, 0))))] = part f l (k + 1) := by
 unfold part
 have hl : (nums .i64 ((l.take k).map f)).length = k := by rw [za5, List.length_map, List.length_take]; omega
 rw [List.set_append_right _ _ (by omega), hl, Nat.sub_self, show l.length - k = (l.length - (k + 1)) + 1 by omega, List.replicate_succ, List.set_cons_zero, zdK l k (0, 0) h, List.map_append, zdY, List.append_assoc]
 rfl
def fldS (g : Nat) (f : Int × Int → Int) (l : List (Int × Int)) (k : Nat) : St :=
 ⟨[(1, .r (.v (.func (.func g) #[] #[]))), (5, .ow 0), (11, .r (.sl 2 (smps l))), (12, .r (.v (.int .i64 l.length))), (13, .r (.v (.int .i64 k)))], [(0, some (.row 2 1 (part f l k)))], 1⟩
theorem zmx (g : Nat) (f : Int × Int → Int) (hg : ∀ s, zaq Tryz.prog g [.ag [.r (.v (.int .i64 s.1)), .r (.v (.int .i64 s.2))]] [] (.r (.v (.int .i64 (f s)))) []) (hcb : zfg Tryz.prog g = true) (l : List (Int × Int)) (hl : l.length ≤ 8796093022000) : zaq Tryz.prog 98 [.r (.sl 2 (smps l)), .r (.v (.func (.func g) #[] #[]))] [] (.fr 2 1 (nums .i64 (l.map f))) [] := by
 refine zaw Tryz.func98 rfl (Nat.le_of_ble_eq_true rfl) rfl rfl ?_
 have hlen : (smps l).length = l.length := za8 l
 have h00 : List.replicate (smps l).length (List.map RV.v [Value.int .i64 0]) = part f l 0 := by unfold part; rw [hlen]; rfl
 (repeat' (first | refine zc7 ?_ | (refine zat (fun hb => ?_) (fun hb => ?_) <;> (try (exfalso; omega))) | fail))
 refine zap (fldS g f l) (fun k => k ≤ l.length) (fun k => l.length - k) 0 (Nat.zero_le _) (by (refine Le.mk [(0,0)] [] rfl zkk zbc zah)) fun k hk => ?_
 have hpl := zlt f l k hk
 by_cases hkl : k < l.length
 ·have hG := zls f l k hkl
  have hE := zlu f l k hkl
  have hc := hg (l.getD k (0, 0))
  (repeat' (first | refine zc7 ?_ | ((refine zoa ?_; refine zni zm3 [] _ _ (hc) zgV zm2 zm7 rfl rfl rfl zaa ?_); try dsimp only [AV.unfr, AV.unfrs, frsL, zaO, rdOf, @List.length_cons Blk, @List.length_nil Blk, @List.nil_append (Nat × Option Blk), @List.cons_append (Nat × Option Blk), @List.nil_append Blk, @List.cons_append Blk, Nat.add_zero, Nat.zero_add, Nat.reduceAdd]) | (refine zat (fun hb => ?_) (fun hb => ?_) <;> (try (exfalso; omega))) | fail))
  all_goals exact ⟨k + 1, by show k + 1 ≤ l.length; omega, by (refine Le.mk [(0,0)] [] rfl zkk zbc zah), by show l.length - (k + 1) < l.length - k; omega⟩
 ·have e : part f l k = nums .i64 (l.map f) := by unfold part; rw [List.take_of_length_le (by omega), show l.length - k = 0 by omega]; simp
  (repeat' (first | refine zc7 ?_ | (refine zat (fun hb => ?_) (fun hb => ?_) <;> (try (exfalso; omega))) | fail))
  all_goals (rw [← e]; exact ret1 [] (.fr 0 _ _ _ rfl) rfl rfl rfl)
theorem zhJ (l : List (Int × Int)) (hl : l.length ≤ 8796093022000) : zaq Tryz.prog 81 [.r (.sl 2 (smps l))] [] (.fr 2 1 (nums .i64 (l.map Prod.fst))) [] := by
 refine zaw Tryz.func81 rfl (Nat.le_of_ble_eq_true rfl) rfl rfl ?_
 (repeat' (first | refine zc7 ?_ | (refine is_f 98 ?_; refine zaf (zmx 99 Prod.fst zlP (by kernel_rfl) l hl) ?_) | (refine zat (fun hb => ?_) (fun hb => ?_) <;> (try (exfalso; omega))) | fail))
 all_goals exact ret1 [] (.fr 0 _ _ _ rfl) rfl rfl rfl
theorem zjI (l : List (Int × Int)) (hl : l.length ≤ 8796093022000) : zaq Tryz.prog 51 [.r (.sl 2 (smps l))] [] (.r (.v (.int .i64 (chkS l)))) [] := by
 refine zaw Tryz.func51 rfl (Nat.le_of_ble_eq_true rfl) rfl rfl ?_
 have hc := zn9 (l.map Prod.fst) (by rw [List.length_map]; omega)
 cases hi : inc (l.map Prod.fst) with
 | true =>
  rw [hi] at hc
  have hr : (0 : Int) = chkS l := by unfold chkS; rw [hi]; rfl
  (repeat' (first | refine zc7 ?_ | (refine is_f 81 ?_; refine zaf (zhJ l hl) ?_) | (refine is_f 80 ?_; refine ziO (hc) ?_) | (refine zat (fun hb => ?_) (fun hb => ?_) <;> (try (exfalso; omega))) | fail))
  all_goals exact ret1 [] (.int hr) rfl rfl rfl
 | false =>
  rw [hi] at hc
  have hr : (7 : Int) = chkS l := by unfold chkS; rw [hi]; rfl
  (repeat' (first | refine zc7 ?_ | (refine is_f 81 ?_; refine zaf (zhJ l hl) ?_) | (refine is_f 80 ?_; refine ziO (hc) ?_) | (refine zat (fun hb => ?_) (fun hb => ?_) <;> (try (exfalso; omega))) | fail))
  all_goals exact ret1 [] (.int hr) rfl rfl rfl
end Go.Proofs.YtpnbgalbdohfgaaGreatDoor
namespace Go.Proofs.YtpnbgalbdohfgaaGreatDoor
open Go.RowKit Go.Ab Go.Wd
def chkE (a b : List (Int × Int)) : Int := if chkS a = 0 then (if a.length = b.length then (if allR a.length (fun i => decide ((a.getD i (0, 0)).1 = (b.getD i (0, 0)).1)) = true then (if a.length ≤ 1073741824 then 0 else 3) else 7) else 10) else chkS a
def ckS (a b : List (Int × Int)) (i : Nat) : St := ⟨[(0, .r (.sl 2 (smps a))), (1, .r (.sl 2 (smps b))), (18, .r (.v (.int .i64 (a.length : Int)))), (19, .r (.v (.int .i64 (i : Int))))], [], 0⟩
theorem zhj (a b : List (Int × Int)) (ha : a.length ≤ 8796093022000) (hb0 : b.length ≤ 8796093022000) : zaq Tryz.prog 28 [.r (.sl 2 (smps a)), .r (.sl 2 (smps b))] [] (.r (.v (.int .i64 (chkE a b)))) [] := by
 refine zaw Tryz.func28 rfl (Nat.le_of_ble_eq_true rfl) rfl rfl ?_
 have cC := zjI a (by omega)
 have l1 := za8 a
 have l2 := za8 b
 by_cases hc : chkS a = 0
 ·rw [hc] at cC
  by_cases hl : a.length = b.length
  ·have e0 : chkE a b = if allR a.length (fun i => decide ((a.getD i (0, 0)).1 = (b.getD i (0, 0)).1)) = true then (if a.length ≤ 1073741824 then 0 else 3) else 7 := by unfold chkE; rw [if_pos hc, if_pos hl]
   rw [e0]
   (repeat' (first | refine zae ?_ | (refine is_f 51 ?_; refine zaf (cC) ?_) | (refine zab (fun hb => ?_) (fun hb => ?_) <;> (try (exfalso; omega))) | fail))
   all_goals (first | (exfalso; omega) | skip)
   refine zap (ckS a b) (fun i => i ≤ a.length ∧ ∀ j, j < i → (a.getD j (0, 0)).1 = (b.getD j (0, 0)).1) (fun i => a.length - i) 0 ⟨Nat.zero_le _, fun j hj => absurd hj (Nat.not_lt_zero _)⟩ (by (refine Le.mk [] [] zai zal zak zah)) fun i hi => ?_
   obtain ⟨hi1, hi2⟩ := hi
   rcases Nat.lt_or_ge i a.length with hi | hi
   ·have ga := zbx (l := a) hi
    have gb := zbx (l := b) (j := i) (by omega)
    have hn := zbg i (by omega)
    by_cases he : (a.getD i (0, 0)).1 = (b.getD i (0, 0)).1
    ·(repeat' (first | refine zae ?_ | (refine zab (fun hb => ?_) (fun hb => ?_) <;> (try (exfalso; omega))) | fail))
     all_goals (first | (exfalso; omega) | exact ⟨i + 1, ⟨hi, fun j hj => by
      rcases Nat.lt_or_ge j i with h | h
      ·exact hi2 j h
      ·rw [show j = i by omega]; exact he⟩, by show Le _ _ (ckS a b (i + 1)); (refine Le.mk [] [] zai zal zak zah), by show a.length - (i + 1) < a.length - i; omega⟩)
    ·have hf : allR a.length (fun i => decide ((a.getD i (0, 0)).1 = (b.getD i (0, 0)).1)) = false := (zcE i hi (decide_eq_false he)).symm
     rw [hf]
     (repeat' (first | refine zae ?_ | (refine zab (fun hb => ?_) (fun hb => ?_) <;> (try (exfalso; omega))) | fail))
     all_goals (first | (exfalso; omega) | exact ret1 [] (.int rfl) rfl rfl rfl)
   ·have ht : allR a.length (fun i => decide ((a.getD i (0, 0)).1 = (b.getD i (0, 0)).1)) = true := (zd8 fun j hj => decide_eq_true (hi2 j (by omega))).symm
    rw [ht, if_pos rfl]
    by_cases hM : a.length ≤ 1073741824
    ·rw [if_pos hM]
     (repeat' (first | refine zae ?_ | (refine zab (fun hb => ?_) (fun hb => ?_) <;> (try (exfalso; omega))) | fail))
     all_goals (first | (exfalso; omega) | exact ret1 [] (.int rfl) rfl rfl rfl)
    ·rw [if_neg hM]
     (repeat' (first | refine zae ?_ | (refine zab (fun hb => ?_) (fun hb => ?_) <;> (try (exfalso; omega))) | fail))
     all_goals (first | (exfalso; omega) | exact ret1 [] (.int rfl) rfl rfl rfl)
  ·have e0 : (10 : Int) = chkE a b := by unfold chkE; rw [if_pos hc, if_neg hl]
   (repeat' (first | refine zae ?_ | (refine is_f 51 ?_; refine zaf (cC) ?_) | (refine zab (fun hb => ?_) (fun hb => ?_) <;> (try (exfalso; omega))) | fail))
   all_goals (first | (exfalso; omega) | exact ret1 [] (.int e0) rfl rfl rfl)
 ·have e0 : chkS a = chkE a b := by unfold chkE; rw [if_neg hc]
  (repeat' (first | refine zae ?_ | (refine is_f 51 ?_; refine zaf (cC) ?_) | (refine zab (fun hb => ?_) (fun hb => ?_) <;> (try (exfalso; omega))) | fail))
  all_goals (first | (exfalso; omega) | exact ret1 [] (.int e0) rfl rfl rfl)
def fD (a b : List (Int × Int)) (i : Nat) : Nat := (dst (a.getD i (0, 0)).2 (b.getD i (0, 0)).2).toNat
def sD (f : Nat → Nat) : Nat → Nat
 | 0 => 0
 | n + 1 => sD f n + f n
def mD (f : Nat → Nat) : Nat → Nat
 | 0 => 0
 | n + 1 => if mD f n < f n then f n else mD f n
theorem zil (f : Nat → Nat) (M : Nat) : ∀ n, (∀ i, i < n → f i ≤ M) → sD f n ≤ n * M
 | 0, _ => by simp [sD]
 | n + 1, h => by
  rw [sD, Nat.add_mul]
  have := zil f M n (fun i hi => h i (by omega))
  have := h n (by omega)
  omega
theorem zlj (f : Nat → Nat) (M : Nat) (hM : 0 < M) : ∀ n, (∀ i, i < n → f i < M) → mD f n < M
 | 0, _ => by simpa [mD] using hM
 | n + 1, h => by
  rw [mD]
  have := zlj f M hM n (fun i hi => h i (by omega))
  have := h n (by omega)
  split <;> omega
def smR (c w s q : Nat) : List RV := [.v (.int .i64 (c : Int)), .v (.bool false), .v (.int .u64 ((w % B64 : Nat) : Int)), .v (.int .u64 ((w / B64 % B64 : Nat) : Int)), .v (.int .u64 ((w / B64 / B64 % B64 : Nat) : Int)), .v (.int .u64 ((w / B64 / B64 / B64 % B64 : Nat) : Int)),
 .v (.bool false), .v (.int .u64 ((s % B64 : Nat) : Int)), .v (.int .u64 ((s / B64 % B64 : Nat) : Int)), .v (.int .u64 ((s / B64 / B64 % B64 : Nat) : Int)), .v (.int .u64 ((s / B64 / B64 / B64 % B64 : Nat) : Int)),
 .v (.bool false), .v (.int .u64 ((q % B64 : Nat) : Int)), .v (.int .u64 ((q / B64 % B64 : Nat) : Int)), .v (.int .u64 ((q / B64 / B64 % B64 : Nat) : Int)), .v (.int .u64 ((q / B64 / B64 / B64 % B64 : Nat) : Int))]
def smA (c w s q : Nat) : AV := .ag ((smR c w s q).map .r)
theorem Rt.sm {H : Nat → Option Blk} {L : Nat} {G : List Nat} (c w s q : Nat) : Rt H L G (smA c w s q) (smA c w s q) [] := .ag _ _ _ (Rt.agR _)
def cmS (a b : List (Int × Int)) (i w s q : Nat) : St := ⟨[(0, .r (.sl 2 (smps a))), (1, .r (.sl 2 (smps b))), (4, .pt 0 0), (7, .pt 1 0), (8, .r (.v (.int .u64 (w : Int)))), (25, .r (.sl 2 (smps a))), (26, .r (.v (.int .i64 ((smps a).length : Int)))), (27, .r (.v (.int .i64 (i : Int))))], [(0, some (.var 28 ((smR 0 0 0 0).map .r))), (1, some (.var 28 ((smR (smps a).length 0 s q).map .r)))], 2⟩
theorem zmw {a b : List (Int × Int)} (ha : Smp a) (hb : Smp b) (i : Nat) (h1 : i < a.length) (h2 : i < b.length) : fD a b i < B64 := by
 have := zfj (a.getD i (0, 0)).2 (b.getD i (0, 0)).2 (ha i h1).2 (hb i h2).2
 unfold fD B64; omega
theorem zfh (a b : List (Int × Int)) (hsa : Smp a) (hsb : Smp b) (ha : a.length ≤ 8796093022000) (hb0 : b.length ≤ 8796093022000) (he : chkE a b = 0) : zaq Tryz.prog 20 [.r (.sl 2 (smps a)), .r (.sl 2 (smps b))] [] (.tu [smA a.length (mD (fD a b) a.length) (sD (fD a b) a.length) (sD (fun i => fD a b i * fD a b i) a.length), .r (.v (.int .i64 0))]) [] := by
 have cC := zhj a b (by omega) (by omega)
 rw [he] at cC
 have hlM : a.length = b.length ∧ a.length ≤ 1073741824 := by
  unfold chkE at he
  split at he
  ·split at he
   ·split at he
    ·split at he
     ·constructor <;> assumption
     ·omega
    ·omega
   ·omega
  ·rename_i h; exact absurd he h
 obtain ⟨hlen, hM⟩ := hlM
 have hf : ∀ i, i < a.length → fD a b i < B64 := fun i hi => zmw hsa hsb i hi (by omega)
 have l1 := za8 a
 refine zaw Tryz.func20 rfl (Nat.le_of_ble_eq_true rfl) rfl rfl ?_
 (repeat' (first | refine zae ?_ | (refine is_f 28 ?_; refine zaf (cC) ?_) | (refine zab (fun hb => ?_) (fun hb => ?_) <;> (try (exfalso; omega))) | fail))
 all_goals (first | (exfalso; omega) | skip)
 refine zap (fun x : Nat × Nat × Nat × Nat => cmS a b x.1 x.2.1 x.2.2.1 x.2.2.2) (fun x => x.1 ≤ a.length ∧ x.2.1 = mD (fD a b) x.1 ∧ x.2.2.1 = sD (fD a b) x.1 ∧ x.2.2.2 = sD (fun i => fD a b i * fD a b i) x.1) (fun x => a.length - x.1) (0, 0, 0, 0) ⟨Nat.zero_le _, rfl, rfl, rfl⟩ (by (refine Le.mk [] [] zai zal zak zah)) fun x hx => ?_
 obtain ⟨i, w, s, q⟩ := x
 obtain ⟨hi1, hw, hs, hq⟩ := hx
 dsimp only at hi1 hw hs hq
 have bs := zil (fD a b) (B64 - 1) i (fun j hj => by have := hf j (by omega); omega)
 have bq := zil (fun i => fD a b i * fD a b i) ((B64 - 1) * (B64 - 1)) i (fun j hj => Nat.mul_le_mul (by have := hf j (by omega); omega) (by have := hf j (by omega); omega))
 have bw := zlj (fD a b) B64 (by decide) i (fun j hj => hf j (by omega))
 have bs2 : s ≤ 1073741824 * (B64 - 1) := hs ▸ Nat.le_trans bs (Nat.mul_le_mul_right _ (by omega))
 have bq2 : q ≤ 1073741824 * ((B64 - 1) * (B64 - 1)) := hq ▸ Nat.le_trans bq (Nat.mul_le_mul_right _ (by omega))
 rw [← hw] at bw
 clear bs bq
 have K1 : 1073741824 * (B64 - 1) + B64 < B64 ^ 4 := by decide
 have K2 : 1073741824 * ((B64 - 1) * (B64 - 1)) + (B64 - 1) * (B64 - 1) < B64 ^ 4 := by decide
 have K3 : B64 < B64 ^ 4 := by decide
 change awp _ _ _ _ _ (cmS a b i w s q)
 rcases Nat.lt_or_ge i a.length with hi | hi
 ·have ga := zbx (l := a) hi
  have gb := zbx (l := b) (j := i) (by omega)
  have hd := hf i hi
  have hcd : (dst (a.getD i (0, 0)).2 (b.getD i (0, 0)).2) = ((fD a b i : Nat) : Int) := by
   have := zfj (a.getD i (0, 0)).2 (b.getD i (0, 0)).2 (hsa i hi).2 (hsb i (by omega)).2
   unfold fD; omega
  have cD := znv (a.getD i (0, 0)).2 (b.getD i (0, 0)).2 (hsa i hi).2 (hsb i (by omega)).2
  rw [hcd] at cD
  have e0 : mD (fD a b) (i + 1) = if w < fD a b i then fD a b i else w := by rw [mD, ← hw]
  have e1 : sD (fD a b) (i + 1) = s + fD a b i := by rw [sD, ← hs]
  have e2 : sD (fun i => fD a b i * fD a b i) (i + 1) = q + fD a b i * fD a b i := by rw [sD, ← hq]
  generalize hDi : fD a b i = d at *
  have cO := zmc d hd
  have hdd : d * d ≤ (B64 - 1) * (B64 - 1) := Nat.mul_le_mul (by omega) (by omega)
  have cM := znY d d (by omega) (by omega) (by omega)
  have cP := zl5 s d (by omega) (by omega) (by omega)
  have cQ := zl5 q (d * d) (by omega) (by omega) (by omega)
  have hmx : (if ((d : Nat) : Int) > ((w : Nat) : Int) then ((d : Nat) : Int) else ((w : Nat) : Int)) = ((if w < d then d else w : Nat) : Int) := by
   split <;> split <;> omega
  have hn := zbg i (by omega)
  have hfin : (i + 1 ≤ a.length) ∧ (if w < d then d else w) = mD (fD a b) (i + 1) ∧ s + d = sD (fD a b) (i + 1) ∧ q + d * d = sD (fun i => fD a b i * fD a b i) (i + 1) := ⟨hi, e0.symm, e1.symm, e2.symm⟩
  clear bs2 bq2 bw hcd hf hd K1 K2 K3 hdd e0 e1 e2 hw hs hq hDi
  generalize (if w < d then d else w) = w' at *
  generalize s + d = s' at *
  generalize q + d * d = q' at *
  generalize d * d = dd at *
  (repeat' (first | refine zae ?_ | (refine is_f 29 ?_; refine zaf (cD) ?_) | (refine is_f 30 ?_; refine zaf (cO) ?_) | (refine is_f 31 ?_; refine zaf (cM) ?_) | (refine is_f 32 ?_; refine zaf (cP) ?_) | (refine is_f 32 ?_; refine zaf (cQ) ?_) | (refine zab (fun hb => ?_) (fun hb => ?_) <;> (try (exfalso; omega))) | fail))
  all_goals (first | (exfalso; omega) | exact ⟨(i + 1, w', s', q'), hfin, by show Le _ _ (cmS a b (i + 1) w' s' q'); (refine Le.mk [] [] zai zal zak zah), by show a.length - (i + 1) < a.length - i; omega⟩)
 ·have hie : i = a.length := by omega
  subst hie
  have cO := zmc w bw
  have e : smA a.length (mD (fD a b) a.length) (sD (fD a b) a.length) (sD (fun i => fD a b i * fD a b i) a.length) = smA (smps a).length w s q := by rw [l1, hw, hs, hq]
  rw [e]
  clear bs2 bq2 bw K1 K2 K3 hw hs hq e
  (repeat' (first | refine zae ?_ | (refine is_f 30 ?_; refine zaf (cO) ?_) | (refine zab (fun hb => ?_) (fun hb => ?_) <;> (try (exfalso; omega))) | fail))
  all_goals (first | (exfalso; omega) | exact zcc [] (Rt.sm (smps a).length w s q) (.int rfl) rfl rfl rfl rfl rfl (zan rfl) rfl)
theorem zhp (a b : List (Int × Int)) (ha : a.length ≤ 8796093022000) (hb0 : b.length ≤ 8796093022000) (he : chkE a b ≠ 0) : zaq Tryz.prog 20 [.r (.sl 2 (smps a)), .r (.sl 2 (smps b))] [] (.tu [smA 0 0 0 0, .r (.v (.int .i64 (chkE a b)))]) [] := by
 have cC := zhj a b (by omega) (by omega)
 generalize chkE a b = e at *
 refine zaw Tryz.func20 rfl (Nat.le_of_ble_eq_true rfl) rfl rfl ?_
 (repeat' (first | (first | refine zbm 4 ?_ | refine za4 4 ?_) | refine zdG ?_ | refine zbp ?_ | (refine is_f 28 ?_; refine zaf (cC) ?_) | (refine zab (fun hb => ?_) (fun hb => ?_) <;> (try (exfalso; omega))) | fail))
 all_goals (first | exact zcc [] (Rt.sm 0 0 0 0) (.int rfl) rfl rfl rfl rfl rfl (zan rfl) rfl | (exfalso; omega))
end Go.Proofs.YtpnbgalbdohfgaaGreatDoor
namespace Go.Proofs.YtpnbgalbdohfgaaGreatDoor
open Go.RowKit Go.Ab
def smX (t : List Int) (kind slope : Int) (i : Nat) (v : Int) (k : Nat) : Int × Int × Nat :=
 if kind = 1 then (IntKind.i64.wrap (v + IntKind.i64.wrap ((i : Int) * slope)), v, k)
 else if kind = 2 then (IntKind.i64.wrap (IntKind.i64.wrap (v + IntKind.i64.wrap ((i : Int) * slope)) + (nx t k 7 - 3)), v, adv t k)
 else if kind = 3 then (IntKind.i64.wrap (v + (nx t k 9 - 4)), v, adv t k)
 else if kind = 4 then ((itv t k).1, v, (itv t k).2)
 else if kind = 5 then (if nx t k (5 : Nat) = 1 then (IntKind.i64.wrap (IntKind.i64.wrap (v + (nx t (adv t k) 400 - 200)) + nx t (adv t (adv t k)) 3), IntKind.i64.wrap (v + (nx t (adv t k) 400 - 200)), adv t (adv t (adv t k))) else (IntKind.i64.wrap (v + nx t (adv t k) 3), v, adv t (adv t k)))
 else if kind = 6 then (IntKind.i64.wrap (IntKind.i64.wrap (nx t k 50 * nx t (adv t k) 50) * slope), v, adv t (adv t k))
 else (v, v, k)
def sms (t : List Int) (kind slope : Int) (ts : List Int) : Nat → Nat → Int → Nat → List (Int × Int) → List (Int × Int) × Nat
 | 0, i, v, k, acc => (acc, k)
 | j + 1, i, v, k, acc => sms t kind slope ts j (i + 1) (smX t kind slope i v k).2.1 (smX t kind slope i v k).2.2 (acc ++ [(ts.getD i 0, (smX t kind slope i v k).1)])
def smpL (t : List Int) (k n : Nat) : List (Int × Int) × Nat :=
 sms t (nx t (tmL t k n).2 7) (nx t (itv t (adv t (tmL t k n).2)).2 41 - 20) (tmL t k n).1 (tmL t k n).1.length 0 (itv t (adv t (tmL t k n).2)).1 (adv t (itv t (adv t (tmL t k n).2)).2) []
theorem zkT (t : List Int) (kind step : Int) : ∀ (i k : Nat) (a : Int) (acc : List Int), (tms t kind step i k a acc).1.length ≤ acc.length + i
 | 0, k, a, acc => by simp [tms]
 | i + 1, k, a, acc => by
  rw [tms]
  split
  ·simp
  ·have := zkT t kind step i (tmD t kind step k).2 (a + (tmD t kind step k).1) (acc ++ [a])
   simp at this
   omega
theorem zkS (t : List Int) (k n : Nat) : (tmL t k n).1.length ≤ n := by
 have h := zkT t (nx t k 5) (1 + nx t (itv t (adv t k)).2 50) (nx t (adv t (itv t (adv t k)).2) ((n : Int) + 1)).toNat (adv t (adv t (itv t (adv t k)).2)) (itv t (adv t k)).1 []
 have hn := zaB t (adv t (itv t (adv t k)).2) (show (1 : Int) ≤ (n : Int) + 1 by omega)
 unfold tmL
 simp at h
 omega
def smS (t : List Int) (kind slope : Int) (ts : List Int) (i : Nat) (v : Int) (k : Nat) (acc : List (Int × Int)) : St :=
 ⟨[(0, .pt 0 0), (5, .r (.sl 1 (nums .i64 ts))), (6, .ow 1), (7, .r (.v (.int .i64 kind))), (8, .r (.v (.int .i64 v))), (9, .r (.v (.int .i64 slope))), (10, .r (.v (.int .i64 i)))], [(0, some (tb t k)), (1, some (.row 47 2 (smps acc)))], 2⟩
theorem zkG (t : List Int) (k n : Nat) (ht : Ints t) (htn : t.length ≤ 140737488351232) (hn : n ≤ 1000) : zaq Tryz.prog 5 [.pt 0 0, .r (.v (.int .i64 n))] [tb t k] (.fr 47 2 (smps (smpL t k n).1)) [some (tb t (smpL t k n).2)] := by
 refine zaw Tryz.func5 rfl (Nat.le_of_ble_eq_true rfl) rfl rfl ?_
 have h7 := zaB t (tmL t k n).2 (show (1 : Int) ≤ 7 by omega)
 have h41 := zaB t (itv t (adv t (tmL t k n).2)).2 (show (1 : Int) ≤ 41 by omega)
 have hI := zbX t (adv t (tmL t k n).2)
 (repeat' (first | refine zaD ?_ | (refine is_f 13 ?_; refine zay (zng t k n ht htn hn) ?_) | (refine is_f 7 ?_; refine zay (zaZ t (tmL t k n).2 7 ht htn (by omega)) ?_) | (refine is_f 14 ?_; refine zay (zj3 t (adv t (tmL t k n).2) ht htn) ?_) | (refine is_f 7 ?_; refine zay (zaZ t (itv t (adv t (tmL t k n).2)).2 41 ht htn (by omega)) ?_) | (refine zat (fun hb => ?_) (fun hb => ?_) <;> (try (exfalso; omega))) | fail))
 refine zd9 6 47 2 rfl rfl ?_
 have h00 : ([] : List (List RV)) = smps [] := rfl
 have hlen := zkS t k n
 refine zap (fun x : Nat × Int × Nat × List (Int × Int) => smS t (nx t (tmL t k n).2 7) (nx t (itv t (adv t (tmL t k n).2)).2 41 - 20) (tmL t k n).1 x.1 x.2.1 x.2.2.1 x.2.2.2) (fun x => x.1 ≤ (tmL t k n).1.length ∧ sms t (nx t (tmL t k n).2 7) (nx t (itv t (adv t (tmL t k n).2)).2 41 - 20) (tmL t k n).1 ((tmL t k n).1.length - x.1) x.1 x.2.1 x.2.2.1 x.2.2.2 = smpL t k n ∧ x.2.2.2.length = x.1) (fun x => (tmL t k n).1.length - x.1)
  (0, (itv t (adv t (tmL t k n).2)).1, adv t (itv t (adv t (tmL t k n).2)).2, []) ⟨Nat.zero_le _, rfl, rfl⟩ (by (refine Le.mk [(0,0),(1,2)] [1] rfl zbl zbc zah)) fun x hx => ?_
 obtain ⟨i, v, q, acc⟩ := x
 obtain ⟨hx1, hx2, hx3⟩ := hx
 dsimp only at hx1 hx2 hx3
 generalize smpL t k n = R at *
 clear hI
 generalize nx t (tmL t k n).2 7 = kind at *
 generalize hsl : nx t (itv t (adv t (tmL t k n).2)).2 41 - 20 = slope at *
 have hs2 : -20 ≤ slope ∧ slope ≤ 20 := by omega
 clear hsl h41
 generalize (tmL t k n).1 = ts at *
 change awp _ _ _ _ _ (smS t kind slope ts i v q acc)
 have hbl : (nums .i64 ts).length = ts.length := za5 .i64 ts
 have hal := za8 acc
 rcases Nat.lt_or_ge i ts.length with hi | hi
 ·obtain ⟨j, hj⟩ : ∃ j, ts.length - i = j + 1 := ⟨ts.length - i - 1, by omega⟩
  have hj2 : j = ts.length - (i + 1) := by omega
  rw [hj, sms] at hx2
  subst hj2
  by_cases k1 : kind = 1
  ·have hD : smX t kind slope i v q = (IntKind.i64.wrap (v + IntKind.i64.wrap ((i : Int) * slope)), v, q) := by unfold smX; (repeat' split) <;> first | rfl | (exfalso; omega)
   rw [hD] at hx2
   dsimp only at hx2
   have hE : smps acc ++ [[.v (.int .i64 (ts.getD i 0)), .v (.int .i64 (IntKind.i64.wrap (v + IntKind.i64.wrap ((i : Int) * slope))))]] = smps (acc ++ [(ts.getD i 0, IntKind.i64.wrap (v + IntKind.i64.wrap ((i : Int) * slope)))]) := by rw [zbi]; rfl
   (repeat' (first | refine zaD ?_ | (refine zat (fun hb => ?_) (fun hb => ?_) <;> (try (exfalso; omega))) | fail))
   all_goals exact ⟨(i + 1, v, q, acc ++ [(ts.getD i 0, IntKind.i64.wrap (v + IntKind.i64.wrap ((i : Int) * slope)))]), ⟨by show i + 1 ≤ ts.length; omega, hx2, by show (acc ++ [(ts.getD i 0, IntKind.i64.wrap (v + IntKind.i64.wrap ((i : Int) * slope)))]).length = i + 1; rw [List.length_append, hx3]; rfl⟩, by show Le _ _ (smS t kind slope ts (i + 1) (v) (q) (acc ++ [(ts.getD i 0, IntKind.i64.wrap (v + IntKind.i64.wrap ((i : Int) * slope)))])); (refine Le.mk [(0,0),(1,3)] [] rfl zbl zbc zah), by show ts.length - (i + 1) < ts.length - i; omega⟩
  ·by_cases k2 : kind = 2
   ·have h9 := zaB t q (show (1 : Int) ≤ 7 by omega)
    have hD : smX t kind slope i v q = (IntKind.i64.wrap (IntKind.i64.wrap (v + IntKind.i64.wrap ((i : Int) * slope)) + (nx t q 7 - 3)), v, adv t q) := by unfold smX; (repeat' split) <;> first | rfl | (exfalso; omega)
    rw [hD] at hx2
    dsimp only at hx2
    have hE : smps acc ++ [[.v (.int .i64 (ts.getD i 0)), .v (.int .i64 (IntKind.i64.wrap (IntKind.i64.wrap (v + IntKind.i64.wrap ((i : Int) * slope)) + (nx t q 7 - 3))))]] = smps (acc ++ [(ts.getD i 0, IntKind.i64.wrap (IntKind.i64.wrap (v + IntKind.i64.wrap ((i : Int) * slope)) + (nx t q 7 - 3)))]) := by rw [zbi]; rfl
    (repeat' (first | refine zaD ?_ | (refine is_f 7 ?_; refine zay (zaZ t q 7 ht htn (by omega)) ?_) | (refine zat (fun hb => ?_) (fun hb => ?_) <;> (try (exfalso; omega))) | fail))
    all_goals exact ⟨(i + 1, v, adv t q, acc ++ [(ts.getD i 0, IntKind.i64.wrap (IntKind.i64.wrap (v + IntKind.i64.wrap ((i : Int) * slope)) + (nx t q 7 - 3)))]), ⟨by show i + 1 ≤ ts.length; omega, hx2, by show (acc ++ [(ts.getD i 0, IntKind.i64.wrap (IntKind.i64.wrap (v + IntKind.i64.wrap ((i : Int) * slope)) + (nx t q 7 - 3)))]).length = i + 1; rw [List.length_append, hx3]; rfl⟩, by show Le _ _ (smS t kind slope ts (i + 1) (v) (adv t q) (acc ++ [(ts.getD i 0, IntKind.i64.wrap (IntKind.i64.wrap (v + IntKind.i64.wrap ((i : Int) * slope)) + (nx t q 7 - 3)))])); (refine Le.mk [(0,0),(1,3)] [] rfl zbl zbc zah), by show ts.length - (i + 1) < ts.length - i; omega⟩
   ·by_cases k3 : kind = 3
    ·have h9 := zaB t q (show (1 : Int) ≤ 9 by omega)
     have hD : smX t kind slope i v q = (IntKind.i64.wrap (v + (nx t q 9 - 4)), v, adv t q) := by unfold smX; (repeat' split) <;> first | rfl | (exfalso; omega)
     rw [hD] at hx2
     dsimp only at hx2
     have hE : smps acc ++ [[.v (.int .i64 (ts.getD i 0)), .v (.int .i64 (IntKind.i64.wrap (v + (nx t q 9 - 4))))]] = smps (acc ++ [(ts.getD i 0, IntKind.i64.wrap (v + (nx t q 9 - 4)))]) := by rw [zbi]; rfl
     (repeat' (first | refine zaD ?_ | (refine is_f 7 ?_; refine zay (zaZ t q 9 ht htn (by omega)) ?_) | (refine zat (fun hb => ?_) (fun hb => ?_) <;> (try (exfalso; omega))) | fail))
     all_goals exact ⟨(i + 1, v, adv t q, acc ++ [(ts.getD i 0, IntKind.i64.wrap (v + (nx t q 9 - 4)))]), ⟨by show i + 1 ≤ ts.length; omega, hx2, by show (acc ++ [(ts.getD i 0, IntKind.i64.wrap (v + (nx t q 9 - 4)))]).length = i + 1; rw [List.length_append, hx3]; rfl⟩, by show Le _ _ (smS t kind slope ts (i + 1) (v) (adv t q) (acc ++ [(ts.getD i 0, IntKind.i64.wrap (v + (nx t q 9 - 4)))])); (refine Le.mk [(0,0),(1,3)] [] rfl zbl zbc zah), by show ts.length - (i + 1) < ts.length - i; omega⟩
    ·by_cases k4 : kind = 4
     ·have hD : smX t kind slope i v q = ((itv t q).1, v, (itv t q).2) := by unfold smX; (repeat' split) <;> first | rfl | (exfalso; omega)
      rw [hD] at hx2
      dsimp only at hx2
      have hE : smps acc ++ [[.v (.int .i64 (ts.getD i 0)), .v (.int .i64 ((itv t q).1))]] = smps (acc ++ [(ts.getD i 0, (itv t q).1)]) := by rw [zbi]; rfl
      (repeat' (first | refine zaD ?_ | (refine is_f 14 ?_; refine zay (zj3 t q ht htn) ?_) | (refine zat (fun hb => ?_) (fun hb => ?_) <;> (try (exfalso; omega))) | fail))
      all_goals exact ⟨(i + 1, v, (itv t q).2, acc ++ [(ts.getD i 0, (itv t q).1)]), ⟨by show i + 1 ≤ ts.length; omega, hx2, by show (acc ++ [(ts.getD i 0, (itv t q).1)]).length = i + 1; rw [List.length_append, hx3]; rfl⟩, by show Le _ _ (smS t kind slope ts (i + 1) (v) ((itv t q).2) (acc ++ [(ts.getD i 0, (itv t q).1)])); (refine Le.mk [(0,0),(1,3)] [] rfl zbl zbc zah), by show ts.length - (i + 1) < ts.length - i; omega⟩
     ·by_cases k5 : kind = 5
      ·by_cases k5b : nx t q (5 : Nat) = 1
       ·have h400 := zaB t (adv t q) (show (1 : Int) ≤ 400 by omega)
        have h3 := zaB t (adv t (adv t q)) (show (1 : Int) ≤ 3 by omega)
        have hD : smX t kind slope i v q = (IntKind.i64.wrap (IntKind.i64.wrap (v + (nx t (adv t q) 400 - 200)) + nx t (adv t (adv t q)) 3), IntKind.i64.wrap (v + (nx t (adv t q) 400 - 200)), adv t (adv t (adv t q))) := by unfold smX; (repeat' split) <;> first | rfl | (exfalso; omega)
        rw [hD] at hx2
        dsimp only at hx2
        have hE : smps acc ++ [[.v (.int .i64 (ts.getD i 0)), .v (.int .i64 (IntKind.i64.wrap (IntKind.i64.wrap (v + (nx t (adv t q) 400 - 200)) + nx t (adv t (adv t q)) 3)))]] = smps (acc ++ [(ts.getD i 0, IntKind.i64.wrap (IntKind.i64.wrap (v + (nx t (adv t q) 400 - 200)) + nx t (adv t (adv t q)) 3))]) := by rw [zbi]; rfl
        (repeat' (first | refine zaD ?_ | (refine is_f 15 ?_; refine zay (zbF t q 5 (by omega) (by omega) ht htn) ?_) | (refine is_f 7 ?_; refine zay (zaZ t (adv t q) 400 ht htn (by omega)) ?_) | (refine is_f 7 ?_; refine zay (zaZ t (adv t (adv t q)) 3 ht htn (by omega)) ?_) | (refine zat (fun hb => ?_) (fun hb => ?_) <;> (try (exfalso; omega))) | fail))
        all_goals exact ⟨(i + 1, IntKind.i64.wrap (v + (nx t (adv t q) 400 - 200)), adv t (adv t (adv t q)), acc ++ [(ts.getD i 0, IntKind.i64.wrap (IntKind.i64.wrap (v + (nx t (adv t q) 400 - 200)) + nx t (adv t (adv t q)) 3))]), ⟨by show i + 1 ≤ ts.length; omega, hx2, by show (acc ++ [(ts.getD i 0, IntKind.i64.wrap (IntKind.i64.wrap (v + (nx t (adv t q) 400 - 200)) + nx t (adv t (adv t q)) 3))]).length = i + 1; rw [List.length_append, hx3]; rfl⟩, by show Le _ _ (smS t kind slope ts (i + 1) (IntKind.i64.wrap (v + (nx t (adv t q) 400 - 200))) (adv t (adv t (adv t q))) (acc ++ [(ts.getD i 0, IntKind.i64.wrap (IntKind.i64.wrap (v + (nx t (adv t q) 400 - 200)) + nx t (adv t (adv t q)) 3))])); (refine Le.mk [(0,0),(1,3)] [] rfl zbl zbc zah), by show ts.length - (i + 1) < ts.length - i; omega⟩
       ·have h3 := zaB t (adv t q) (show (1 : Int) ≤ 3 by omega)
        have hD : smX t kind slope i v q = (IntKind.i64.wrap (v + nx t (adv t q) 3), v, adv t (adv t q)) := by unfold smX; (repeat' split) <;> first | rfl | (exfalso; omega)
        rw [hD] at hx2
        dsimp only at hx2
        have hE : smps acc ++ [[.v (.int .i64 (ts.getD i 0)), .v (.int .i64 (IntKind.i64.wrap (v + nx t (adv t q) 3)))]] = smps (acc ++ [(ts.getD i 0, IntKind.i64.wrap (v + nx t (adv t q) 3))]) := by rw [zbi]; rfl
        (repeat' (first | refine zaD ?_ | (refine is_f 15 ?_; refine zay (zbF t q 5 (by omega) (by omega) ht htn) ?_) | (refine is_f 7 ?_; refine zay (zaZ t (adv t q) 3 ht htn (by omega)) ?_) | (refine zat (fun hb => ?_) (fun hb => ?_) <;> (try (exfalso; omega))) | fail))
        all_goals exact ⟨(i + 1, v, adv t (adv t q), acc ++ [(ts.getD i 0, IntKind.i64.wrap (v + nx t (adv t q) 3))]), ⟨by show i + 1 ≤ ts.length; omega, hx2, by show (acc ++ [(ts.getD i 0, IntKind.i64.wrap (v + nx t (adv t q) 3))]).length = i + 1; rw [List.length_append, hx3]; rfl⟩, by show Le _ _ (smS t kind slope ts (i + 1) (v) (adv t (adv t q)) (acc ++ [(ts.getD i 0, IntKind.i64.wrap (v + nx t (adv t q) 3))])); (refine Le.mk [(0,0),(1,3)] [] rfl zbl zbc zah), by show ts.length - (i + 1) < ts.length - i; omega⟩
      ·by_cases k6 : kind = 6
       ·have h50 := zaB t q (show (1 : Int) ≤ 50 by omega)
        have h51 := zaB t (adv t q) (show (1 : Int) ≤ 50 by omega)
        have hD : smX t kind slope i v q = (IntKind.i64.wrap (IntKind.i64.wrap (nx t q 50 * nx t (adv t q) 50) * slope), v, adv t (adv t q)) := by unfold smX; (repeat' split) <;> first | rfl | (exfalso; omega)
        rw [hD] at hx2
        dsimp only at hx2
        have hE : smps acc ++ [[.v (.int .i64 (ts.getD i 0)), .v (.int .i64 (IntKind.i64.wrap (IntKind.i64.wrap (nx t q 50 * nx t (adv t q) 50) * slope)))]] = smps (acc ++ [(ts.getD i 0, IntKind.i64.wrap (IntKind.i64.wrap (nx t q 50 * nx t (adv t q) 50) * slope))]) := by rw [zbi]; rfl
        (repeat' (first | refine zaD ?_ | (refine is_f 7 ?_; refine zay (zaZ t q 50 ht htn (by omega)) ?_) | (refine is_f 7 ?_; refine zay (zaZ t (adv t q) 50 ht htn (by omega)) ?_) | (refine zat (fun hb => ?_) (fun hb => ?_) <;> (try (exfalso; omega))) | fail))
        all_goals exact ⟨(i + 1, v, adv t (adv t q), acc ++ [(ts.getD i 0, IntKind.i64.wrap (IntKind.i64.wrap (nx t q 50 * nx t (adv t q) 50) * slope))]), ⟨by show i + 1 ≤ ts.length; omega, hx2, by show (acc ++ [(ts.getD i 0, IntKind.i64.wrap (IntKind.i64.wrap (nx t q 50 * nx t (adv t q) 50) * slope))]).length = i + 1; rw [List.length_append, hx3]; rfl⟩, by show Le _ _ (smS t kind slope ts (i + 1) (v) (adv t (adv t q)) (acc ++ [(ts.getD i 0, IntKind.i64.wrap (IntKind.i64.wrap (nx t q 50 * nx t (adv t q) 50) * slope))])); (refine Le.mk [(0,0),(1,3)] [] rfl zbl zbc zah), by show ts.length - (i + 1) < ts.length - i; omega⟩
       ·have hD : smX t kind slope i v q = (v, v, q) := by unfold smX; (repeat' split) <;> first | rfl | (exfalso; omega)
        rw [hD] at hx2
        dsimp only at hx2
        have hE : smps acc ++ [[.v (.int .i64 (ts.getD i 0)), .v (.int .i64 (v))]] = smps (acc ++ [(ts.getD i 0, v)]) := by rw [zbi]; rfl
        (repeat' (first | refine zaD ?_ | (refine zat (fun hb => ?_) (fun hb => ?_) <;> (try (exfalso; omega))) | fail))
        all_goals exact ⟨(i + 1, v, q, acc ++ [(ts.getD i 0, v)]), ⟨by show i + 1 ≤ ts.length; omega, hx2, by show (acc ++ [(ts.getD i 0, v)]).length = i + 1; rw [List.length_append, hx3]; rfl⟩, by show Le _ _ (smS t kind slope ts (i + 1) (v) (q) (acc ++ [(ts.getD i 0, v)])); (refine Le.mk [(0,0),(1,3)] [] rfl zbl zbc zah), by show ts.length - (i + 1) < ts.length - i; omega⟩
 ·have hz : ts.length - i = 0 := by omega
  rw [hz, sms] at hx2
  subst hx2
  (repeat' (first | refine zaD ?_ | (refine zat (fun hb => ?_) (fun hb => ?_) <;> (try (exfalso; omega))) | fail))
  all_goals exact zbC [] (.fr 1 _ _ _ rfl) rfl rfl (zaF rfl rfl) rfl
end Go.Proofs.YtpnbgalbdohfgaaGreatDoor
