/- Texts of the second layer in one: Tx4 Wg1 Wg0 Wg2 Wr1 Wr2. -/
import Derived.Test.YtpnbgalbdohfgaaGreatDoorG13
import Derived.Test.YtpnbgalbdohfgaaGreatDoorG10
import Derived.Shelf.Spec.BitsCarry
import Derived.Test.YtpnbgalbdohfgaaGreatDoorG9
import Derived.Lib.BitFns
import Derived.Lib.ItoaNum
set_option maxHeartbeats 4000000
set_option maxRecDepth 100000
set_option linter.unusedVariables false
set_option linter.unusedSimpArgs false
namespace Go.Proofs.YtpnbgalbdohfgaaGreatDoor
open Go.RowKit Go.Ab Go.Wd
theorem zeN (L : List (Int × Int)) (i : Nat) (s : Int × Int) : smps (L.set i s) = (smps L).set i [.v (.int .i64 s.1), .v (.int .i64 s.2)] := by unfold smps; rw [List.map_set]
def sk1 (t : List Int) (q i : Nat) (L : List (Int × Int)) : List (Int × Int) := L.set i ((L.getD i (0, 0)).1, IntKind.i64.wrap ((L.getD i (0, 0)).2 + (nx t q 9 - 4)))
def sk2 (t : List Int) (q i : Nat) (L : List (Int × Int)) : List (Int × Int) := L.set i ((L.getD i (0, 0)).1, (itv t q).1)
def skG (t : List Int) : Nat → Nat → Nat → List (Int × Int) → List (Int × Int) × Nat
 | 0, i, q, L => (L, q)
 | j + 1, i, q, L => if nx t (adv t q) (6 : Nat) = 1 then skG t j (i + 1) (itv t (adv t (adv t q))).2 (sk2 t (adv t (adv t q)) i (sk1 t q i L)) else skG t j (i + 1) (adv t (adv t q)) (sk1 t q i L)
def skT (t : List Int) (q : Nat) (L : List (Int × Int)) : List (Int × Int) × Nat :=
 if nx t q (5 : Nat) = 1 then (L.set (nx t (adv t q) L.length).toNat (IntKind.i64.wrap ((L.getD (nx t (adv t q) L.length).toNat (0, 0)).1 + 1), (L.getD (nx t (adv t q) L.length).toNat (0, 0)).2), adv t (adv t q)) else (L, adv t q)
def zfM (t : List Int) (k : Nat) (l : List (Int × Int)) : List (Int × Int) × Nat :=
 if (skG t l.length 0 k l).1.length = 0 then skG t l.length 0 k l
 else if nx t (skT t (skG t l.length 0 k l).2 (skG t l.length 0 k l).1).2 (5 : Nat) = 1 then ((skT t (skG t l.length 0 k l).2 (skG t l.length 0 k l).1).1.drop 1, adv t (skT t (skG t l.length 0 k l).2 (skG t l.length 0 k l).1).2)
 else ((skT t (skG t l.length 0 k l).2 (skG t l.length 0 k l).1).1, adv t (skT t (skG t l.length 0 k l).2 (skG t l.length 0 k l).1).2)
def skS (t : List Int) (i q : Nat) (L : List (Int × Int)) : St :=
 ⟨[(0, .pt 0 0), (5, .ow 1), (6, .r (.v (.int .i64 (i : Int))))], [(0, some (tb t q)), (1, some (.row 47 2 (smps L)))], 2⟩
def skZ (t : List Int) (q : Nat) (L : List (Int × Int)) : St :=
 ⟨[(0, .pt 0 0), (5, .r (.sl 2 (smps L)))], [(0, some (tb t q))], 1⟩
theorem zjx (t : List Int) (k : Nat) (l : List (Int × Int)) (ht : Ints t) (htn : t.length ≤ 140737488351232) (hl : l.length ≤ 1000) : zaq Tryz.prog 6 [.pt 0 0, .r (.sl 2 (smps l))] [tb t k] (.r (.sl 2 (smps (zfM t k l).1))) [some (tb t (zfM t k l).2)] := by
 refine zaw Tryz.func6 rfl (Nat.le_of_ble_eq_true rfl) rfl rfl ?_
 have hbl := za8 l
 have h00 : [] ++ smps l = smps l := rfl
 (repeat' (first | refine zae ?_ | (refine zab (fun hb => ?_) (fun hb => ?_) <;> (try (exfalso; omega))) | fail))
 have hR : zfM t k l = zfM t k l := rfl
 generalize hRR : zfM t k l = R at hR ⊢
 unfold zfM at hRR
 refine zap (fun x : Nat × Nat × List (Int × Int) => skS t x.1 x.2.1 x.2.2) (fun x => x.1 ≤ l.length ∧ x.2.2.length = l.length ∧ skG t (l.length - x.1) x.1 x.2.1 x.2.2 = skG t l.length 0 k l) (fun x => l.length - x.1) (0, k, l) ⟨Nat.zero_le _, rfl, rfl⟩ (by (refine Le.mk [(0,0),(1,2)] [] zai zal zak zah)) fun x hx => ?_
 obtain ⟨i, q, L⟩ := x
 obtain ⟨hx1, hx2, hx3⟩ := hx
 dsimp only at hx1 hx2 hx3
 change awp _ _ _ _ _ (skS t i q L)
 have hLl : (smps L).length = L.length := za8 L
 rcases Nat.lt_or_ge i l.length with hi | hi
 ·have h9 := zaB t q (show (1 : Int) ≤ 9 by omega)
  obtain ⟨j, hj⟩ : ∃ j, l.length - i = j + 1 := ⟨l.length - i - 1, by omega⟩
  have hj2 : j = l.length - (i + 1) := by omega
  rw [hj, skG] at hx3
  subst hj2
  have hn := zbg i (by omega)
  have hE : (smps L).set i (setA [.v (.int .i64 (L.getD i (0, 0)).1), .v (.int .i64 (L.getD i (0, 0)).2)] 1 [.v (.int .i64 (IntKind.i64.wrap ((L.getD i (0, 0)).2 + (nx t q 9 - 4))))]) = smps (sk1 t q i L) := by unfold sk1; rw [zeN]; rfl
  have hL1 : (sk1 t q i L).length = L.length := by unfold sk1; rw [List.length_set]
  (repeat' (first | (first | refine zbm 6 ?_ | refine za4 6 ?_) | refine zdG ?_ | refine zbp ?_ | (refine is_f 7 ?_; refine zbh (zaZ t q 9 ht htn (by omega)) ?_) | (refine zab (fun hb => ?_) (fun hb => ?_) <;> (try (exfalso; omega))) | fail))
  all_goals (first | (exfalso; omega) | skip)
  refine halt ?_
  refine zci (T := skS t i (adv t q) (sk1 t q i L)) (by (refine Le.mk [(0,0)] [] zai zal zak zah)) ?_
  have cI := zj3 t (adv t (adv t q)) ht htn
  generalize sk1 t q i L = L1 at *
  have hLl1 : (smps L1).length = L1.length := za8 L1
  have hE2 : (smps L1).set i (setA [.v (.int .i64 (L1.getD i (0, 0)).1), .v (.int .i64 (L1.getD i (0, 0)).2)] 1 [.v (.int .i64 (itv t (adv t (adv t q))).1)]) = smps (sk2 t (adv t (adv t q)) i L1) := by unfold sk2; rw [zeN]; rfl
  have hL2 : (sk2 t (adv t (adv t q)) i L1).length = L1.length := by unfold sk2; rw [List.length_set]
  by_cases h6 : nx t (adv t q) (6 : Nat) = 1
  ·rw [if_pos h6] at hx3
   (repeat' (first | refine zae ?_ | (refine is_f 15 ?_; refine zbh (zbF t (adv t q) 6 (by omega) (by omega) ht htn) ?_) | (refine is_f 14 ?_; refine zbh (cI) ?_) | (refine zab (fun hb => ?_) (fun hb => ?_) <;> (try (exfalso; omega))) | fail))
   all_goals (first | exact absurd h6 (by assumption) | exact ⟨(i + 1, (itv t (adv t (adv t q))).2, sk2 t (adv t (adv t q)) i L1), ⟨hi, by show (sk2 t (adv t (adv t q)) i L1).length = _; rw [hL2, hL1]; exact hx2, hx3⟩, by show Le _ _ (skS t (i + 1) (itv t (adv t (adv t q))).2 (sk2 t (adv t (adv t q)) i L1)); (refine Le.mk [] [] zai zal zak zah), by show l.length - (i + 1) < l.length - i; omega⟩)
  ·rw [if_neg h6] at hx3
   (repeat' (first | refine zae ?_ | (refine is_f 15 ?_; refine zbh (zbF t (adv t q) 6 (by omega) (by omega) ht htn) ?_) | (refine is_f 14 ?_; refine zbh (cI) ?_) | (refine zab (fun hb => ?_) (fun hb => ?_) <;> (try (exfalso; omega))) | fail))
   all_goals (first | exact absurd (by assumption) h6 | exact ⟨(i + 1, adv t (adv t q), L1), ⟨hi, by show L1.length = _; rw [hL1]; exact hx2, hx3⟩, by show Le _ _ (skS t (i + 1) (adv t (adv t q)) L1); (refine Le.mk [] [] zai zal zak zah), by show l.length - (i + 1) < l.length - i; omega⟩)
 ·have hz : l.length - i = 0 := by omega
  rw [hz, skG] at hx3
  rw [← hx3] at hRR
  dsimp only at hRR
  by_cases h0 : L.length = 0
  ·rw [if_pos h0] at hRR
   subst hRR
   (repeat' (first | (first | refine zbm 10 ?_ | refine za4 10 ?_) | refine zdG ?_ | refine zbp ?_ | (refine zab (fun hb => ?_) (fun hb => ?_) <;> (try (exfalso; omega))) | fail))
   all_goals (first | (exfalso; omega) | skip)
   refine halt ?_
   refine zci (T := skZ t q L) (by (refine Le.mk [(0,0)] [1] zai zal zak zah)) ?_
   (repeat' (first | refine zae ?_ | (refine zab (fun hb => ?_) (fun hb => ?_) <;> (try (exfalso; omega))) | fail))
   all_goals (first | (exfalso; omega) | exact zbC [] (.r _) rfl rfl (zaF rfl rfl) rfl)
  ·rw [if_neg h0] at hRR
   have cut : ∀ (L2 : List (Int × Int)) (q2 : Nat), L2.length = L.length → skT t q L = (L2, q2) → True := fun _ _ _ _ => trivial
   have hnl := zaB t (adv t q) (show (1 : Int) ≤ (L.length : Int) by omega)
   have hdr : ∀ M : List (Int × Int), (smps M).drop 1 = smps (M.drop 1) := fun M => by unfold smps; rw [List.map_drop]
   by_cases h5 : nx t q (5 : Nat) = 1
   ·have hT : skT t q L = (L.set (nx t (adv t q) L.length).toNat (IntKind.i64.wrap ((L.getD (nx t (adv t q) L.length).toNat (0, 0)).1 + 1), (L.getD (nx t (adv t q) L.length).toNat (0, 0)).2), adv t (adv t q)) := by unfold skT; rw [if_pos h5]
    rw [hT] at hRR
    dsimp only at hRR
    have hE : (smps L).set (nx t (adv t q) L.length).toNat (setA [.v (.int .i64 (L.getD (nx t (adv t q) L.length).toNat (0, 0)).1), .v (.int .i64 (L.getD (nx t (adv t q) L.length).toNat (0, 0)).2)] 0 [.v (.int .i64 (IntKind.i64.wrap ((L.getD (nx t (adv t q) L.length).toNat (0, 0)).1 + 1)))]) = smps (L.set (nx t (adv t q) L.length).toNat (IntKind.i64.wrap ((L.getD (nx t (adv t q) L.length).toNat (0, 0)).1 + 1), (L.getD (nx t (adv t q) L.length).toNat (0, 0)).2)) := by rw [zeN]; rfl
    have hLM : (L.set (nx t (adv t q) L.length).toNat (IntKind.i64.wrap ((L.getD (nx t (adv t q) L.length).toNat (0, 0)).1 + 1), (L.getD (nx t (adv t q) L.length).toNat (0, 0)).2)).length = L.length := by rw [List.length_set]
    (repeat' (first | (first | refine zbm 10 ?_ | refine za4 10 ?_) | refine zdG ?_ | refine zbp ?_ | (refine is_f 15 ?_; refine zbh (zbF t q 5 (by omega) (by omega) ht htn) ?_) | (refine is_f 7 ?_; refine zbh (zaZ t (adv t q) L.length ht htn (by omega)) ?_) | (refine zab (fun hb => ?_) (fun hb => ?_) <;> (try (exfalso; omega))) | fail))
    all_goals (first | exact absurd h5 (by assumption) | (exfalso; omega) | skip)
    refine halt ?_
    refine zci (T := skS t i (adv t (adv t q)) (L.set (nx t (adv t q) L.length).toNat (IntKind.i64.wrap ((L.getD (nx t (adv t q) L.length).toNat (0, 0)).1 + 1), (L.getD (nx t (adv t q) L.length).toNat (0, 0)).2))) (by (refine Le.mk [(0,0)] [] zai zal zak zah)) ?_
    refine zci (T := skZ t (adv t (adv t q)) (L.set (nx t (adv t q) L.length).toNat (IntKind.i64.wrap ((L.getD (nx t (adv t q) L.length).toNat (0, 0)).1 + 1), (L.getD (nx t (adv t q) L.length).toNat (0, 0)).2))) (by (refine Le.mk [(0,0)] [1] zai zal zak zah)) ?_
    clear hE hT
    generalize L.set (nx t (adv t q) L.length).toNat (IntKind.i64.wrap ((L.getD (nx t (adv t q) L.length).toNat (0, 0)).1 + 1), (L.getD (nx t (adv t q) L.length).toNat (0, 0)).2) = M at *
    generalize adv t (adv t q) = q2 at *
    have hlM := za8 M
    by_cases h6 : nx t q2 (5 : Nat) = 1
    ·rw [if_pos h6] at hRR
     subst hRR
     have hd := hdr M
     dsimp only
     rw [← hd]
     (repeat' (first | refine zae ?_ | (refine is_f 15 ?_; refine zbh (zbF t q2 5 (by omega) (by omega) ht htn) ?_) | (refine zab (fun hb => ?_) (fun hb => ?_) <;> (try (exfalso; omega))) | fail))
     all_goals (first | exact absurd h6 (by assumption) | (exfalso; omega) | exact zbC [] (.r _) rfl rfl (zaF rfl rfl) rfl)
    ·rw [if_neg h6] at hRR
     subst hRR
     (repeat' (first | refine zae ?_ | (refine is_f 15 ?_; refine zbh (zbF t q2 5 (by omega) (by omega) ht htn) ?_) | (refine zab (fun hb => ?_) (fun hb => ?_) <;> (try (exfalso; omega))) | fail))
     all_goals (first | exact absurd (by assumption) h6 | (exfalso; omega) | exact zbC [] (.r _) rfl rfl (zaF rfl rfl) rfl)
   ·have hT : skT t q L = (L, adv t q) := by unfold skT; rw [if_neg h5]
    rw [hT] at hRR
    dsimp only at hRR
    (repeat' (first | (first | refine zbm 10 ?_ | refine za4 10 ?_) | refine zdG ?_ | refine zbp ?_ | (refine is_f 15 ?_; refine zbh (zbF t q 5 (by omega) (by omega) ht htn) ?_) | (refine zab (fun hb => ?_) (fun hb => ?_) <;> (try (exfalso; omega))) | fail))
    all_goals (first | exact absurd (by assumption) h5 | (exfalso; omega) | skip)
    refine halt ?_
    refine zci (T := skZ t (adv t q) L) (by (refine Le.mk [(0,0)] [1] zai zal zak zah)) ?_
    clear hT
    generalize adv t q = q2 at *
    by_cases h6 : nx t q2 (5 : Nat) = 1
    ·rw [if_pos h6] at hRR
     subst hRR
     have hd := hdr L
     dsimp only
     rw [← hd]
     (repeat' (first | refine zae ?_ | (refine is_f 15 ?_; refine zbh (zbF t q2 5 (by omega) (by omega) ht htn) ?_) | (refine zab (fun hb => ?_) (fun hb => ?_) <;> (try (exfalso; omega))) | fail))
     all_goals (first | exact absurd h6 (by assumption) | (exfalso; omega) | exact zbC [] (.r _) rfl rfl (zaF rfl rfl) rfl)
    ·rw [if_neg h6] at hRR
     subst hRR
     (repeat' (first | refine zae ?_ | (refine is_f 15 ?_; refine zbh (zbF t q2 5 (by omega) (by omega) ht htn) ?_) | (refine zab (fun hb => ?_) (fun hb => ?_) <;> (try (exfalso; omega))) | fail))
     all_goals (first | exact absurd (by assumption) h6 | (exfalso; omega) | exact zbC [] (.r _) rfl rfl (zaF rfl rfl) rfl)
theorem zi8 : B64 ^ 4 = 115792089237316195423570985008687907853269984665640564039457584007913129639936 := by decide
theorem zj4 (x : Nat) : zaq Tryz.prog 104 [.r (.v (.int .u64 (x : Int)))] [] (.r (.v (.bool false))) [] := by
 refine zaw Tryz.func104 rfl (Nat.le_of_ble_eq_true rfl) rfl rfl ?_
 (repeat' (first | refine zae ?_ | (refine zab (fun hb => ?_) (fun hb => ?_) <;> (try (exfalso; omega))) | fail))
 all_goals (first | (exfalso; omega) | exact ret1 [] (.bool rfl) rfl rfl rfl)
theorem ziw (x y : Nat) : zaq Tryz.prog 94 [.r (.v (.int .u64 (x : Int))), .r (.v (.int .u64 (y : Int)))] [] (.r (.v (.int .i64 (cmpN x y)))) [] := by
 have c1 : x < y → (-1 : Int) = cmpN x y := fun h => by unfold cmpN; rw [if_pos h]
 have c2 : y < x → (1 : Int) = cmpN x y := fun h => by unfold cmpN; rw [if_neg (by omega), if_pos h]
 have c3 : ¬ x < y → ¬ y < x → (0 : Int) = cmpN x y := fun h g => by unfold cmpN; rw [if_neg h, if_neg g]
 generalize cmpN x y = z at *
 refine zaw Tryz.func94 rfl (Nat.le_of_ble_eq_true rfl) rfl rfl ?_
 (repeat' (first | refine zae ?_ | (refine is_f 104 ?_; refine zaf (zj4 x) ?_) | (refine is_f 104 ?_; refine zaf (zj4 y) ?_) | (refine zab (fun hb => ?_) (fun hb => ?_) <;> (try (exfalso; omega))) | fail))
 all_goals (first | (exfalso; omega) | exact ret1 [] (.int (c1 (by omega))) rfl rfl rfl | exact ret1 [] (.int (c2 (by omega))) rfl rfl rfl | exact ret1 [] (.int (c3 (by omega) (by omega))) rfl rfl rfl)
def orL : List Int → Int
 | [] => 0
 | a :: l => if a ≠ 0 then a else orL l
theorem zlp (l : List Int) (i : Nat) (h : i < l.length) : orL (l.drop i) = if l.getD i 0 ≠ 0 then l.getD i 0 else orL (l.drop (i + 1)) := by
 rw [List.drop_eq_getElem_cons h, orL]
 simp [h]
def orS (l : List Int) (i : Nat) : St := ⟨[(3, .r (.v (.int .i64 0))), (6, .r (.sl 1 (nums .i64 l))), (7, .r (.v (.int .i64 (l.length : Int)))), (8, .r (.v (.int .i64 (i : Int))))], [], 0⟩
theorem zmo (l : List Int) (hl : l.length ≤ 1000) : zaq Tryz.prog 93 [.r (.sl 1 (nums .i64 l))] [] (.r (.v (.int .i64 (orL l)))) [] := by
 refine zaw Tryz.func93 rfl (Nat.le_of_ble_eq_true rfl) rfl rfl ?_
 have hll : (nums .i64 l).length = l.length := za5 _ l
 (repeat' (first | refine zae ?_ | (refine zab (fun hb => ?_) (fun hb => ?_) <;> (try (exfalso; omega))) | fail))
 refine zap (orS l) (fun i => i ≤ l.length ∧ orL (l.drop i) = orL l) (fun i => l.length - i) 0 ⟨Nat.zero_le _, rfl⟩ (by (refine Le.mk [] [] zai zal zak zah)) fun i hx => ?_
 obtain ⟨hi, hv⟩ := hx
 rcases Nat.lt_or_ge i l.length with h | h
 ·rw [zlp l i h] at hv
  have e1 : ¬ l.getD i 0 = 0 → l.getD i 0 = orL l := fun h => by rw [if_pos h] at hv; exact hv
  have e2 : ¬ ¬ l.getD i 0 = 0 → orL (l.drop (i + 1)) = orL l := fun h => by rw [if_neg h] at hv; exact hv
  have hw : IntKind.i64.wrap ((i : Int) + 1) = ((i + 1 : Nat) : Int) := zbg i (by omega)
  (repeat' (first | refine zae ?_ | (refine zab (fun hb => ?_) (fun hb => ?_) <;> (try (exfalso; omega))) | fail))
  all_goals (first | (exfalso; omega) | exact ret1 [] (.int (e1 hb)) rfl rfl rfl | exact ⟨i + 1, ⟨h, e2 hb⟩, by (refine Le.mk [] [] zai zal zak zah), by show l.length - (i + 1) < l.length - i; omega⟩)
 ·have : l.drop i = [] := List.drop_eq_nil_of_le h
  rw [this, orL] at hv
  rw [← hv]
  (repeat' (first | refine zae ?_ | (refine zab (fun hb => ?_) (fun hb => ?_) <;> (try (exfalso; omega))) | fail))
  all_goals (first | (exfalso; omega) | exact ret1 [] (.int rfl) rfl rfl rfl)
theorem cmp4 (m n : Nat) (hm : m < B64 ^ 4) (hn : n < B64 ^ 4) : orL [cmpN (m / B64 / B64 / B64 % B64) (n / B64 / B64 / B64 % B64), cmpN (m / B64 / B64 % B64) (n / B64 / B64 % B64), cmpN (m / B64 % B64) (n / B64 % B64), cmpN (m % B64) (n % B64)] = cmpN m n := by
 have hm4 : m / B64 / B64 / B64 / B64 = 0 := by rw [zi8] at hm; unfold B64; omega
 have hn4 : n / B64 / B64 / B64 / B64 = 0 := by rw [zi8] at hn; unfold B64; omega
 have key : ∀ a b x y : Nat, x < B64 → y < B64 → cmpN (x + B64 * a) (y + B64 * b) = if cmpN a b ≠ 0 then cmpN a b else cmpN x y := by
  intro a b x y hx hy
  have n1 : (-1 : Int) ≠ 0 := by decide
  have n2 : (1 : Int) ≠ 0 := by decide
  have n3 : ¬ (0 : Int) ≠ 0 := by simp
  clear hm hn hm4 hn4
  unfold B64 at *
  unfold cmpN
  rcases Nat.lt_trichotomy a b with h | h | h
  ·have g : x + 18446744073709551616 * a < y + 18446744073709551616 * b := by omega
   rw [if_pos g, if_pos h, if_pos n1]
  ·subst h
   rw [if_neg (Nat.lt_irrefl a), if_neg (Nat.lt_irrefl a), if_neg n3]
   rcases Nat.lt_trichotomy x y with h | h | h
   ·have g : x + 18446744073709551616 * a < y + 18446744073709551616 * a := by omega
    rw [if_pos g, if_pos h]
   ·subst h; rw [if_neg (Nat.lt_irrefl _), if_neg (Nat.lt_irrefl _), if_neg (Nat.lt_irrefl _), if_neg (Nat.lt_irrefl _)]
   ·have g : y + 18446744073709551616 * a < x + 18446744073709551616 * a := by omega
    rw [if_neg (Nat.lt_asymm g), if_pos g, if_neg (Nat.lt_asymm h), if_pos h]
  ·have g : y + 18446744073709551616 * b < x + 18446744073709551616 * a := by omega
   rw [if_neg (Nat.lt_asymm g), if_pos g, if_neg (Nat.lt_asymm h), if_pos h, if_pos n2]
 have hp : ∀ x : Nat, x % B64 < B64 := fun x => Nat.mod_lt _ (by decide)
 have e : ∀ x : Nat, x = x % B64 + B64 * (x / B64) := fun x => (Nat.mod_add_div x B64).symm
 have k1 := key (m / B64) (n / B64) (m % B64) (n % B64) (hp _) (hp _)
 have k2 := key (m / B64 / B64) (n / B64 / B64) (m / B64 % B64) (n / B64 % B64) (hp _) (hp _)
 have k3 := key (m / B64 / B64 / B64) (n / B64 / B64 / B64) (m / B64 / B64 % B64) (n / B64 / B64 % B64) (hp _) (hp _)
 have k4 := key (m / B64 / B64 / B64 / B64) (n / B64 / B64 / B64 / B64) (m / B64 / B64 / B64 % B64) (n / B64 / B64 / B64 % B64) (hp _) (hp _)
 rw [← e, ← e] at k1 k2 k3 k4
 rw [hm4, hn4] at k4
 have k5 : cmpN 0 0 = 0 := by decide
 rw [k5, if_neg (by simp)] at k4
 simp only [orL, ← k4]
 rw [k1, k2, k3]
 clear k1 k2 k3 k4 key e
 generalize cmpN (m / B64 / B64 / B64) (n / B64 / B64 / B64) = z3
 generalize cmpN (m / B64 / B64 % B64) (n / B64 / B64 % B64) = z2
 generalize cmpN (m / B64 % B64) (n / B64 % B64) = z1
 generalize cmpN (m % B64) (n % B64) = z0
 by_cases h3 : z3 = 0 <;> by_cases h2 : z2 = 0 <;> by_cases h1 : z1 = 0 <;> by_cases h0 : z0 = 0 <;> simp [h3, h2, h1, h0]
theorem znu (m n : Nat) (hm : m < B64 ^ 4) (hn : n < B64 ^ 4) : zaq Tryz.prog 68 [w4 m, w4 n] [] (.r (.v (.int .i64 (cmpN m n)))) [] := by
 rw [← cmp4 m n hm hn]
 refine zaw Tryz.func68 rfl (Nat.le_of_ble_eq_true rfl) rfl rfl ?_
 have c3 := ziw (m / B64 / B64 / B64 % B64) (n / B64 / B64 / B64 % B64)
 have c2 := ziw (m / B64 / B64 % B64) (n / B64 / B64 % B64)
 have c1 := ziw (m / B64 % B64) (n / B64 % B64)
 have c0 := ziw (m % B64) (n % B64)
 unfold w4
 generalize m / B64 / B64 / B64 % B64 = x3 at *
 generalize n / B64 / B64 / B64 % B64 = y3 at *
 generalize m / B64 / B64 % B64 = x2 at *
 generalize n / B64 / B64 % B64 = y2 at *
 generalize m / B64 % B64 = x1 at *
 generalize n / B64 % B64 = y1 at *
 generalize m % B64 = x0 at *
 generalize n % B64 = y0 at *
 generalize cmpN x3 y3 = z3 at *
 generalize cmpN x2 y2 = z2 at *
 generalize cmpN x1 y1 = z1 at *
 generalize cmpN x0 y0 = z0 at *
 have cO := zmo [z3, z2, z1, z0] (by simp)
 generalize orL [z3, z2, z1, z0] = r at *
 have hE : [[.v (.int .i64 z3)], [.v (.int .i64 z2)], [.v (.int .i64 z1)], [.v (.int .i64 z0)]] = nums .i64 [z3, z2, z1, z0] := rfl
 (repeat' (first | refine zae ?_ | (refine is_f 94 ?_; refine zaf (c3) ?_) | (refine is_f 94 ?_; refine zaf (c2) ?_) | (refine is_f 94 ?_; refine zaf (c1) ?_) | (refine is_f 94 ?_; refine zaf (c0) ?_) | (refine is_f 93 ?_; refine zlx (cO) ?_) | (refine zab (fun hb => ?_) (fun hb => ?_) <;> (try (exfalso; omega))) | fail))
 all_goals (first | (exfalso; omega) | exact ret1 [] (.int rfl) rfl rfl rfl)
end Go.Proofs.YtpnbgalbdohfgaaGreatDoor
namespace Go.Wd
open Go
def wo (n i : Nat) : Nat := n / B64 ^ i % B64
theorem zde (n i : Nat) : wo n i < B64 := Nat.mod_lt _ (by decide)
theorem wo0 (n : Nat) : wo n 0 = n % B64 := by unfold wo; rw [Nat.pow_zero, Nat.div_one]
theorem wo1 (n : Nat) : wo n 1 = n / B64 % B64 := by unfold wo; rw [Nat.pow_one]
theorem wo2 (n : Nat) : wo n 2 = n / B64 / B64 % B64 := by unfold wo; rw [Nat.pow_succ, Nat.pow_one, Nat.div_div_eq_div_mul]
theorem wo3 (n : Nat) : wo n 3 = n / B64 / B64 / B64 % B64 := by unfold wo; rw [Nat.pow_succ, Nat.pow_succ, Nat.pow_one, Nat.div_div_eq_div_mul, Nat.div_div_eq_div_mul, Nat.mul_assoc]
theorem ws4 (n : Nat) : ws n 4 = [wo n 0, wo n 1, wo n 2, wo n 3] := by rw [wo0, wo1, wo2, wo3]; rfl
theorem za0 : B64 = 2 ^ 64 := by decide
theorem zhd {n i : Nat} (h : n < B64 ^ i) : wo n i = 0 := by unfold wo; rw [Nat.div_eq_of_lt h]; rfl
theorem znk (n w r : Nat) (hr : r < 64) : wo (n * 2 ^ (64 * w + r)) w = wo n 0 * 2 ^ r % B64 := by
 have e : n * 2 ^ (64 * w + r) = n * 2 ^ r * B64 ^ w := by rw [Nat.pow_add, Nat.pow_mul, ← za0, Nat.mul_assoc, Nat.mul_comm (B64 ^ w)]
 have hp : 0 < B64 ^ w := Nat.pow_pos (by decide)
 unfold wo
 rw [e, Nat.mul_div_cancel _ hp, Nat.pow_zero, Nat.div_one, Nat.mod_mul_mod]
theorem zjB (n w r i : Nat) (hi : i < w) : wo (n * 2 ^ (64 * w + r)) i = 0 := by
 obtain ⟨d, rfl⟩ : ∃ d, w = i + 1 + d := ⟨w - (i + 1), by omega⟩
 have e : n * 2 ^ (64 * (i + 1 + d) + r) = (n * 2 ^ r * B64 ^ d * B64) * B64 ^ i := by
  rw [Nat.pow_add, Nat.pow_mul, ← za0, Nat.pow_add, Nat.pow_succ]
  simp only [Nat.mul_assoc, Nat.mul_comm, Nat.mul_left_comm]
 have hp : 0 < B64 ^ i := Nat.pow_pos (by decide)
 unfold wo
 rw [e, Nat.mul_div_cancel _ hp, Nat.mul_mod_left]
theorem zlG (h r : Nat) (hr : r ≤ 64) : h / 2 ^ (64 - r) % B64 = h / B64 % B64 * 2 ^ r % B64 + h % B64 / 2 ^ (64 - r) ∧ h / B64 % B64 * 2 ^ r % B64 % 2 ^ r = 0 ∧ h % B64 / 2 ^ (64 - r) < 2 ^ r := by
 obtain ⟨s, hs⟩ : ∃ s, s = 64 - r := ⟨_, rfl⟩
 have hb : B64 = 2 ^ s * 2 ^ r := by rw [za0, ← Nat.pow_add]; congr 1; omega
 rw [← hs]
 have hps : 0 < 2 ^ s := Nat.pow_pos (by decide)
 have hpr : 0 < 2 ^ r := Nat.pow_pos (by decide)
 generalize 2 ^ s = S at *
 generalize 2 ^ r = R at *
 clear hs
 have hlt : h % B64 / S < R := by
  rw [Nat.div_lt_iff_lt_mul hps, Nat.mul_comm, ← hb]
  exact Nat.mod_lt _ (by decide)
 have hm : h / B64 % B64 * R % B64 = R * (h / B64 % S) := by
  rw [Nat.mul_comm, hb, Nat.mul_comm S R, Nat.mul_mod_mul_left, Nat.mod_mul_left_mod]
 refine ⟨?_, by rw [hm, Nat.mul_mod_right], hlt⟩
 have hd : h / S = R * (h / B64) + h % B64 / S := by
  have e := Nat.mod_add_div h B64
  have : h = h % B64 + S * (R * (h / B64)) := by
   rw [← Nat.mul_assoc, ← hb]; exact e.symm
  have e2 : h / S = (h % B64 + S * (R * (h / B64))) / S := by rw [← this]
  rw [e2, Nat.add_mul_div_left _ _ hps, Nat.add_comm]
 rw [hd, hm]
 have hq := Nat.mod_add_div (h / B64) S
 have hc : h / B64 % S < S := Nat.mod_lt _ hps
 generalize h / B64 % S = c at *
 generalize h / B64 / S = q at *
 generalize h % B64 / S = e at *
 rw [← hq, Nat.mul_add, hb]
 have e1 : R * c + R * (S * q) + e = (R * c + e) + S * R * q := by
  have : R * (S * q) = S * R * q := by rw [← Nat.mul_assoc, Nat.mul_comm R S]
  omega
 rw [e1, Nat.add_mul_mod_self_left]
 refine Nat.mod_eq_of_lt ?_
 have h3 : R * (c + 1) ≤ R * S := Nat.mul_le_mul (Nat.le_refl _) hc
 rw [Nat.mul_comm S R]
 rw [Nat.mul_add] at h3
 omega
theorem zn2 (n w r j : Nat) (hr : r < 64) : wo (n * 2 ^ (64 * w + r)) (w + (j + 1)) = wo n (j + 1) * 2 ^ r % B64 + wo n j / 2 ^ (64 - r) ∧ wo n (j + 1) * 2 ^ r % B64 % 2 ^ r = 0 ∧ wo n j / 2 ^ (64 - r) < 2 ^ r := by
 have e : n * 2 ^ (64 * w + r) / B64 ^ (w + (j + 1)) = n / B64 ^ j / 2 ^ (64 - r) := by
  have e1 : n * 2 ^ (64 * w + r) = n * (2 ^ r * B64 ^ w) := by rw [Nat.pow_add, Nat.pow_mul, ← za0, Nat.mul_comm (B64 ^ w)]
  have e2 : B64 ^ (w + (j + 1)) = B64 ^ j * 2 ^ (64 - r) * (2 ^ r * B64 ^ w) := by
   have hb : B64 = 2 ^ (64 - r) * 2 ^ r := by rw [za0, ← Nat.pow_add]; congr 1; omega
   rw [Nat.pow_add, Nat.pow_succ]
   conv => lhs; rw [show B64 ^ w * (B64 ^ j * B64) = B64 ^ w * (B64 ^ j * (2 ^ (64 - r) * 2 ^ r)) by rw [← hb]]
   simp only [Nat.mul_assoc, Nat.mul_comm, Nat.mul_left_comm]
  rw [e1, e2, Nat.mul_div_mul_right _ _ (Nat.mul_pos (Nat.pow_pos (by decide)) (Nat.pow_pos (by decide))), Nat.div_div_eq_div_mul]
 have h := zlG (n / B64 ^ j) r (by omega)
 have e3 : n / B64 ^ (j + 1) = n / B64 ^ j / B64 := by rw [Nat.pow_succ, Nat.div_div_eq_div_mul]
 unfold wo
 rw [e, e3]
 exact h
theorem zhy (a b k : Nat) (ha : a % 2 ^ k = 0) (hb : b < 2 ^ k) : a ||| b = a + b := by
 have e : a = 2 ^ k * (a / 2 ^ k) := by
  have := Nat.mod_add_div a (2 ^ k)
  omega
 rw [e, ← Nat.two_pow_add_eq_or_of_lt hb]
theorem znj (n i : Nat) : wo (n / 2) i = wo n i / 2 + wo n (i + 1) % 2 * 9223372036854775808 := by
 have e : n / 2 / B64 ^ i = n / B64 ^ i / 2 := by rw [Nat.div_div_eq_div_mul, Nat.div_div_eq_div_mul, Nat.mul_comm]
 unfold wo
 rw [e, Nat.pow_succ, ← Nat.div_div_eq_div_mul]
 unfold B64
 omega
def bl (n : Nat) : Nat := if n = 0 then 0 else n.log2 + 1
theorem zja (n : Nat) : n < 2 ^ bl n := by
 unfold bl
 split
 ·rename_i h; subst h; decide
 ·exact Nat.lt_log2_self
theorem zi9 (n : Nat) (h : n ≠ 0) : 2 ^ (bl n - 1) ≤ n := by
 unfold bl
 rw [if_neg h]
 exact Nat.log2_self_le h
theorem zis {n : Nat} (h : n ≠ 0) : 0 < bl n := by unfold bl; rw [if_neg h]; omega
theorem zjF (n k : Nat) (h1 : 2 ^ k ≤ n) (h2 : n < 2 ^ (k + 1)) : bl n = k + 1 := by
 have hn : n ≠ 0 := by have : 0 < 2 ^ k := Nat.pow_pos (by decide); omega
 have a1 := zja n
 have a2 := zi9 n hn
 have a3 := zis hn
 rcases Nat.lt_trichotomy (bl n) (k + 1) with h | h | h
 ·have : 2 ^ bl n ≤ 2 ^ k := Nat.pow_le_pow_right (by decide) (by omega)
  omega
 ·exact h
 ·have : 2 ^ (k + 1) ≤ 2 ^ (bl n - 1) := Nat.pow_le_pow_right (by decide) (by omega)
  omega
theorem zlY (x : Nat) (h : x < B64) : Lib.bitLen x = bl x := by
 by_cases h0 : x = 0
 ·subst h0; rfl
 ·obtain ⟨b1, b2, b3⟩ := Lib.bitLenAux_bounds 64 x (by rw [← za0]; exact h) h0
  have := zjF x (Lib.bitLenAux 64 x - 1) b2 (by rw [Nat.sub_add_cancel b1]; exact b3)
  rw [this]
  show Lib.bitLenAux 64 x = _
  omega
theorem zmj (a b : Nat) (ha : a < B64) (hb : b ≠ 0) : bl (a + B64 * b) = 64 + bl b := by
 have h1 := zja b
 have h2 := zi9 b hb
 have h3 := zis hb
 have e : 64 + bl b = (64 + (bl b - 1)) + 1 := by omega
 rw [e]
 refine zjF _ _ ?_ ?_
 ·rw [Nat.pow_add, ← za0]
  have := Nat.mul_le_mul (Nat.le_refl B64) h2
  omega
 ·rw [← e, Nat.pow_add, ← za0]
  have := Nat.mul_le_mul (Nat.le_refl B64) (show b + 1 ≤ 2 ^ bl b from h1)
  rw [Nat.mul_add] at this
  omega
theorem zcN {n k : Nat} (h : n < 2 ^ k) : bl n ≤ k := by
 by_cases h0 : n = 0
 ·subst h0; unfold bl; rw [if_pos rfl]; omega
 ·rcases Nat.lt_or_ge k (bl n) with h1 | h1
  ·have := zi9 n h0
   have : 2 ^ k ≤ 2 ^ (bl n - 1) := Nat.pow_le_pow_right (by decide) (by omega)
   omega
  ·exact h1
end Go.Wd
namespace Go.Proofs.YtpnbgalbdohfgaaGreatDoor
open Go.RowKit Go.Ab Go.Wd
section
variable {env : Nat → AV} {H : Nat → Option Blk} {d : Option Tmp} {ty : TypeId} {pos : String} {af : Array Edge} {g : Option (Nat × Bool)} {x y z : Operand} {t1 t2 t3 : TypeId}
theorem zeG {a b c : Nat} (hx : evA env x = .r (.v (.int .u64 (a : Int)))) (hy : evA env y = .r (.v (.int .u64 (b : Int)))) (hz : evA env z = .r (.v (.int .u64 (c : Int)))) (hc : c ≤ 1) :
  zas Tryz.prog ⟨d, .call { callee := .value (.func 85), args := #[x, y, z], argTypes := #[t1, t2, t3] }, ty, pos, af, g⟩ env H [] (.tu [.r (.v (.int .u64 (((a + B64 - b - c) % B64 : Nat) : Int))), .r (.v (.int .u64 (((if a < b + c then 1 else 0) : Nat) : Int)))]) := by
 refine ⟨fun i b h => by simp at h, fun i hi => by simp [AV.ids, AV.idss] at hi, fun ac w Z M hr _ => ?_⟩
 have h1 := ev_v hx (hr x (by simp [Op.operands, Call.operands]))
 have h2 := ev_v hy (hr y (by simp [Op.operands, Call.operands]))
 have h3 := ev_v hz (hr z (by simp [Op.operands, Call.operands]))
 have hrun : (callFunc 85 #[.int .u64 (a : Int), .int .u64 (b : Int), .int .u64 (c : Int)]).run Tryz.prog w = .ok (.value (.tuple #[.int .u64 (((a + B64 - b - c) % B64 : Nat) : Int), .int .u64 (((if a < b + c then 1 else 0) : Nat) : Int)])) w := by
  rw [run_callFunc_extern Tryz.func85 (by kernel_rfl) (by kernel_rfl) (by kernel_rfl) (e := sub64Entry) (by kernel_rfl), run_sub64 a b c hc]
  rfl
 refine ⟨_, ?_, by rw [AV.rep]; exact ⟨_, rfl, by simp only [AV.reps, AV.rep, RV.rep]; exact ⟨_, _, rfl, rfl, _, _, rfl, rfl, rfl⟩⟩⟩
 have h4 : ac.eval (.func 85) = .func (.func 85) #[] #[] := rfl
 simp only [execOp, resolve, h4, Deferred.ofValue, Sem.run_bind, Sem.run_pure, Result.andThen_ok, invoke, List.map_toArray, List.map_cons, List.map_nil, h1, h2, h3]
 simpa using hrun
end
def sbG (a b : List Nat) : Nat → Nat → Nat → List Nat → Nat × List Nat
 | 0, _, c, l => (c, l)
 | j + 1, i, c, l => sbG a b j (i + 1) (if a.getD i 0 < b.getD i 0 + c then 1 else 0) (l.set i ((a.getD i 0 + B64 - b.getD i 0 - c) % B64))
theorem zkH (a b : List Nat) (ha : Wds a) (hb : Wds b) (hl : a.length = b.length) : ∀ (j i c : Nat) (l : List Nat), j + i = a.length → l.length = a.length → Wds l → c ≤ 1 → (∀ p, i ≤ p → l.getD p 0 = 0) → val l + val (b.take i) = val (a.take i) + B64 ^ i * c →
  Wds (sbG a b j i c l).2 ∧ (sbG a b j i c l).2.length = a.length ∧ (sbG a b j i c l).1 ≤ 1 ∧ val (sbG a b j i c l).2 + val b = val a + B64 ^ a.length * (sbG a b j i c l).1
 | 0, i, c, l, hj, hll, hw, hc, hz, hv => by
  have : i = a.length := by omega
  subst this
  rw [List.take_length, hl, List.take_length, ← hl] at hv
  exact ⟨hw, hll, hc, hv⟩
 | j + 1, i, c, l, hj, hll, hw, hc, hz, hv => by
  have h1 := ha.get i
  have h2 := hb.get i
  have hvs := zdp l i ((a.getD i 0 + B64 - b.getD i 0 - c) % B64) (by omega)
  rw [hz i (Nat.le_refl _), Nat.mul_zero, Nat.add_zero] at hvs
  have e1 := zcd a i (by omega)
  have e2 := zcd b i (by omega)
  rw [sbG]
  refine zkH a b ha hb hl j (i + 1) _ _ (by omega) (by rw [List.length_set]; exact hll) (hw.set i (by unfold B64; omega)) (by split <;> omega) (fun p hp => ?_) ?_
  ·have : i ≠ p := by omega
   have e := hz p (by omega)
   simpa [List.getD_eq_getElem?_getD, List.getElem?_set, this] using e
  ·rw [hvs, e1, e2, Nat.pow_succ]
   have hm : (a.getD i 0 + B64 - b.getD i 0 - c) % B64 + b.getD i 0 + c = a.getD i 0 + B64 * (if a.getD i 0 < b.getD i 0 + c then 1 else 0) := by
    split <;> (unfold B64 at *; omega)
   generalize (a.getD i 0 + B64 - b.getD i 0 - c) % B64 = r at *
   generalize (if a.getD i 0 < b.getD i 0 + c then 1 else 0) = q at *
   generalize a.getD i 0 = x at *
   generalize b.getD i 0 = y at *
   generalize B64 ^ i = M at *
   have e3 : M * (r + y + c) = M * (x + B64 * q) := by rw [hm]
   rw [Nat.mul_add, Nat.mul_add, Nat.mul_add, ← Nat.mul_assoc] at e3
   omega
def sbS (a b : List Nat) (i c : Nat) (l : List Nat) : St := ⟨[(2, .pt 0 0), (3, .pt 1 0), (4, .pt 2 0), (5, .r (.v (.int .u64 (c : Int)))), (7, .r (.v (.int .i64 (i : Int))))], [(0, some (.var 24 (wv a))), (1, some (.var 24 (wv b))), (2, some (.var 24 (wv l)))], 3⟩
theorem zgR (a b : List Nat) (i c : Nat) (l : List Nat) : za7 ⟨0, zcq []⟩ (sbS a b i c l) (rho []) [] = true := by
 have hid : ∀ T l, (Blk.var T (wv l)).ids = [] := fun T l => by rw [Blk.ids, zbG]
 unfold za7 sbS; simp only [List.all_cons, List.all_nil, hid]; rfl
theorem zod (m n : Nat) (hm : m < B64 ^ 4) (hn : n < B64 ^ 4) (hmn : n ≤ m) : zaq Tryz.prog 69 [w4 m, w4 n] [] (w4 (m - n)) [] := by
 have hla := zcC 4 m
 have hlb := zcC 4 n
 have hwa := zdM 4 m
 have hwb := zdM 4 n
 have hva := zdL 4 m hm
 have hvb := zdL 4 n hn
 refine zaw Tryz.func69 rfl (Nat.le_of_ble_eq_true rfl) rfl rfl ?_
 (repeat' (first | refine zae ?_ | (refine zab (fun hb => ?_) (fun hb => ?_) <;> (try (exfalso; omega))) | fail))
 obtain ⟨g1, g2, g3, g4⟩ := zkH (ws m 4) (ws n 4) hwa hwb (by rw [hla, hlb]) 4 0 0 [0, 0, 0, 0] (by rw [hla]) (by rw [hla]; rfl) (fun a ha => by simp at ha; subst ha; decide) (by omega) (fun p _ => by rcases p with _ | _ | _ | _ | p <;> rfl) (by simp [val])
 have hfin : sbG (ws m 4) (ws n 4) 4 0 0 [0, 0, 0, 0] = (0, ws (m - n) 4) := by
  generalize sbG (ws m 4) (ws n 4) 4 0 0 [0, 0, 0, 0] = R at *
  obtain ⟨c, l⟩ := R
  dsimp only at *
  rw [hva, hvb, hla] at g4
  have e := four l (by rw [g2, hla]) g1
  have hvl : val l < B64 ^ 4 := by have := zgv l g1; rw [g2, hla] at this; exact this
  have hc : c = 0 := by
   rcases Nat.eq_zero_or_pos c with h | h
   ·exact h
   ·have : B64 ^ 4 * 1 ≤ B64 ^ 4 * c := Nat.mul_le_mul (Nat.le_refl _) h
    omega
  subst hc
  rw [Nat.mul_zero, Nat.add_zero] at g4
  have g5 : val l = m - n := by omega
  rw [g5] at e
  rw [e]
 refine zap (fun x : Nat × Nat × List Nat => sbS (ws m 4) (ws n 4) x.1 x.2.1 x.2.2) (fun x => x.1 ≤ 4 ∧ x.2.2.length = 4 ∧ x.2.1 ≤ 1 ∧ sbG (ws m 4) (ws n 4) (4 - x.1) x.1 x.2.1 x.2.2 = (0, ws (m - n) 4)) (fun x => 4 - x.1) (0, 0, [0, 0, 0, 0]) ⟨by omega, rfl, by show 0 ≤ 1; omega, hfin⟩ (by (refine Le.mk [] [] zai zal zak zah)) fun x hx => ?_
 obtain ⟨i, c, l⟩ := x
 obtain ⟨hx1, hx2, hx3, hx4⟩ := hx
 dsimp only at hx1 hx2 hx3 hx4
 change awp _ _ _ _ _ (sbS (ws m 4) (ws n 4) i c l)
 rcases Nat.lt_or_ge i 4 with hi | hi
 ·obtain ⟨j, hj⟩ : ∃ j, 4 - i = j + 1 := ⟨4 - i - 1, by omega⟩
  have hj2 : j = 4 - (i + 1) := by omega
  rw [hj, sbG] at hx4
  subst hj2
  have ga : (wv (ws m 4))[0 + i * 1]? = some (.r (.v (.int .u64 ((ws m 4).getD i 0 : Nat)))) := by rw [show 0 + i * 1 = i by omega]; exact zev (by omega)
  have gb : (wv (ws n 4))[0 + i * 1]? = some (.r (.v (.int .u64 ((ws n 4).getD i 0 : Nat)))) := by rw [show 0 + i * 1 = i by omega]; exact zev (by omega)
  have hxa := hwa.get i
  have hxb := hwb.get i
  generalize ws m 4 = a at *
  generalize ws n 4 = b at *
  have hc1 : (if a.getD i 0 < b.getD i 0 + c then 1 else 0) ≤ 1 := by split <;> omega
  generalize a.getD i 0 = x at *
  generalize b.getD i 0 = y at *
  have key : ∀ i0, i = i0 → IntKind.i64.wrap ((i0 : Int) + 1) = ((i0 + 1 : Nat) : Int) := fun i0 h => zbg i0 (by omega)
  obtain ⟨l0, l1, l2, l3, rfl⟩ : ∃ l0 l1 l2 l3, l = [l0, l1, l2, l3] := by
   match l, hx2 with
   | [l0, l1, l2, l3], _ => exact ⟨l0, l1, l2, l3, rfl⟩
  have hcase : i = 0 ∨ i = 1 ∨ i = 2 ∨ i = 3 := by omega
  rcases hcase with rfl | rfl | rfl | rfl
  ·have hnum := zgR a b (0 + 1) ((if x < y + c then 1 else 0)) ([l0, l1, l2, l3].set 0 ((x + B64 - y - c) % B64))
   (repeat' (first | refine zae ?_ | ((refine is_f 85 ?_; refine zag rfl zaa (zeG rfl rfl rfl hx3) ?_); try dsimp only [AV.unfr, AV.unfrs, frsL, zaO, rdOf, @List.length_cons Blk, @List.length_nil Blk, @List.nil_append (Nat × Option Blk), @List.cons_append (Nat × Option Blk), @List.nil_append Blk, @List.cons_append Blk, Nat.add_zero, Nat.zero_add, Nat.reduceAdd]) | (refine zab (fun hb => ?_) (fun hb => ?_) <;> (try (exfalso; omega))) | fail))
   all_goals (first | (exfalso; omega) | exact ⟨(0 + 1, (if x < y + c then 1 else 0), [l0, l1, l2, l3].set 0 ((x + B64 - y - c) % B64)), ⟨by show 0 + 1 ≤ 4; omega, rfl, hc1, hx4⟩, by show Le _ _ (sbS a b (0 + 1) ((if x < y + c then 1 else 0)) ([l0, l1, l2, l3].set 0 ((x + B64 - y - c) % B64))); (refine Le.mk [] [] zai zal zak zah), by show 4 - (0 + 1) < 4 - 0; omega⟩)
  ·have hnum := zgR a b (1 + 1) ((if x < y + c then 1 else 0)) ([l0, l1, l2, l3].set 1 ((x + B64 - y - c) % B64))
   (repeat' (first | refine zae ?_ | ((refine is_f 85 ?_; refine zag rfl zaa (zeG rfl rfl rfl hx3) ?_); try dsimp only [AV.unfr, AV.unfrs, frsL, zaO, rdOf, @List.length_cons Blk, @List.length_nil Blk, @List.nil_append (Nat × Option Blk), @List.cons_append (Nat × Option Blk), @List.nil_append Blk, @List.cons_append Blk, Nat.add_zero, Nat.zero_add, Nat.reduceAdd]) | (refine zab (fun hb => ?_) (fun hb => ?_) <;> (try (exfalso; omega))) | fail))
   all_goals (first | (exfalso; omega) | exact ⟨(1 + 1, (if x < y + c then 1 else 0), [l0, l1, l2, l3].set 1 ((x + B64 - y - c) % B64)), ⟨by show 1 + 1 ≤ 4; omega, rfl, hc1, hx4⟩, by show Le _ _ (sbS a b (1 + 1) ((if x < y + c then 1 else 0)) ([l0, l1, l2, l3].set 1 ((x + B64 - y - c) % B64))); (refine Le.mk [] [] zai zal zak zah), by show 4 - (1 + 1) < 4 - 1; omega⟩)
  ·have hnum := zgR a b (2 + 1) ((if x < y + c then 1 else 0)) ([l0, l1, l2, l3].set 2 ((x + B64 - y - c) % B64))
   (repeat' (first | refine zae ?_ | ((refine is_f 85 ?_; refine zag rfl zaa (zeG rfl rfl rfl hx3) ?_); try dsimp only [AV.unfr, AV.unfrs, frsL, zaO, rdOf, @List.length_cons Blk, @List.length_nil Blk, @List.nil_append (Nat × Option Blk), @List.cons_append (Nat × Option Blk), @List.nil_append Blk, @List.cons_append Blk, Nat.add_zero, Nat.zero_add, Nat.reduceAdd]) | (refine zab (fun hb => ?_) (fun hb => ?_) <;> (try (exfalso; omega))) | fail))
   all_goals (first | (exfalso; omega) | exact ⟨(2 + 1, (if x < y + c then 1 else 0), [l0, l1, l2, l3].set 2 ((x + B64 - y - c) % B64)), ⟨by show 2 + 1 ≤ 4; omega, rfl, hc1, hx4⟩, by show Le _ _ (sbS a b (2 + 1) ((if x < y + c then 1 else 0)) ([l0, l1, l2, l3].set 2 ((x + B64 - y - c) % B64))); (refine Le.mk [] [] zai zal zak zah), by show 4 - (2 + 1) < 4 - 2; omega⟩)
  ·have hnum := zgR a b (3 + 1) ((if x < y + c then 1 else 0)) ([l0, l1, l2, l3].set 3 ((x + B64 - y - c) % B64))
   (repeat' (first | refine zae ?_ | ((refine is_f 85 ?_; refine zag rfl zaa (zeG rfl rfl rfl hx3) ?_); try dsimp only [AV.unfr, AV.unfrs, frsL, zaO, rdOf, @List.length_cons Blk, @List.length_nil Blk, @List.nil_append (Nat × Option Blk), @List.cons_append (Nat × Option Blk), @List.nil_append Blk, @List.cons_append Blk, Nat.add_zero, Nat.zero_add, Nat.reduceAdd]) | (refine zab (fun hb => ?_) (fun hb => ?_) <;> (try (exfalso; omega))) | fail))
   all_goals (first | (exfalso; omega) | exact ⟨(3 + 1, (if x < y + c then 1 else 0), [l0, l1, l2, l3].set 3 ((x + B64 - y - c) % B64)), ⟨by show 3 + 1 ≤ 4; omega, rfl, hc1, hx4⟩, by show Le _ _ (sbS a b (3 + 1) ((if x < y + c then 1 else 0)) ([l0, l1, l2, l3].set 3 ((x + B64 - y - c) % B64))); (refine Le.mk [] [] zai zal zak zah), by show 4 - (3 + 1) < 4 - 3; omega⟩)
 ·have hie : 4 - i = 0 := by omega
  rw [hie, sbG] at hx4
  injection hx4 with h1 h2
  subst h1 h2
  (repeat' (first | refine zae ?_ | (refine zab (fun hb => ?_) (fun hb => ?_) <;> (try (exfalso; omega))) | fail))
  all_goals (first | (exfalso; omega) | exact zcL [] (Rt.w4 (m - n)) rfl rfl rfl rfl (zan rfl) rfl)
def raG (b : List Nat) : Nat → Nat → Nat → List Nat → Nat × List Nat
 | 0, _, c, l => (c, l)
 | j + 1, i, c, l => raG b j (i + 1) ((l.getD i 0 + b.getD i 0 + c) / B64) (l.set i ((l.getD i 0 + b.getD i 0 + c) % B64))
theorem zhM (b : List Nat) (i : Nat) : val (b.drop i) = b.getD i 0 + B64 * val (b.drop (i + 1)) := by
 rcases Nat.lt_or_ge i b.length with h | h
 ·exact zdJ b i h
 ·rw [List.drop_eq_nil_of_le h, List.drop_eq_nil_of_le (by omega)]
  simp [val, h]
theorem zih (b : List Nat) (hb : Wds b) : ∀ (j i c : Nat) (l : List Nat), j + i = l.length → b.length ≤ l.length → Wds l → c ≤ 1 →
  Wds (raG b j i c l).2 ∧ (raG b j i c l).2.length = l.length ∧ (raG b j i c l).1 ≤ 1 ∧ val (raG b j i c l).2 + B64 ^ l.length * (raG b j i c l).1 = val l + B64 ^ i * c + B64 ^ i * val (b.drop i)
 | 0, i, c, l, hj, hbl, hw, hc => by
  have : i = l.length := by omega
  subst this
  rw [List.drop_eq_nil_of_le hbl]
  exact ⟨hw, rfl, hc, by simp [raG, val]⟩
 | j + 1, i, c, l, hj, hbl, hw, hc => by
  have h1 := hw.get i
  have h2 := hb.get i
  have hvs := zdp l i ((l.getD i 0 + b.getD i 0 + c) % B64) (by omega)
  rw [raG]
  obtain ⟨g1, g2, g3, g4⟩ := zih b hb j (i + 1) ((l.getD i 0 + b.getD i 0 + c) / B64) (l.set i ((l.getD i 0 + b.getD i 0 + c) % B64)) (by rw [List.length_set]; omega) (by rw [List.length_set]; exact hbl) (hw.set i (by unfold B64; omega)) (by unfold B64 at *; omega)
  rw [List.length_set] at g2 g4
  refine ⟨g1, g2, g3, ?_⟩
  rw [g4, zhM b i, Nat.pow_succ]
  have hm := Nat.mod_add_div (l.getD i 0 + b.getD i 0 + c) B64
  generalize (l.getD i 0 + b.getD i 0 + c) % B64 = r at *
  generalize (l.getD i 0 + b.getD i 0 + c) / B64 = q at *
  generalize l.getD i 0 = x at *
  generalize b.getD i 0 = y at *
  generalize B64 ^ i = M at *
  generalize val (b.drop (i + 1)) = V at *
  have e3 : M * (r + B64 * q) = M * (x + y + c) := by rw [hm]
  rw [Nat.mul_add, ← Nat.mul_assoc, Nat.mul_add, Nat.mul_add] at e3
  rw [Nat.mul_add, ← Nat.mul_assoc]
  omega
def rsG (b : List Nat) : Nat → Nat → Nat → List Nat → Nat × List Nat
 | 0, _, c, l => (c, l)
 | j + 1, i, c, l => rsG b j (i + 1) (if l.getD i 0 < b.getD i 0 + c then 1 else 0) (l.set i ((l.getD i 0 + B64 - b.getD i 0 - c) % B64))
theorem zkD (b : List Nat) (hb : Wds b) : ∀ (j i c : Nat) (l : List Nat), j + i = l.length → b.length ≤ l.length → Wds l → c ≤ 1 →
  Wds (rsG b j i c l).2 ∧ (rsG b j i c l).2.length = l.length ∧ (rsG b j i c l).1 ≤ 1 ∧ val (rsG b j i c l).2 + B64 ^ i * c + B64 ^ i * val (b.drop i) = val l + B64 ^ l.length * (rsG b j i c l).1
 | 0, i, c, l, hj, hbl, hw, hc => by
  have : i = l.length := by omega
  subst this
  rw [List.drop_eq_nil_of_le hbl]
  exact ⟨hw, rfl, hc, by simp [rsG, val]⟩
 | j + 1, i, c, l, hj, hbl, hw, hc => by
  have h1 := hw.get i
  have h2 := hb.get i
  have hvs := zdp l i ((l.getD i 0 + B64 - b.getD i 0 - c) % B64) (by omega)
  rw [rsG]
  obtain ⟨g1, g2, g3, g4⟩ := zkD b hb j (i + 1) (if l.getD i 0 < b.getD i 0 + c then 1 else 0) (l.set i ((l.getD i 0 + B64 - b.getD i 0 - c) % B64)) (by rw [List.length_set]; omega) (by rw [List.length_set]; exact hbl) (hw.set i (by unfold B64; omega)) (by split <;> omega)
  rw [List.length_set] at g2 g4
  refine ⟨g1, g2, g3, ?_⟩
  rw [zhM b i]
  rw [Nat.pow_succ] at g4
  have hm : (l.getD i 0 + B64 - b.getD i 0 - c) % B64 + b.getD i 0 + c = l.getD i 0 + B64 * (if l.getD i 0 < b.getD i 0 + c then 1 else 0) := by
   split <;> (unfold B64 at *; omega)
  generalize (l.getD i 0 + B64 - b.getD i 0 - c) % B64 = r at *
  generalize (if l.getD i 0 < b.getD i 0 + c then 1 else 0) = q at *
  generalize l.getD i 0 = x at *
  generalize b.getD i 0 = y at *
  generalize B64 ^ i = M at *
  generalize val (b.drop (i + 1)) = V at *
  have e3 : M * (r + y + c) = M * (x + B64 * q) := by rw [hm]
  rw [Nat.mul_add, Nat.mul_add, Nat.mul_add, ← Nat.mul_assoc] at e3
  rw [Nat.mul_add, ← Nat.mul_assoc]
  omega
def raSB (b l : List Nat) (i c : Nat) : St := ⟨[(1, .r (.sl 1 (wns b))), (5, .ow 0), (6, .r (.v (.int .u64 (c : Int)))), (7, .r (.v (.int .i64 (i : Int))))], [(0, some (.row 23 1 (wns l)))], 1⟩
theorem zky (a b : List Nat) (hwa : Wds a) (hwb : Wds b) (hla : a.length ≤ 1000) (hlb : b.length ≤ a.length) (hle : val b ≤ val a) : zaq Tryz.prog 61 [.r (.sl 1 (wns a)), .r (.sl 1 (wns b))] [] (.fr 23 1 (wns (tw (val a - val b)))) [] := by
 obtain ⟨g1, g2, g3, g4⟩ := zkD b hwb a.length 0 0 a (by omega) hlb hwa (by omega)
 have hR : ∃ R, rsG b a.length 0 0 a = (0, R) ∧ Wds R ∧ R.length = a.length ∧ trim R = tw (val a - val b) := by
  generalize rsG b a.length 0 0 a = Y at *
  obtain ⟨c, R⟩ := Y
  dsimp only at *
  have hv := zgv R g1
  rw [g2] at hv
  simp only [Nat.pow_zero, Nat.mul_zero, Nat.one_mul, List.drop_zero, Nat.add_zero] at g4
  have hc : c = 0 := by
   rcases Nat.eq_zero_or_pos c with h | h
   ·exact h
   ·have : B64 ^ a.length * 1 ≤ B64 ^ a.length * c := Nat.mul_le_mul (Nat.le_refl _) h
    omega
  subst hc
  exact ⟨R, rfl, g1, g2, by rw [zdb R g1, show val R = val a - val b by omega]⟩
 obtain ⟨R, hR1, hR2, hR3, hTR⟩ := hR
 rw [← hTR]
 clear g1 g2 g3 g4 hTR hle
 have l1 := zaY a
 have l2 := zaY b
 have cT := zfT R (by omega)
 refine zaw Tryz.func61 rfl (Nat.le_of_ble_eq_true rfl) rfl rfl ?_
 have hap : ([] ++ wns a) = wns a := rfl
 (repeat' (first | refine zae ?_ | (refine zab (fun hb => ?_) (fun hb => ?_) <;> (try (exfalso; omega))) | fail))
 refine zap (fun x : Nat × Nat × List Nat => raSB b x.2.2 x.1 x.2.1) (fun x => x.1 ≤ a.length ∧ x.2.2.length = a.length ∧ Wds x.2.2 ∧ x.2.1 ≤ 1 ∧ rsG b (a.length - x.1) x.1 x.2.1 x.2.2 = (0, R)) (fun x => a.length - x.1) (0, 0, a) ⟨Nat.zero_le _, rfl, hwa, by show 0 ≤ 1; omega, hR1⟩ (by (refine Le.mk [(0,1)] [] zai zal zak zah)) fun x hx => ?_
 obtain ⟨i, c, l⟩ := x
 obtain ⟨hx1, hx2, hx3, hx4, hx5⟩ := hx
 dsimp only at hx1 hx2 hx3 hx4 hx5
 change awp _ _ _ _ _ (raSB b l i c)
 have l3 := zaY l
 rcases Nat.lt_or_ge i a.length with hi | hi
 ·obtain ⟨j, hj⟩ : ∃ j, a.length - i = j + 1 := ⟨a.length - i - 1, by omega⟩
  have hj2 : j = a.length - (i + 1) := by omega
  rw [hj, rsG] at hx5
  subst hj2
  have gl := zbj (l := l) (i := i) (by omega)
  have hinc : IntKind.i64.wrap ((i : Int) + 1) = ((i + 1 : Nat) : Int) := zbg i (by omega)
  have hxl := hx3.get i
  have hyl := hwb.get i
  by_cases hib : i < b.length
  ·have gb := zbj (l := b) (i := i) hib
   generalize l.getD i 0 = x at *
   generalize b.getD i 0 = y at *
   have hE : (wns l).set i [.v (.int .u64 ((((x + B64 - y - c) % B64) : Nat) : Int))] = wns (l.set i ((x + B64 - y - c) % B64)) := zdd l i _
   have hw : ((x + B64 - y - c) % B64) < B64 := Nat.mod_lt _ (by decide)
   have hc1 : (if x < y + c then 1 else 0) ≤ 1 := by split <;> omega
   (repeat' (first | refine zae ?_ | ((refine is_f 85 ?_; refine zag rfl zaa (zeG rfl rfl rfl hx4) ?_); try dsimp only [AV.unfr, AV.unfrs, frsL, zaO, rdOf, @List.length_cons Blk, @List.length_nil Blk, @List.nil_append (Nat × Option Blk), @List.cons_append (Nat × Option Blk), @List.nil_append Blk, @List.cons_append Blk, Nat.add_zero, Nat.zero_add, Nat.reduceAdd]) | (refine zab (fun hb => ?_) (fun hb => ?_) <;> (try (exfalso; omega))) | fail))
   all_goals (first | (exfalso; omega) | exact ⟨(i + 1, (if x < y + c then 1 else 0), l.set i ((x + B64 - y - c) % B64)), ⟨hi, by rw [List.length_set]; exact hx2, hx3.set i hw, hc1, hx5⟩, by show Le _ _ (raSB b (l.set i ((x + B64 - y - c) % B64)) (i + 1) (if x < y + c then 1 else 0)); (refine Le.mk [(0,0)] [] zai zal zak zah), by show a.length - (i + 1) < a.length - i; omega⟩)
  ·have hy0 : b.getD i 0 = 0 := by simp [hib]
   rw [hy0] at hx5
   clear hyl
   generalize l.getD i 0 = x at *
   obtain ⟨y, hy⟩ : ∃ y, y = 0 := ⟨0, rfl⟩
   have hE : (wns l).set i [.v (.int .u64 ((((x + B64 - 0 - c) % B64) : Nat) : Int))] = wns (l.set i ((x + B64 - 0 - c) % B64)) := zdd l i _
   have hw : ((x + B64 - 0 - c) % B64) < B64 := Nat.mod_lt _ (by decide)
   have hc1 : (if x < 0 + c then 1 else 0) ≤ 1 := by split <;> omega
   (repeat' (first | refine zae ?_ | ((refine is_f 85 ?_; refine zag rfl zaa (zeG (b := 0) rfl rfl rfl hx4) ?_); try dsimp only [AV.unfr, AV.unfrs, frsL, zaO, rdOf, @List.length_cons Blk, @List.length_nil Blk, @List.nil_append (Nat × Option Blk), @List.cons_append (Nat × Option Blk), @List.nil_append Blk, @List.cons_append Blk, Nat.add_zero, Nat.zero_add, Nat.reduceAdd]) | (refine zab (fun hb => ?_) (fun hb => ?_) <;> (try (exfalso; omega))) | fail))
   all_goals (first | (exfalso; omega) | exact ⟨(i + 1, (if x < 0 + c then 1 else 0), l.set i ((x + B64 - 0 - c) % B64)), ⟨hi, by rw [List.length_set]; exact hx2, hx3.set i hw, hc1, hx5⟩, by show Le _ _ (raSB b (l.set i ((x + B64 - 0 - c) % B64)) (i + 1) (if x < 0 + c then 1 else 0)); (refine Le.mk [(0,0)] [] zai zal zak zah), by show a.length - (i + 1) < a.length - i; omega⟩)
 ·have hie : a.length - i = 0 := by omega
  rw [hie, rsG] at hx5
  injection hx5 with e1 e2
  subst e1 e2
  (repeat' (first | refine zae ?_ | (refine is_f 50 ?_; refine zbh (cT) ?_) | (refine zab (fun hb => ?_) (fun hb => ?_) <;> (try (exfalso; omega))) | fail))
  all_goals (first | (exfalso; omega) | exact ret1 [] (.fr 1 _ _ _ rfl) rfl rfl rfl | exact ret1 [] (.fr 0 _ _ _ rfl) rfl rfl rfl | exact ret1 [] (.fr 2 _ _ _ rfl) rfl rfl rfl)
theorem zem (a b : List Nat) (hwa : Wds a) (hwb : Wds b) (hla : a.length ≤ 1000) (hlb : b.length ≤ a.length) (hle : val b ≤ val a) : zaq Tryz.prog 61 [.r (.sl 1 (wns a)), .r (.sl 1 (wns b))] [] (.r (.sl 1 (wns (tw (val a - val b))))) [] :=
 zaq.freeze (T := 23) (zky a b hwa hwb hla hlb hle)
theorem zjv (a b : List Nat) (hwa : Wds a) (hwb : Wds b) (hla : a.length ≤ 1000) (hlb0 : b.length ≤ a.length) : zaq Tryz.prog 60 [.r (.sl 1 (wns a)), .r (.sl 1 (wns b))] [] (.r (.sl 1 (wns (tw (val a + val b))))) [] := by
 have hlb : b.length ≤ a.length := by omega
 obtain ⟨g1, g2, g3, g4⟩ := zih b hwb a.length 0 0 a (by omega) hlb hwa (by omega)
 have hR : ∃ cc R, raG b a.length 0 0 a = (cc, R) ∧ R.length = a.length ∧ trim (R ++ [cc]) = tw (val a + val b) := by
  generalize raG b a.length 0 0 a = Y at *
  obtain ⟨c, R⟩ := Y
  dsimp only at *
  simp only [Nat.pow_zero, Nat.mul_zero, Nat.one_mul, List.drop_zero, Nat.add_zero] at g4
  have hw : Wds (R ++ [c]) := by
   intro x hx
   rcases List.mem_append.1 hx with h | h
   ·exact g1 x h
   ·simp at h; subst h; unfold B64; omega
  refine ⟨c, R, rfl, g2, ?_⟩
  rw [zdb _ hw, zcg, g2]
  simp only [val, Nat.mul_zero, Nat.add_zero]
  rw [g4]
 obtain ⟨cc, R, hR1, hR3, hTR⟩ := hR
 rw [← hTR]
 clear g1 g2 g3 g4 hTR
 have l1 := zaY a
 have l2 := zaY b
 have l4 := zaY R
 have cT := zfT (R ++ [cc]) (by rw [List.length_append]; simp; omega)
 have hap2 : wns R ++ [[.v (.int .u64 (cc : Int))]] = wns (R ++ [cc]) := by rw [zgy]; rfl
 rw [← hap2] at cT
 refine zaq.freeze (T := 23) ?_
 refine zaw Tryz.func60 rfl (Nat.le_of_ble_eq_true rfl) rfl rfl ?_
 have hap : ([] ++ wns a) = wns a := rfl
 (repeat' (first | refine zae ?_ | (refine zab (fun hb => ?_) (fun hb => ?_) <;> (try (exfalso; omega))) | fail))
 refine zap (fun x : Nat × Nat × List Nat => raSB b x.2.2 x.1 x.2.1) (fun x => x.1 ≤ a.length ∧ x.2.2.length = a.length ∧ Wds x.2.2 ∧ x.2.1 ≤ 1 ∧ raG b (a.length - x.1) x.1 x.2.1 x.2.2 = (cc, R)) (fun x => a.length - x.1) (0, 0, a) ⟨Nat.zero_le _, rfl, hwa, by show 0 ≤ 1; omega, hR1⟩ (by (refine Le.mk [(0,1)] [] zai zal zak zah)) fun x hx => ?_
 obtain ⟨i, c, l⟩ := x
 obtain ⟨hx1, hx2, hx3, hx4, hx5⟩ := hx
 dsimp only at hx1 hx2 hx3 hx4 hx5
 change awp _ _ _ _ _ (raSB b l i c)
 have l3 := zaY l
 rcases Nat.lt_or_ge i a.length with hi | hi
 ·obtain ⟨j, hj⟩ : ∃ j, a.length - i = j + 1 := ⟨a.length - i - 1, by omega⟩
  have hj2 : j = a.length - (i + 1) := by omega
  rw [hj, raG] at hx5
  subst hj2
  have gl := zbj (l := l) (i := i) (by omega)
  have hinc : IntKind.i64.wrap ((i : Int) + 1) = ((i + 1 : Nat) : Int) := zbg i (by omega)
  have hxl := hx3.get i
  have hyl := hwb.get i
  by_cases hib : i < b.length
  ·have gb := zbj (l := b) (i := i) hib
   generalize l.getD i 0 = x at *
   generalize b.getD i 0 = y at *
   have hE : (wns l).set i [.v (.int .u64 ((((x + y + c) % B64) : Nat) : Int))] = wns (l.set i ((x + y + c) % B64)) := zdd l i _
   have hw : ((x + y + c) % B64) < B64 := Nat.mod_lt _ (by decide)
   have hc1 : ((x + y + c) / B64) ≤ 1 := by unfold B64 at *; omega
   (repeat' (first | refine zae ?_ | ((refine is_f 83 ?_; refine zag rfl zaa (zc5 rfl rfl rfl hx4) ?_); try dsimp only [AV.unfr, AV.unfrs, frsL, zaO, rdOf, @List.length_cons Blk, @List.length_nil Blk, @List.nil_append (Nat × Option Blk), @List.cons_append (Nat × Option Blk), @List.nil_append Blk, @List.cons_append Blk, Nat.add_zero, Nat.zero_add, Nat.reduceAdd]) | (refine zab (fun hb => ?_) (fun hb => ?_) <;> (try (exfalso; omega))) | fail))
   all_goals (first | (exfalso; omega) | exact ⟨(i + 1, ((x + y + c) / B64), l.set i ((x + y + c) % B64)), ⟨hi, by rw [List.length_set]; exact hx2, hx3.set i hw, hc1, hx5⟩, by show Le _ _ (raSB b (l.set i ((x + y + c) % B64)) (i + 1) ((x + y + c) / B64)); (refine Le.mk [(0,0)] [] zai zal zak zah), by show a.length - (i + 1) < a.length - i; omega⟩)
  ·have hy0 : b.getD i 0 = 0 := by simp [hib]
   rw [hy0, Nat.add_zero] at hx5
   clear hyl
   generalize l.getD i 0 = x at *
   obtain ⟨y, hy⟩ : ∃ y, y = 0 := ⟨0, rfl⟩
   have hE : (wns l).set i [.v (.int .u64 ((((x + c) % B64) : Nat) : Int))] = wns (l.set i ((x + c) % B64)) := zdd l i _
   have hw : ((x + c) % B64) < B64 := Nat.mod_lt _ (by decide)
   have hc1 : ((x + c) / B64) ≤ 1 := by unfold B64 at *; omega
   (repeat' (first | refine zae ?_ | ((refine is_f 83 ?_; refine zag rfl zaa (zc5 (b := 0) rfl rfl rfl hx4) ?_); try dsimp only [AV.unfr, AV.unfrs, frsL, zaO, rdOf, @List.length_cons Blk, @List.length_nil Blk, @List.nil_append (Nat × Option Blk), @List.cons_append (Nat × Option Blk), @List.nil_append Blk, @List.cons_append Blk, Nat.add_zero, Nat.zero_add, Nat.reduceAdd]) | (refine zab (fun hb => ?_) (fun hb => ?_) <;> (try (exfalso; omega))) | fail))
   all_goals (first | (exfalso; omega) | exact ⟨(i + 1, ((x + c) / B64), l.set i ((x + c) % B64)), ⟨hi, by rw [List.length_set]; exact hx2, hx3.set i hw, hc1, hx5⟩, by show Le _ _ (raSB b (l.set i ((x + c) % B64)) (i + 1) ((x + c) / B64)); (refine Le.mk [(0,0)] [] zai zal zak zah), by show a.length - (i + 1) < a.length - i; omega⟩)
 ·have hie : a.length - i = 0 := by omega
  rw [hie, raG] at hx5
  injection hx5 with e1 e2
  subst e1 e2
  (repeat' (first | refine zae ?_ | (refine is_f 50 ?_; refine ze7 (cT) ?_) | (refine zab (fun hb => ?_) (fun hb => ?_) <;> (try (exfalso; omega))) | fail))
  all_goals (first | (exfalso; omega) | exact ret1 [] (.fr 1 _ _ _ rfl) rfl rfl rfl | exact ret1 [] (.fr 0 _ _ _ rfl) rfl rfl rfl | exact ret1 [] (.fr 2 _ _ _ rfl) rfl rfl rfl | exact ret1 [] (.fr 3 _ _ _ rfl) rfl rfl rfl)
theorem zjw (a b : List Nat) (hwa : Wds a) (hwb : Wds b) (hla : a.length ≤ 1000) (hlb0 : b.length < a.length) : zaq Tryz.prog 60 [.r (.sl 1 (wns b)), .r (.sl 1 (wns a))] [] (.r (.sl 1 (wns (tw (val a + val b))))) [] := by
 have hlb : b.length ≤ a.length := by omega
 obtain ⟨g1, g2, g3, g4⟩ := zih b hwb a.length 0 0 a (by omega) hlb hwa (by omega)
 have hR : ∃ cc R, raG b a.length 0 0 a = (cc, R) ∧ R.length = a.length ∧ trim (R ++ [cc]) = tw (val a + val b) := by
  generalize raG b a.length 0 0 a = Y at *
  obtain ⟨c, R⟩ := Y
  dsimp only at *
  simp only [Nat.pow_zero, Nat.mul_zero, Nat.one_mul, List.drop_zero, Nat.add_zero] at g4
  have hw : Wds (R ++ [c]) := by
   intro x hx
   rcases List.mem_append.1 hx with h | h
   ·exact g1 x h
   ·simp at h; subst h; unfold B64; omega
  refine ⟨c, R, rfl, g2, ?_⟩
  rw [zdb _ hw, zcg, g2]
  simp only [val, Nat.mul_zero, Nat.add_zero]
  rw [g4]
 obtain ⟨cc, R, hR1, hR3, hTR⟩ := hR
 rw [← hTR]
 clear g1 g2 g3 g4 hTR
 have l1 := zaY a
 have l2 := zaY b
 have l4 := zaY R
 have cT := zfT (R ++ [cc]) (by rw [List.length_append]; simp; omega)
 have hap2 : wns R ++ [[.v (.int .u64 (cc : Int))]] = wns (R ++ [cc]) := by rw [zgy]; rfl
 rw [← hap2] at cT
 refine zaq.freeze (T := 23) ?_
 refine zaw Tryz.func60 rfl (Nat.le_of_ble_eq_true rfl) rfl rfl ?_
 have hap : ([] ++ wns a) = wns a := rfl
 (repeat' (first | refine zae ?_ | (refine zab (fun hb => ?_) (fun hb => ?_) <;> (try (exfalso; omega))) | fail))
 refine zap (fun x : Nat × Nat × List Nat => raSB b x.2.2 x.1 x.2.1) (fun x => x.1 ≤ a.length ∧ x.2.2.length = a.length ∧ Wds x.2.2 ∧ x.2.1 ≤ 1 ∧ raG b (a.length - x.1) x.1 x.2.1 x.2.2 = (cc, R)) (fun x => a.length - x.1) (0, 0, a) ⟨Nat.zero_le _, rfl, hwa, by show 0 ≤ 1; omega, hR1⟩ (by (refine Le.mk [(0,1)] [] zai zal zak zah)) fun x hx => ?_
 obtain ⟨i, c, l⟩ := x
 obtain ⟨hx1, hx2, hx3, hx4, hx5⟩ := hx
 dsimp only at hx1 hx2 hx3 hx4 hx5
 change awp _ _ _ _ _ (raSB b l i c)
 have l3 := zaY l
 rcases Nat.lt_or_ge i a.length with hi | hi
 ·obtain ⟨j, hj⟩ : ∃ j, a.length - i = j + 1 := ⟨a.length - i - 1, by omega⟩
  have hj2 : j = a.length - (i + 1) := by omega
  rw [hj, raG] at hx5
  subst hj2
  have gl := zbj (l := l) (i := i) (by omega)
  have hinc : IntKind.i64.wrap ((i : Int) + 1) = ((i + 1 : Nat) : Int) := zbg i (by omega)
  have hxl := hx3.get i
  have hyl := hwb.get i
  by_cases hib : i < b.length
  ·have gb := zbj (l := b) (i := i) hib
   generalize l.getD i 0 = x at *
   generalize b.getD i 0 = y at *
   have hE : (wns l).set i [.v (.int .u64 ((((x + y + c) % B64) : Nat) : Int))] = wns (l.set i ((x + y + c) % B64)) := zdd l i _
   have hw : ((x + y + c) % B64) < B64 := Nat.mod_lt _ (by decide)
   have hc1 : ((x + y + c) / B64) ≤ 1 := by unfold B64 at *; omega
   (repeat' (first | refine zae ?_ | ((refine is_f 83 ?_; refine zag rfl zaa (zc5 rfl rfl rfl hx4) ?_); try dsimp only [AV.unfr, AV.unfrs, frsL, zaO, rdOf, @List.length_cons Blk, @List.length_nil Blk, @List.nil_append (Nat × Option Blk), @List.cons_append (Nat × Option Blk), @List.nil_append Blk, @List.cons_append Blk, Nat.add_zero, Nat.zero_add, Nat.reduceAdd]) | (refine zab (fun hb => ?_) (fun hb => ?_) <;> (try (exfalso; omega))) | fail))
   all_goals (first | (exfalso; omega) | exact ⟨(i + 1, ((x + y + c) / B64), l.set i ((x + y + c) % B64)), ⟨hi, by rw [List.length_set]; exact hx2, hx3.set i hw, hc1, hx5⟩, by show Le _ _ (raSB b (l.set i ((x + y + c) % B64)) (i + 1) ((x + y + c) / B64)); (refine Le.mk [(0,0)] [] zai zal zak zah), by show a.length - (i + 1) < a.length - i; omega⟩)
  ·have hy0 : b.getD i 0 = 0 := by simp [hib]
   rw [hy0, Nat.add_zero] at hx5
   clear hyl
   generalize l.getD i 0 = x at *
   obtain ⟨y, hy⟩ : ∃ y, y = 0 := ⟨0, rfl⟩
   have hE : (wns l).set i [.v (.int .u64 ((((x + c) % B64) : Nat) : Int))] = wns (l.set i ((x + c) % B64)) := zdd l i _
   have hw : ((x + c) % B64) < B64 := Nat.mod_lt _ (by decide)
   have hc1 : ((x + c) / B64) ≤ 1 := by unfold B64 at *; omega
   (repeat' (first | refine zae ?_ | ((refine is_f 83 ?_; refine zag rfl zaa (zc5 (b := 0) rfl rfl rfl hx4) ?_); try dsimp only [AV.unfr, AV.unfrs, frsL, zaO, rdOf, @List.length_cons Blk, @List.length_nil Blk, @List.nil_append (Nat × Option Blk), @List.cons_append (Nat × Option Blk), @List.nil_append Blk, @List.cons_append Blk, Nat.add_zero, Nat.zero_add, Nat.reduceAdd]) | (refine zab (fun hb => ?_) (fun hb => ?_) <;> (try (exfalso; omega))) | fail))
   all_goals (first | (exfalso; omega) | exact ⟨(i + 1, ((x + c) / B64), l.set i ((x + c) % B64)), ⟨hi, by rw [List.length_set]; exact hx2, hx3.set i hw, hc1, hx5⟩, by show Le _ _ (raSB b (l.set i ((x + c) % B64)) (i + 1) ((x + c) / B64)); (refine Le.mk [(0,0)] [] zai zal zak zah), by show a.length - (i + 1) < a.length - i; omega⟩)
 ·have hie : a.length - i = 0 := by omega
  rw [hie, raG] at hx5
  injection hx5 with e1 e2
  subst e1 e2
  (repeat' (first | refine zae ?_ | (refine is_f 50 ?_; refine ze7 (cT) ?_) | (refine zab (fun hb => ?_) (fun hb => ?_) <;> (try (exfalso; omega))) | fail))
  all_goals (first | (exfalso; omega) | exact ret1 [] (.fr 1 _ _ _ rfl) rfl rfl rfl | exact ret1 [] (.fr 0 _ _ _ rfl) rfl rfl rfl | exact ret1 [] (.fr 2 _ _ _ rfl) rfl rfl rfl | exact ret1 [] (.fr 3 _ _ _ rfl) rfl rfl rfl)
theorem zhG (a b : List Nat) (hwa : Wds a) (hwb : Wds b) (hla : a.length ≤ 1000) (hlb : b.length ≤ 1000) : zaq Tryz.prog 60 [.r (.sl 1 (wns a)), .r (.sl 1 (wns b))] [] (.r (.sl 1 (wns (tw (val a + val b))))) [] := by
 rcases Nat.lt_or_ge a.length b.length with h | h
 ·rw [Nat.add_comm]; exact zjw b a hwb hwa hlb h
 ·exact zjv a b hwa hwb hla h
end Go.Proofs.YtpnbgalbdohfgaaGreatDoor
