/- Texts of the second layer in one: Tq10 Tx15 Rw Sw Tx16. -/
import Derived.Test.YtpnbgalbdohfgaaGreatDoorG13
import Derived.Test.YtpnbgalbdohfgaaGreatDoorG14
import Derived.Test.YtpnbgalbdohfgaaGreatDoorG19
import Derived.Test.YtpnbgalbdohfgaaGreatDoorG23
import Derived.Test.YtpnbgalbdohfgaaGreatDoorG22
import Derived.Test.YtpnbgalbdohfgaaGreatDoorG18
import Derived.Deep.Slices
import Derived.ChangeSame
import Derived.OpenShut
import Derived.Test.YtpnbgalbdohfgaaGreatDoorRows
import Derived.Lib.LaidTab
set_option maxHeartbeats 8000000
set_option maxRecDepth 100000
set_option linter.unusedVariables false
set_option linter.unusedSimpArgs false
namespace Go.Proofs.YtpnbgalbdohfgaaGreatDoor
open Go.RowKit Go.Ab
theorem zgr (t : List Int) (kind step : Int) (hs : 1 ≤ step ∧ step ≤ 50) : ∀ (i k : Nat) (a : Int) (acc : List Int), acc.Pairwise (· < ·) → (∀ x ∈ acc, x < a ∧ I64 x) → I64 a → (tms t kind step i k a acc).1.Pairwise (· < ·) ∧ ∀ x ∈ (tms t kind step i k a acc).1, I64 x
 | 0, k, a, acc, h1, h2, h3 => by rw [tms]; exact ⟨h1, fun x hx => (h2 x hx).2⟩
 | i + 1, k, a, acc, h1, h2, h3 => by
  have hd := zcv t kind step k hs
  have hp : (acc ++ [a]).Pairwise (· < ·) := List.pairwise_append.2 ⟨h1, by simp, fun x hx y hy => by simp at hy; subst hy; exact (h2 x hx).1⟩
  have hr : ∀ x ∈ acc ++ [a], I64 x := fun x hx => by
   rcases List.mem_append.1 hx with h | h
   ·exact (h2 x h).2
   ·simp at h; subst h; exact h3
  rw [tms]
  split
  ·exact ⟨hp, hr⟩
  ·rename_i hov
   have h4 : I64 (a + (tmD t kind step k).1) := by unfold I64 at *; omega
   refine zgr t kind step hs i _ _ _ hp (fun x hx => ⟨?_, hr x hx⟩) h4
   rcases List.mem_append.1 hx with h | h
   ·have := (h2 x h).1; omega
   ·simp at h; omega
theorem zjz (t : List Int) (k n : Nat) : (tmL t k n).1.Pairwise (· < ·) ∧ ∀ x ∈ (tmL t k n).1, I64 x := by
 have h50 := zaB t (itv t (adv t k)).2 (show (1 : Int) ≤ 50 by omega)
 exact zgr t _ _ (by omega) _ _ _ [] (by simp) (by simp) (zbX t (adv t k))
theorem zi4 (x : Int) : I64 (IntKind.i64.wrap x) := by unfold I64; rw [i64w]; omega
theorem zkK (t : List Int) (kind slope : Int) (i : Nat) (v : Int) (k : Nat) (h : I64 v) : I64 (smX t kind slope i v k).1 ∧ I64 (smX t kind slope i v k).2.1 := by
 unfold smX
 (repeat' split) <;> exact ⟨by first | exact zi4 _ | exact zbX _ _ | exact h, by first | exact h | exact zi4 _⟩
theorem zkM (t : List Int) (kind slope : Int) (ts : List Int) : ∀ (j i : Nat) (v : Int) (k : Nat) (acc : List (Int × Int)), i + j = ts.length → (sms t kind slope ts j i v k acc).1.map Prod.fst = acc.map Prod.fst ++ ts.drop i
 | 0, i, v, k, acc, h => by rw [sms, List.drop_eq_nil_of_le (by omega), List.append_nil]
 | j + 1, i, v, k, acc, h => by
  rw [sms, zkM t kind slope ts j (i + 1) _ _ _ (by omega), List.map_append, List.append_assoc]
  congr 1
  rw [List.drop_eq_getElem_cons (show i < ts.length by omega)]
  simp [show i < ts.length by omega]
theorem zkN (t : List Int) (kind slope : Int) (ts : List Int) : ∀ (j i : Nat) (v : Int) (k : Nat) (acc : List (Int × Int)), I64 v → (∀ s ∈ acc, I64 s.2) → ∀ s ∈ (sms t kind slope ts j i v k acc).1, I64 s.2
 | 0, i, v, k, acc, h, h2 => by rw [sms]; exact h2
 | j + 1, i, v, k, acc, h, h2 => by
  rw [sms]
  have hx := zkK t kind slope i v k h
  refine zkN t kind slope ts j (i + 1) _ _ _ hx.2 fun s hs => ?_
  rcases List.mem_append.1 hs with h3 | h3
  ·exact h2 s h3
  ·simp at h3; subst h3; exact hx.1
theorem ziT (t : List Int) (k n : Nat) : (smpL t k n).1.map Prod.fst = (tmL t k n).1 := by
 unfold smpL; rw [zkM _ _ _ _ _ _ _ _ _ (by omega)]; simp
theorem zlL (t : List Int) (k n : Nat) : (smpL t k n).1.length ≤ n := by
 have := congrArg List.length (ziT t k n)
 rw [List.length_map] at this
 rw [this]; exact zkS t k n
theorem zlk {α : Type} (l : List α) (i : Nat) (d : α) (h : i < l.length) : l.getD i d ∈ l := by
 have : l.getD i d = l[i] := by simp [h]
 rw [this]; exact List.getElem_mem h
theorem zlM (t : List Int) (k n : Nat) : Smp (smpL t k n).1 := by
 intro i hi
 have hm := zlk _ i ((0 : Int), (0 : Int)) hi
 constructor
 ·have h1 : ((smpL t k n).1.getD i (0, 0)).1 ∈ (smpL t k n).1.map Prod.fst := List.mem_map_of_mem hm
  rw [ziT] at h1
  exact (zjz t k n).2 _ h1
 ·exact zkN t _ _ _ _ _ _ _ [] (zbX t _) (by simp) _ hm
end Go.Proofs.YtpnbgalbdohfgaaGreatDoor
namespace Go.Proofs.YtpnbgalbdohfgaaGreatDoor
open Go.RowKit Go.Ab Go.Wd
theorem zhP (x : Int) : I64 (IntKind.i64.wrap x) := by unfold I64; rw [i64w]; omega
theorem zfP {l : List (Int × Int)} (h : Smp l) (i : Nat) (s : Int × Int) (hs : I64 s.1 ∧ I64 s.2) : Smp (l.set i s) := by
 intro j hj
 rw [List.length_set] at hj
 by_cases e : i = j
 ·subst e
  have : (l.set i s).getD i (0, 0) = s := by simp [hj]
  rw [this]; exact hs
 ·have : (l.set i s).getD j (0, 0) = l.getD j (0, 0) := by simp [e]
  rw [this]; exact h j hj
theorem zeM {l : List (Int × Int)} (h : Smp l) (i : Nat) : I64 (l.getD i (0, 0)).1 ∧ I64 (l.getD i (0, 0)).2 := by
 rcases Nat.lt_or_ge i l.length with hi | hi
 ·exact h i hi
 ·have : l.getD i (0, 0) = (0, 0) := by simp [hi]
  rw [this]; unfold I64; omega
theorem zlH (t : List Int) (q i : Nat) {L : List (Int × Int)} (h : Smp L) : Smp (sk1 t q i L) ∧ (sk1 t q i L).length = L.length := by
 unfold sk1
 exact ⟨zfP h _ _ ⟨(zeM h i).1, zhP _⟩, List.length_set⟩
theorem zlI (t : List Int) (q i : Nat) {L : List (Int × Int)} (h : Smp L) : Smp (sk2 t q i L) ∧ (sk2 t q i L).length = L.length := by
 unfold sk2
 exact ⟨zfP h _ _ ⟨(zeM h i).1, zbX t q⟩, List.length_set⟩
theorem zg8 (t : List Int) : ∀ (j i q : Nat) (L : List (Int × Int)), Smp L → Smp (skG t j i q L).1 ∧ (skG t j i q L).1.length = L.length
 | 0, i, q, L, h => by rw [skG]; exact ⟨h, rfl⟩
 | j + 1, i, q, L, h => by
  have h1 := zlH t q i h
  have h2 := zlI t (adv t (adv t q)) i h1.1
  rw [skG]
  split
  ·have := zg8 t j (i + 1) (itv t (adv t (adv t q))).2 _ h2.1
   exact ⟨this.1, by rw [this.2, h2.2, h1.2]⟩
  ·have := zg8 t j (i + 1) (adv t (adv t q)) _ h1.1
   exact ⟨this.1, by rw [this.2, h1.2]⟩
theorem zlJ (t : List Int) (q : Nat) {L : List (Int × Int)} (h : Smp L) : Smp (skT t q L).1 ∧ (skT t q L).1.length = L.length := by
 unfold skT
 split
 ·exact ⟨zfP h _ _ ⟨zhP _, (zeM h _).2⟩, List.length_set⟩
 ·exact ⟨h, rfl⟩
theorem zlN {l : List (Int × Int)} (h : Smp l) (k : Nat) : Smp (l.drop k) := by
 intro i hi
 rw [List.length_drop] at hi
 have : (l.drop k).getD i (0, 0) = l.getD (k + i) (0, 0) := by simp [List.getD_eq_getElem?_getD, List.getElem?_drop]
 rw [this]; exact h (k + i) (by omega)
theorem zjy (t : List Int) (k : Nat) {l : List (Int × Int)} (h : Smp l) : Smp (zfM t k l).1 ∧ (zfM t k l).1.length ≤ l.length := by
 obtain ⟨g1, g2⟩ := zg8 t l.length 0 k l h
 unfold zfM
 split
 ·exact ⟨g1, by omega⟩
 ·obtain ⟨t1, t2⟩ := zlJ t (skG t l.length 0 k l).2 g1
  split
  ·exact ⟨zlN t1 1, by show ((skT t (skG t l.length 0 k l).2 (skG t l.length 0 k l).1).1.drop 1).length ≤ _; rw [List.length_drop]; omega⟩
  ·exact ⟨t1, by show (skT t (skG t l.length 0 k l).2 (skG t l.length 0 k l).1).1.length ≤ _; omega⟩
def sgR (c : Int) (b1 : Bool) (n1 : Nat) (b2 : Bool) (n2 : Nat) (b3 : Bool) (n3 : Nat) : List AV := (sgV c b1 n1 b2 n2 b3 n3).map fun x => .r (.v x)
noncomputable def sfS (o : Obj) (a b : List (Int × Int)) (S : List AV) (t : List Int) (k : Nat) (l m : List (Int × Int)) : St :=
 ⟨[(0, .r (.sl 2 (smps a))), (1, .r (.sl 2 (smps b))), (6, .pt 1 0), (8, .r (.v (.bool false))), (9, .pt 2 0), (10, .r (.sl 2 (smps l))), (11, .r (.sl 2 (smps m)))], [(0, some (.gl g10 o)), (1, some (.var 28 S)), (2, some (tb t k))], 3⟩
noncomputable def sfT (o : Obj) (a b : List (Int × Int)) (S U : List AV) (l m : List (Int × Int)) : St :=
 ⟨[(0, .r (.sl 2 (smps a))), (1, .r (.sl 2 (smps b))), (6, .pt 1 0), (8, .r (.v (.bool false))), (10, .r (.sl 2 (smps l))), (11, .r (.sl 2 (smps m))), (12, .pt 2 0)], [(0, some (.gl g10 o)), (1, some (.var 28 S)), (2, some (.var 28 U))], 3⟩
theorem zeO (a b : List (Int × Int)) (hsa : Smp a) (hsb : Smp b) (ha : a.length ≤ 8796093022000) (hb0 : b.length ≤ 8796093022000) (c : Int) (hc : I64 c) (b1 : Bool) (n1 : Nat) (b2 : Bool) (n2 : Nat) (b3 : Bool) (n3 : Nat) (h1 : n1 < B64 ^ 4) (h2 : n2 < B64 ^ 4) (h3 : n3 < B64 ^ 4)
  (t : List Int) (ht : Ints t) (htn : t.length ≤ 140737488351232) (T : TypeId) (fr : Nat × Nat) :
  zaq Tryz.prog 3 [.r (.sl 2 (smps a)), .r (.sl 2 (smps b)), .ag (sgR c b1 n1 b2 n2 b3 n3), .r (.sl 1 (nums .i64 t))] [.gl g10 (tabO T fr)] (.r (.v (.bool true))) [some (.gl g10 (tabO T fr))] := by
 have hls := zlM t 0 30
 have hll := zlL t 0 30
 have cS := zkG t 0 30 ht htn (by omega)
 generalize (smpL t 0 30).1 = l at *
 generalize (smpL t 0 30).2 = k1 at *
 have cH := zjx t k1 l ht htn (by omega)
 obtain ⟨hms, hml⟩ := zjy t k1 hls
 generalize (zfM t k1 l).1 = m at *
 generalize (zfM t k1 l).2 = k2 at *
 have cKn := zjh T fr
 have cA1 := zdr a b hsa hsb ha hb0 T fr
 have cA2 := zdr l m hls hms (by omega) (by omega) T fr
 have cA3 := zdr m l hms hls (by omega) (by omega) T fr
 have cA4 := zdr a l hsa hls ha (by omega) T fr
 have cT1 := zg6 c hc b1 n1 b2 n2 b3 n3 h1 h2 h3 T fr
 have cT2 := zfI c hc b1 n1 b2 n2 b3 n3 h1 h2 h3
 generalize tx33 c (zb b1 n1) (zb b2 n2) (zb b3 n3) = R1 at *
 have r9 := zaB t k2 (show (1 : Int) ≤ 9 by omega)
 have cN := zaZ t k2 9 ht htn (by omega)
 have cW1 := zhc t (adv t k2) ht htn
 have l1 := zf0 t (adv t k2)
 generalize (zdq t (adv t k2)).1 = y1 at *
 generalize (zdq t (adv t k2)).2 = k3 at *
 have cW2 := zhc t k3 ht htn
 have l2 := zf0 t k3
 generalize (zdq t k3).1 = y2 at *
 generalize (zdq t k3).2 = k4 at *
 have cW3 := zhc t k4 ht htn
 have l3 := zf0 t k4
 generalize (zdq t k4).1 = y3 at *
 generalize (zdq t k4).2 = k5 at *
 have hu : I64 (nx t k2 9 - 3) := by unfold I64; omega
 have cU1 := zg6 (nx t k2 9 - 3) hu (decide (y1 < 0)) y1.natAbs (decide (y2 < 0)) y2.natAbs (decide (y3 < 0)) y3.natAbs l1 l2 l3 T fr
 have cU2 := zfI (nx t k2 9 - 3) hu (decide (y1 < 0)) y1.natAbs (decide (y2 < 0)) y2.natAbs (decide (y3 < 0)) y3.natAbs l1 l2 l3
 generalize tx33 (nx t k2 9 - 3) (zb (decide (y1 < 0)) y1.natAbs) (zb (decide (y2 < 0)) y2.natAbs) (zb (decide (y3 < 0)) y3.natAbs) = R2 at *
 generalize tabO T fr = o at *
 unfold sgR
 obtain ⟨v0, v1, v2, v3, v4, v5, v6, v7, v8, v9, v10, v11, hV⟩ : ∃ v0 v1 v2 v3 v4 v5 v6 v7 v8 v9 v10 v11, sgV c b1 n1 b2 n2 b3 n3 = [.int .i64 c, .bool b1, .int .u64 v0, .int .u64 v1, .int .u64 v2, .int .u64 v3, .bool b2, .int .u64 v4, .int .u64 v5, .int .u64 v6, .int .u64 v7, .bool b3, .int .u64 v8, .int .u64 v9, .int .u64 v10, .int .u64 v11] := ⟨_, _, _, _, _, _, _, _, _, _, _, _, rfl⟩
 rw [hV] at cT1 cT2 ⊢
 simp only [List.map_cons, List.map_nil] at cT2 ⊢
 clear hV
 unfold wz wd at cW1 cW2 cW3
 refine zaw Tryz.func3 rfl (Nat.le_of_ble_eq_true rfl) rfl rfl ?_
 (repeat' (first | (first | refine zbm 3 ?_ | refine za4 3 ?_) | refine zcy ?_ | refine zbp ?_ | (refine is_f 4 ?_; refine zlw (zoc t) ?_) | (refine is_f 5 ?_; refine zbI (cS) ?_) | (refine zab (fun hb => ?_) (fun hb => ?_) <;> (try (exfalso; omega))) | fail))
 refine halt ?_
 refine zci (T := ⟨[(0, .r (.sl 2 (smps a))), (1, .r (.sl 2 (smps b))), (6, .pt 1 0), (8, .r (.v (.bool false))), (9, .pt 2 0), (10, .r (.sl 2 (smps l)))], [(0, some (.gl g10 o)), (1, some (.var 28 [.r (.v (.int .i64 c)), .r (.v (.bool b1)), .r (.v (.int .u64 v0)), .r (.v (.int .u64 v1)), .r (.v (.int .u64 v2)), .r (.v (.int .u64 v3)), .r (.v (.bool b2)), .r (.v (.int .u64 v4)), .r (.v (.int .u64 v5)), .r (.v (.int .u64 v6)), .r (.v (.int .u64 v7)), .r (.v (.bool b3)), .r (.v (.int .u64 v8)), .r (.v (.int .u64 v9)), .r (.v (.int .u64 v10)), .r (.v (.int .u64 v11))])), (2, some (tb t k1))], 3⟩) (by (refine Le.mk [(0,0),(1,1),(2,2)] [3] zai zaK zaS zah)) ?_
 clear cS
 (repeat' (first | (first | refine zbm 4 ?_ | refine za4 4 ?_) | refine zcy ?_ | refine zbp ?_ | (refine is_f 6 ?_; refine zbI (cH) ?_) | (refine zab (fun hb => ?_) (fun hb => ?_) <;> (try (exfalso; omega))) | fail))
 refine halt ?_
 refine zci (T := sfS o a b [.r (.v (.int .i64 c)), .r (.v (.bool b1)), .r (.v (.int .u64 v0)), .r (.v (.int .u64 v1)), .r (.v (.int .u64 v2)), .r (.v (.int .u64 v3)), .r (.v (.bool b2)), .r (.v (.int .u64 v4)), .r (.v (.int .u64 v5)), .r (.v (.int .u64 v6)), .r (.v (.int .u64 v7)), .r (.v (.bool b3)), .r (.v (.int .u64 v8)), .r (.v (.int .u64 v9)), .r (.v (.int .u64 v10)), .r (.v (.int .u64 v11))] t k2 l m) (by (refine Le.mk [(0,0),(1,1),(2,2)] [] zai zaK zaS zah)) ?_
 clear cH
 have e9 : nx t k2 9 - 3 = nx t k2 9 - 3 := rfl
 (repeat' (first | (first | refine zbm 5 ?_ | refine za4 5 ?_) | refine zcy ?_ | refine zbp ?_ | (refine is_f 7 ?_; refine zbI (cN) ?_) | (refine is_f 8 ?_; refine zbI (cW1) ?_) | (refine is_f 8 ?_; refine zbI (cW2) ?_) | (refine is_f 8 ?_; refine zbI (cW3) ?_) | (refine zab (fun hb => ?_) (fun hb => ?_) <;> (try (exfalso; omega))) | fail))
 refine halt ?_
 refine zci (T := sfT o a b [.r (.v (.int .i64 c)), .r (.v (.bool b1)), .r (.v (.int .u64 v0)), .r (.v (.int .u64 v1)), .r (.v (.int .u64 v2)), .r (.v (.int .u64 v3)), .r (.v (.bool b2)), .r (.v (.int .u64 v4)), .r (.v (.int .u64 v5)), .r (.v (.int .u64 v6)), .r (.v (.int .u64 v7)), .r (.v (.bool b3)), .r (.v (.int .u64 v8)), .r (.v (.int .u64 v9)), .r (.v (.int .u64 v10)), .r (.v (.int .u64 v11))] (sgR (nx t k2 9 - 3) (decide (y1 < 0)) y1.natAbs (decide (y2 < 0)) y2.natAbs (decide (y3 < 0)) y3.natAbs) l m) (by (refine Le.mk [(0,0),(1,1),(2,3)] [] zai zaK zaS zah)) ?_
 clear cN cW1 cW2 cW3
 unfold sgR
 obtain ⟨u0, u1, u2, u3, u4, u5, u6, u7, u8, u9, u10, u11, hU⟩ : ∃ u0 u1 u2 u3 u4 u5 u6 u7 u8 u9 u10 u11, sgV (nx t k2 9 - 3) (decide (y1 < 0)) y1.natAbs (decide (y2 < 0)) y2.natAbs (decide (y3 < 0)) y3.natAbs = [.int .i64 (nx t k2 9 - 3), .bool (decide (y1 < 0)), .int .u64 u0, .int .u64 u1, .int .u64 u2, .int .u64 u3, .bool (decide (y2 < 0)), .int .u64 u4, .int .u64 u5, .int .u64 u6, .int .u64 u7, .bool (decide (y3 < 0)), .int .u64 u8, .int .u64 u9, .int .u64 u10, .int .u64 u11] := ⟨_, _, _, _, _, _, _, _, _, _, _, _, rfl⟩
 rw [hU] at cU1 cU2 ⊢
 simp only [List.map_cons, List.map_nil] at cU2 ⊢
 clear hU
 (repeat' (first | refine zao ?_ | (refine is_f 9 ?_; refine zaz (cKn) ?_) | (refine is_f 10 ?_; refine zaz (cA1) ?_) | (refine is_f 10 ?_; refine zaz (cA2) ?_) | (refine is_f 10 ?_; refine zaz (cA3) ?_) | (refine is_f 10 ?_; refine zaz (cA4) ?_) | ((refine is_f 11 ?_; refine zcw 0 (cT1) zct (by kernel_rfl) rfl rfl zaa ?_); try dsimp only [AV.unfr, AV.unfrs, frsL, zaO, rdOf, @List.length_cons Blk, @List.length_nil Blk, @List.nil_append (Nat × Option Blk), @List.cons_append (Nat × Option Blk), @List.nil_append Blk, @List.cons_append Blk, Nat.add_zero, Nat.zero_add, Nat.reduceAdd]) | ((refine is_f 11 ?_; refine zcw 0 (cU1) zct (by kernel_rfl) rfl rfl zaa ?_); try dsimp only [AV.unfr, AV.unfrs, frsL, zaO, rdOf, @List.length_cons Blk, @List.length_nil Blk, @List.nil_append (Nat × Option Blk), @List.cons_append (Nat × Option Blk), @List.nil_append Blk, @List.cons_append Blk, Nat.add_zero, Nat.zero_add, Nat.reduceAdd]) | (refine is_f 12 ?_; refine zav (cT2) ?_) | (refine is_f 12 ?_; refine zav (cU2) ?_) | (refine zab (fun hb => ?_) (fun hb => ?_) <;> (try (exfalso; omega))) | fail))
 all_goals (first | exact absurd rfl hb | exact zbC [] (.bool rfl) rfl rfl (zaF rfl rfl) rfl)
structure Rw where
 b : Bool
 n : Nat
def Rw.vs (x : Rw) : List Value := wdVs x.b x.n
def Rw.z (x : Rw) : Int := zb x.b x.n
def Rw.lim (x : Rw) : Prop := x.n < B64 ^ 4
def Rw.ok (x : Rw) : Prop := vW x.b x.n = true
instance (x : Rw) : Decidable x.ok := inferInstanceAs (Decidable (_ = _))
def Rw.of (z : Int) : Rw := ⟨decide (z < 0), z.natAbs⟩
theorem Rw.no {x : Rw} (h : ¬ x.ok) : x = ⟨true, 0⟩ := by
 obtain ⟨b, n⟩ := x
 unfold Rw.ok vW at h
 cases b
 ·exact absurd rfl h
 ·simp at h; rw [h]
end Go.Proofs.YtpnbgalbdohfgaaGreatDoor
namespace Go.Proofs.YtpnbgalbdohfgaaGreatDoor
open Go.RowKit Go.Ab Go.Deep Go.ChangeShapes Go.Wd
theorem zjH : Tryz.prog.cellsOf 26 = 5 := by kernel_rfl
theorem zmm : Tryz.prog.cellsOf 24 = 4 := by kernel_rfl
theorem znr : Tryz.prog.cellsOf 23 = 1 := by kernel_rfl
theorem znq : Tryz.prog.cellsOf 4 = 1 := by kernel_rfl
theorem ziW {a : Int} (h : (Lit.int .u64 a).wf = true) : 0 ≤ a ∧ a < 18446744073709551616 := by
 have h' : IntKind.u64.min ≤ a ∧ a ≤ IntKind.u64.max := by simpa [Lit.wf] using h
 rw [show IntKind.u64.min = 0 from rfl, show IntKind.u64.max = 18446744073709551615 from rfl] at h'
 omega
section
variable {H : Type} {enc : TypeId × Value → H} {w : World} {fuel : Nat} {held : Bool} {cs : List Value} {x : DataW H × List MemPlace}
theorem zfv (h : DataW.trod enc Tryz.prog w 0 (fun _ => true) held fuel 26 cs = some x) : ∃ r : Rw, r.lim ∧ cs = r.vs := by
 obtain ⟨xs, n, _, _, hl, hxl, hf⟩ := DataW.trod_struct Tryz.underlying26 h
 rw [zjH] at hl
 match xs, hxl, cs, hl with
 | [y0, y1], _, [v0, v1, v2, v3, v4], _ =>
  have f0 := hf 0 _ rfl
  have f1 := hf 1 _ rfl
  simp [znq, zmm] at f0 f1
  obtain ⟨b, e0, _⟩ := DataW.trod_bool Tryz.underlying4 f0
  obtain ⟨zs, m, _, _, _, hzl, hg⟩ := DataW.trod_array Tryz.underlying24 f1
  match zs, hzl with
  | [z0, z1, z2, z3], _ =>
   have g0 := hg 0 (by omega)
   have g1 := hg 1 (by omega)
   have g2 := hg 2 (by omega)
   have g3 := hg 3 (by omega)
   simp [znr] at g0 g1 g2 g3
   obtain ⟨a0, e1, _, w0⟩ := DataW.trod_int Tryz.underlying23 g0
   obtain ⟨a1, e2, _, w1⟩ := DataW.trod_int Tryz.underlying23 g1
   obtain ⟨a2, e3, _, w2⟩ := DataW.trod_int Tryz.underlying23 g2
   obtain ⟨a3, e4, _, w3⟩ := DataW.trod_int Tryz.underlying23 g3
   simp at e0 e1 e2 e3 e4
   subst e0 e1 e2 e3 e4
   have k0 := ziW w0
   have k1 := ziW w1
   have k2 := ziW w2
   have k3 := ziW w3
   obtain ⟨c0, rfl⟩ : ∃ c : Nat, a0 = c := ⟨a0.toNat, by omega⟩
   obtain ⟨c1, rfl⟩ : ∃ c : Nat, a1 = c := ⟨a1.toNat, by omega⟩
   obtain ⟨c2, rfl⟩ : ∃ c : Nat, a2 = c := ⟨a2.toNat, by omega⟩
   obtain ⟨c3, rfl⟩ : ∃ c : Nat, a3 = c := ⟨a3.toNat, by omega⟩
   have q0 : (c0 + 18446744073709551616 * (c1 + 18446744073709551616 * (c2 + 18446744073709551616 * c3))) % 18446744073709551616 = c0 := by omega
   have r0 : (c0 + 18446744073709551616 * (c1 + 18446744073709551616 * (c2 + 18446744073709551616 * c3))) / 18446744073709551616 = c1 + 18446744073709551616 * (c2 + 18446744073709551616 * c3) := by omega
   have q1 : (c1 + 18446744073709551616 * (c2 + 18446744073709551616 * c3)) % 18446744073709551616 = c1 := by omega
   have r1 : (c1 + 18446744073709551616 * (c2 + 18446744073709551616 * c3)) / 18446744073709551616 = c2 + 18446744073709551616 * c3 := by omega
   have q2 : (c2 + 18446744073709551616 * c3) % 18446744073709551616 = c2 := by omega
   have r2 : (c2 + 18446744073709551616 * c3) / 18446744073709551616 = c3 := by omega
   have q3 : c3 % 18446744073709551616 = c3 := by omega
   refine ⟨⟨b, c0 + B64 * (c1 + B64 * (c2 + B64 * c3))⟩, ?_, ?_⟩
   ·unfold Rw.lim
    rw [zi8]
    dsimp only
    unfold B64
    omega
   ·unfold Rw.vs wdVs
    dsimp only
    unfold B64
    rw [q0, r0, q1, r1, q2, r2, q3]
end
theorem zml : Tryz.prog.cellsOf 28 = 16 := by kernel_rfl
theorem zk5 : Tryz.prog.cellsOf 3 = 1 := by kernel_rfl
section
variable {H : Type} {enc : TypeId × Value → H} {w : World} {fuel : Nat} {held : Bool} {cs : List Value} {x : DataW H × List MemPlace}
theorem zlo (h : DataW.trod enc Tryz.prog w 0 (fun _ => true) held fuel 28 cs = some x) : ∃ (c : Int) (a b d : Rw), I64 c ∧ (a.lim ∧ b.lim ∧ d.lim) ∧ cs = .int .i64 c :: (a.vs ++ (b.vs ++ d.vs)) := by
 obtain ⟨xs, n, _, _, hl, hxl, hf⟩ := DataW.trod_struct Tryz.underlying28 h
 rw [zml] at hl
 match xs, hxl, cs, hl with
 | [y0, y1, y2, y3], _, v0 :: cs, hl =>
  have hl : cs.length = 15 := by simpa using hl
  have f0 : DataW.trod enc Tryz.prog w 0 (fun _ => true) held n 3 (((v0 :: cs).drop 0).take (Tryz.prog.cellsOf 3)) = some y0 := hf 0 _ rfl
  have f1 : DataW.trod enc Tryz.prog w 0 (fun _ => true) held n 26 (((v0 :: cs).drop 1).take (Tryz.prog.cellsOf 26)) = some y1 := hf 1 _ rfl
  have f2 : DataW.trod enc Tryz.prog w 0 (fun _ => true) held n 26 (((v0 :: cs).drop 6).take (Tryz.prog.cellsOf 26)) = some y2 := hf 2 _ rfl
  have f3 : DataW.trod enc Tryz.prog w 0 (fun _ => true) held n 26 (((v0 :: cs).drop 11).take (Tryz.prog.cellsOf 26)) = some y3 := hf 3 _ rfl
  rw [zk5] at f0
  rw [zjH] at f1 f2 f3
  simp only [List.drop_zero, List.drop_succ_cons, List.take_succ_cons, List.take_zero] at f0 f1 f2 f3
  obtain ⟨c, e0, _, wc⟩ := DataW.trod_int Tryz.underlying3 f0
  obtain ⟨a, h1, e1⟩ := zfv f1
  obtain ⟨b, h2, e2⟩ := zfv f2
  obtain ⟨d, h3, e3⟩ := zfv f3
  simp at e0
  refine ⟨c, a, b, d, zi1 wc, ⟨h1, h2, h3⟩, ?_⟩
  rw [List.take_of_length_le (by rw [List.length_drop]; omega)] at e3
  have k1 : cs = cs.take 5 ++ cs.drop 5 := (List.take_append_drop 5 cs).symm
  have k2 : cs.drop 5 = (cs.drop 5).take 5 ++ (cs.drop 5).drop 5 := (List.take_append_drop 5 _).symm
  rw [List.drop_drop] at k2
  rw [e0, ← e1, ← e2, ← e3, ← k2, ← k1]
end
def znm (v : Value) (c : Int) (a b d : Rw) : Prop := I64 c ∧ (a.lim ∧ b.lim ∧ d.lim) ∧ v = .agg (.int .i64 c :: (a.vs ++ (b.vs ++ d.vs))).toArray
theorem open_sumV {H : Type} {enc : TypeId × Value → H} {w : World} {r : Reach} {b0 : Nat} {held : Bool} {v : Value} {d : DataW H} {p : List MemPlace} (hv : Value.okWide Tryz.prog w r b0 28 v) (h : DataW.Trod enc Tryz.prog w 0 (fun _ => true) held 28 v d p) :
  ∃ c x y z, znm v c x y z := by
 obtain ⟨cs, rfl, hsz⟩ := Go.WideShapes.okWide_struct Tryz.underlying28 hv
 obtain ⟨fuel, hf⟩ := h
 obtain ⟨c, x, y, z, h1, h2, h3⟩ := zlo (cs := cs.toList) hf
 exact ⟨c, x, y, z, h1, h2, by rw [← h3]⟩
theorem zhw {P : Program} {x : String × DataW Unit} {r : List (String × DataW Unit)} {w : World} (h : laidMet P (x :: r) w) : laidMet P r w := by
 obtain ⟨ps, ⟨g, t, cs, fuel, p, q, _, _, _, _, hr, rfl⟩, hn, hc⟩ := h
 refine ⟨q, hr, (List.nodup_append.1 hn).2.1, fun b off hm => hc b off (List.mem_append_right _ hm)⟩
theorem statisticsForms_law (A0 : Option Addr) (n0 c0 : Nat) (z0 : List (Int × Int)) (A1 : Option Addr) (n1 c1 : Nat) (z1 : List (Int × Int)) (v2 : Value) (a2 : Int) (b2 d2 e2 : Rw) (A3 : Option Addr) (n3 c3 : Nat) (z3 : List Int) (w : World)
  (w0 : IsSmp w A0 n0 c0 z0) (r0 : c0 * 16 ≤ 140737488351232) (w1 : IsSmp w A1 n1 c1 z1) (r1 : c1 * 16 ≤ 140737488351232) (w2 : znm v2 a2 b2 d2 e2) (w3 : IsRow .i64 w A3 n3 c3 z3) (r3 : c3 * 8 ≤ 140737488351232)
  (hL : laidMetH Tryz.prog Rows.statisticsFormsRow.laid w) :
  Calls Tryz.prog 3 #[.slice A0 n0 c0, .slice A1 n1 c1, v2, .slice A3 n3 c3] w fun e w' => e = .returned (.bool true) ∧ Below w.heap.size w w' := by
 have hL' : laidMet Tryz.prog Rows.statisticsFormsRow.laid w := hL
 have hT : Lib.TabIs Tryz.prog w "internal/strconv.uint64pow10" .u64 Lib.pow10Tab := Lib.tabIs_of_head zjX (t := 134) (e := 23) (n := 20) (by kernel_rfl) (by kernel_rfl) (by kernel_rfl) (by kernel_rfl) (by kernel_rfl) (zhw (zhw hL'))
 obtain ⟨T, fr, hg⟩ := znU hT
 obtain ⟨z, hzl, hz2, hI, hz⟩ := w3.ints
 obtain ⟨g1, g2, g3, g4⟩ := w0.take
 obtain ⟨h1, h2, h3, h4⟩ := w1.take
 obtain ⟨k1, ⟨k2, k3, k4⟩, rfl⟩ := w2
 have hB : ∀ (x : Addr) (z : Int), w.cell? x = some (.int .i64 z) → ¬ x.block = g10 := by
  intro x z hx e
  unfold World.cell? at hx
  rw [e, hg] at hx
  simp only [tabO] at hx
  split at hx
  ·cases hx
  ·rw [List.getElem?_toArray, List.getElem?_map, Option.map_eq_some_iff] at hx
   obtain ⟨y, _, hy⟩ := hx
   cases hy
 refine zhm (us := [.slice A0 n0 c0, .slice A1 n1 c1, _, .slice A3 n3 c3]) (zeO (z0.take n0) (z1.take n1) g4 h4 (by omega) (by omega) a2 k1 b2.b b2.n d2.b d2.n e2.b e2.n k2 k3 k4 z hI (by omega) T fr) hg ?_
 simp only [AV.reps]
 refine ⟨_, _, rfl, ?_, _, _, rfl, ?_, _, _, rfl, ?_, _, _, rfl, ?_, rfl⟩
 ·rw [AV.rep]; exact zjP w0 hB
 ·rw [AV.rep]; exact zjP w1 hB
 ·have h := (Pure.ag (l := sgV a2 b2.b b2.n d2.b d2.n e2.b e2.n) Pure.nil).fwd (fun _ => .pointer (some ⟨g10, 0, none⟩)) (fun q => q = g10) w
  rw [AV.reps] at h
  obtain ⟨u, us, e, h1, h2⟩ := h
  injection e with e1 e2
  subst e1
  exact h1
 ·rw [AV.rep]; exact zmn hz (by omega) (by unfold maxLen; omega) hB
end Go.Proofs.YtpnbgalbdohfgaaGreatDoor
