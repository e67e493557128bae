/- Texts of the second layer in one: Sa1 Rj1. -/
import Derived.Test.YtibedaeefnjjlaaGreatG31
import Derived.Test.YtibedaeefnjjlaaGreatG32
import Derived.Test.YtibedaeefnjjlaaGreatG33
import Derived.Test.YtibedaeefnjjlaaGreatG27
import Derived.Test.YtibedaeefnjjlaaGreatG28
import Derived.Test.YtibedaeefnjjlaaGreatG30
set_option maxHeartbeats 8000000
set_option maxRecDepth 100000
set_option linter.unusedVariables false
set_option linter.unusedSimpArgs false
namespace Go.Proofs.YtibedaeefnjjlaaGreat
open Go.RowKit Go.Ab Go.Wd
theorem zns (l : List Int) (k : Nat) (n : Nat) (h2 : 2 ≤ n) (hn9 : n < 1000000) (hl : Ints l) (hn : l.length ≤ 140737488351232) : zan Tryz.prog 20 [.pt 0 0, .r (.v (.int .i64 n))] [tb l k] (.r (.v (.bool (decide (nx l k n = 1))))) [some (tb l (adv l k))] := by
 refine zap Tryz.func20 rfl (Nat.le_of_ble_eq_true rfl) rfl rfl ?_
 have h1 : (1 : Int).tmod (n : Int) = ((1 : Nat) : Int) := by rw [Int.tmod_eq_emod_of_nonneg (by omega), Int.emod_eq_of_lt (by omega) (by omega)]; rfl
 (repeat' (first | refine zai ?_ | (refine is_f 12 ?_; refine zbd (za3 l k n hl hn (by omega)) ?_) | (refine zac (fun hb => ?_) (fun hb => ?_) <;> (try (exfalso; omega))) | fail))
 all_goals exact zdl [] (.bool (by simpa using hb)) rfl rfl (zbN rfl rfl) rfl
theorem zqR (m : Int) (d : Nat) (hm : m.natAbs < B64) (hd : d < B64) (hd0 : d ≠ 0) : zan Tryz.prog 22 [wz m, wz (d : Int)] [] (.tu [rt (mkQ m d).1 (mkQ m d).2, .r (.v (.bool true))]) [] := by
 obtain ⟨h1, h2, h3, h4, h5⟩ := zhj m d (by omega)
 have e1 := zdS hm
 have e2 := zdS hd
 exact zoj m d (zaR e1) (zaR e2) hd0 ⟨h2, by omega, by omega, h5⟩
def smD (t : List Int) (q : Nat) : Nat := (1 + nx t q 4).toNat
def smC (t : List Int) (q : Nat) : Cn := ⟨false, (mkQ (nx t (adv t q) 30 - 15) (smD t q)).1, (mkQ (nx t (adv t q) 30 - 15) (smD t q)).2, (mkQ (nx t (adv t q) 30 - 15 + nx t (adv t (adv t q)) 12) (smD t q)).1, (mkQ (nx t (adv t q) 30 - 15 + nx t (adv t (adv t q)) 12) (smD t q)).2⟩
def smO1 (t : List Int) (q i : Nat) (c : Cn) : Pc := ⟨3 * (i : Int) + nx t q 3, 1, nx t (adv t q) 3, c⟩
def smP (t : List Int) (q i : Nat) : Pc × Nat := if nx t (adv t (adv t q)) 6 = 1 then (smO1 t q i ⟨true, 0, 0, 0, 0⟩, adv t (adv t (adv t q))) else (smO1 t q i (smC t (adv t (adv t (adv t q)))), adv t (adv t (adv t (adv t (adv t (adv t q))))))
def smG (t : List Int) : Nat → Nat → List Pc → List Pc × Nat
 | 0, q, acc => (acc, q)
 | i + 1, q, acc => smG t i (smP t q (i + 1)).2 (acc ++ [(smP t q (i + 1)).1])
def smL (t : List Int) (k : Nat) : List Pc × Nat := smG t (nx t k 14).toNat (adv t k) []
def smT (t : List Int) (x : Nat × Nat × List Pc) : St :=
 ⟨[(0, .pt 0 0), (3, .ow 1), (4, .r (.v (.int .i64 (x.1 : Int))))], [(0, some (tb t x.2.1)), (1, some (.row 42 24 (pcs x.2.2)))], 2⟩
theorem zma (acc : List Pc) (x : Pc) : pcs acc ++ [(pcVs x).map RV.v] = pcs (acc ++ [x]) := by simp [pcs]
theorem ztB (t : List Int) (k : Nat) (ht : Ints t) (htn : t.length ≤ 140737488351232) : zan Tryz.prog 8 [.pt 0 0] [tb t k] (.fr 42 24 (pcs (smL t k).1)) [some (tb t (smL t k).2)] := by
 refine zap Tryz.func8 rfl (Nat.le_of_ble_eq_true rfl) rfl rfl ?_
 have h1 := zau t k (show (1 : Int) ≤ 14 by omega)
 (repeat' (first | refine zai ?_ | (refine is_f 12 ?_; refine zbd (za3 t k 14 ht htn (by omega)) ?_) | (refine zac (fun hb => ?_) (fun hb => ?_) <;> (try (exfalso; omega))) | fail))
 refine zdd 3 42 24 rfl rfl ?_
 have h00 : ([] : List (List RV)) = pcs [] := rfl
 have hin : nx t k 14 = (((nx t k 14).toNat : Nat) : Int) := by omega
 refine zas (smT t) (fun x => smG t x.1 x.2.1 x.2.2 = smL t k ∧ x.2.2.length + x.1 ≤ 13) (fun x => x.1) ((nx t k 14).toNat, adv t k, []) ⟨rfl, by simp; omega⟩ (by show Le _ _ (smT t ((nx t k 14).toNat, adv t k, [])); unfold smT; dsimp only; (refine Le.mk [(0,0),(1,1)] [] zaj zaC zav zal)) fun x hx => ?_
 obtain ⟨i, q, acc⟩ := x
 obtain ⟨hx1, hx2⟩ := hx
 dsimp only at hx1 hx2
 generalize smL t k = R at *
 clear h1 hin
 have hal : (pcs acc).length = acc.length := zcZ acc
 rcases i with _ | i
 ·rw [smG] at hx1
  subst hx1
  show awp _ _ _ _ _ (smT t (0, q, acc))
  (repeat' (first | refine zai ?_ | (refine zac (fun hb => ?_) (fun hb => ?_) <;> (try (exfalso; omega))) | fail))
  all_goals (first | (exfalso; omega) | exact zdl [] (.fr 1 _ _ _ rfl) rfl rfl (zbN rfl rfl) rfl)
 ·rw [smG] at hx1
  have n1 := zau t q (show (1 : Int) ≤ 3 by omega)
  have n2 := zau t (adv t q) (show (1 : Int) ≤ 3 by omega)
  have hw1 : IntKind.i64.wrap (((i + 1 : Nat) : Int) - 1) = ((i : Nat) : Int) := by rw [IntKind.wrap_i64]; omega
  have hw2 : IntKind.i64.wrap (3 * ((i + 1 : Nat) : Int)) = 3 * ((i + 1 : Nat) : Int) := by rw [IntKind.wrap_i64]; omega
  have hw3 : IntKind.i64.wrap (3 * ((i + 1 : Nat) : Int) + nx t q 3) = 3 * ((i + 1 : Nat) : Int) + nx t q 3 := by rw [IntKind.wrap_i64]; omega
  show awp _ _ _ _ _ (smT t (i + 1, q, acc))
  unfold smT
  dsimp only
  have cS := zeH
  by_cases hb6 : nx t (adv t (adv t q)) 6 = 1
  ·have hsm : smP t q (i + 1) = (smO1 t q (i + 1) ⟨true, 0, 0, 0, 0⟩, adv t (adv t (adv t q))) := if_pos hb6
   rw [hsm] at hx1
   have hE := zma acc (smO1 t q (i + 1) ⟨true, 0, 0, 0, 0⟩)
   have cB := zns t (adv t (adv t q)) 6 (by omega) (by omega) ht htn
   rw [show (decide (nx t (adv t (adv t q)) ((6 : Nat) : Int) = 1)) = true from decide_eq_true hb6] at cB
   (repeat' (first | refine zai ?_ | (refine is_f 12 ?_; refine zbd (za3 t q 3 ht htn (by omega)) ?_) | (refine is_f 12 ?_; refine zbd (za3 t (adv t q) 3 ht htn (by omega)) ?_) | (refine is_f 19 ?_; refine zah (cS) ?_) | (refine is_f 20 ?_; refine zbd (cB) ?_) | (refine zac (fun hb => ?_) (fun hb => ?_) <;> (try (exfalso; omega))) | fail))
   all_goals refine ⟨(i, adv t (adv t (adv t q)), acc ++ [smO1 t q (i + 1) ⟨true, 0, 0, 0, 0⟩]), ⟨hx1, (by simp; omega)⟩, ?_, (by show i < i + 1; omega)⟩
   all_goals show Le _ _ (smT t (i, adv t (adv t (adv t q)), acc ++ [smO1 t q (i + 1) ⟨true, 0, 0, 0, 0⟩]))
   all_goals unfold smT
   all_goals dsimp only
   all_goals refine Le.mk [(0, 0), (1, 4)] [] rfl (by (repeat' (first | exact zaX | refine zbQ ?_ | refine le_r ?_ rfl rfl | refine za9 ?_ (by omega) rfl | refine zbR ?_ rfl rfl | refine zbS ?_ rfl rfl | refine zbH ?_ rfl zaN rfl rfl | refine zbX ?_ rfl rfl | refine zbW ?_ rfl rfl | refine zbZ ?_ ?_ rfl | refine zb0 ?_ ?_ rfl | refine za4 ?_ rfl | refine zbt ?_ rfl | refine zbi ?_ rfl | exact CfL.nil))) ?_ (fun g h => nomatch h)
   all_goals exact ⟨⟨_, rfl, .var _ _ _ (.cons _ _ _ _ (.r _) (.cons _ _ _ _ (.r _) .nil))⟩, ⟨_, rfl, by rw [← hE]; exact .row _ _ _⟩, trivial⟩
  ·have hsm : smP t q (i + 1) = (smO1 t q (i + 1) (smC t (adv t (adv t (adv t q)))), adv t (adv t (adv t (adv t (adv t (adv t q)))))) := if_neg hb6
   rw [hsm] at hx1
   have hE := zma acc (smO1 t q (i + 1) (smC t (adv t (adv t (adv t q)))))
   have cB := zns t (adv t (adv t q)) 6 (by omega) (by omega) ht htn
   rw [show (decide (nx t (adv t (adv t q)) ((6 : Nat) : Int) = 1)) = false from decide_eq_false hb6] at cB
   have n4 := zau t (adv t (adv t (adv t q))) (show (1 : Int) ≤ 4 by omega)
   have n5 := zau t (adv t (adv t (adv t (adv t q)))) (show (1 : Int) ≤ 30 by omega)
   have n6 := zau t (adv t (adv t (adv t (adv t (adv t q))))) (show (1 : Int) ≤ 12 by omega)
   have hd : ((smD t (adv t (adv t (adv t q))) : Nat) : Int) = 1 + nx t (adv t (adv t (adv t q))) 4 := by unfold smD; omega
   have hw4 : IntKind.i64.wrap (1 + nx t (adv t (adv t (adv t q))) 4) = 1 + nx t (adv t (adv t (adv t q))) 4 := by rw [IntKind.wrap_i64]; omega
   have hw5 : IntKind.i64.wrap (nx t (adv t (adv t (adv t (adv t q)))) 30 - 15) = nx t (adv t (adv t (adv t (adv t q)))) 30 - 15 := by rw [IntKind.wrap_i64]; omega
   have hw6 : IntKind.i64.wrap (nx t (adv t (adv t (adv t (adv t q)))) 30 - 15 + nx t (adv t (adv t (adv t (adv t (adv t q))))) 12) = nx t (adv t (adv t (adv t (adv t q)))) 30 - 15 + nx t (adv t (adv t (adv t (adv t (adv t q))))) 12 := by rw [IntKind.wrap_i64]; omega
   have hB : B64 = 18446744073709551616 := rfl
   have o1 := zhY (1 + nx t (adv t (adv t (adv t q))) 4) (by unfold I64; omega)
   have o2 := zhY (nx t (adv t (adv t (adv t (adv t q)))) 30 - 15) (by unfold I64; omega)
   have o3 := zhY (nx t (adv t (adv t (adv t (adv t q)))) 30 - 15 + nx t (adv t (adv t (adv t (adv t (adv t q))))) 12) (by unfold I64; omega)
   have m1 := zqR (nx t (adv t (adv t (adv t (adv t q)))) 30 - 15) (smD t (adv t (adv t (adv t q)))) (by omega) (by omega) (by omega)
   have m2 := zqR (nx t (adv t (adv t (adv t (adv t q)))) 30 - 15 + nx t (adv t (adv t (adv t (adv t (adv t q))))) 12) (smD t (adv t (adv t (adv t q)))) (by omega) (by omega) (by omega)
   rw [hd] at m1 m2
   (repeat' (first | refine zai ?_ | (refine is_f 12 ?_; refine zbd (za3 t q 3 ht htn (by omega)) ?_) | (refine is_f 12 ?_; refine zbd (za3 t (adv t q) 3 ht htn (by omega)) ?_) | (refine is_f 19 ?_; refine zah (cS) ?_) | (refine is_f 20 ?_; refine zbd (cB) ?_) | (refine is_f 12 ?_; refine zbd (za3 t (adv t (adv t (adv t q))) 4 ht htn (by omega)) ?_) | (refine is_f 12 ?_; refine zbd (za3 t (adv t (adv t (adv t (adv t q)))) 30 ht htn (by omega)) ?_) | (refine is_f 12 ?_; refine zbd (za3 t (adv t (adv t (adv t (adv t (adv t q))))) 12 ht htn (by omega)) ?_) | (refine is_f 21 ?_; refine zah (o1) ?_) | (refine is_f 21 ?_; refine zah (o2) ?_) | (refine is_f 21 ?_; refine zah (o3) ?_) | (refine is_f 22 ?_; refine zah (m1) ?_) | (refine is_f 22 ?_; refine zah (m2) ?_) | (refine zac (fun hb => ?_) (fun hb => ?_) <;> (try (exfalso; omega))) | fail))
   all_goals refine ⟨(i, adv t (adv t (adv t (adv t (adv t (adv t q))))), acc ++ [smO1 t q (i + 1) (smC t (adv t (adv t (adv t q))))]), ⟨hx1, (by simp; omega)⟩, ?_, (by show i < i + 1; omega)⟩
   all_goals show Le _ _ (smT t (i, adv t (adv t (adv t (adv t (adv t (adv t q))))), acc ++ [smO1 t q (i + 1) (smC t (adv t (adv t (adv t q))))]))
   all_goals unfold smT
   all_goals dsimp only
   all_goals refine Le.mk [(0, 0), (1, 7)] [] rfl (by (repeat' (first | exact zaX | refine zbQ ?_ | refine le_r ?_ rfl rfl | refine za9 ?_ (by omega) rfl | refine zbR ?_ rfl rfl | refine zbS ?_ rfl rfl | refine zbH ?_ rfl zaN rfl rfl | refine zbX ?_ rfl rfl | refine zbW ?_ rfl rfl | refine zbZ ?_ ?_ rfl | refine zb0 ?_ ?_ rfl | refine za4 ?_ rfl | refine zbt ?_ rfl | refine zbi ?_ rfl | exact CfL.nil))) ?_ (fun g h => nomatch h)
   all_goals exact ⟨⟨_, rfl, .var _ _ _ (.cons _ _ _ _ (.r _) (.cons _ _ _ _ (.r _) .nil))⟩, ⟨_, rfl, by rw [← hE]; exact .row _ _ _⟩, trivial⟩
def insZ : List Int → Int → List Int
 | [], v => [v]
 | a :: l, v => if v < a then v :: a :: l else a :: insZ l v
theorem zn8 (a : Int) (l : List Int) (v : Int) : insZ (a :: l) v = if v < a then v :: a :: l else a :: insZ l v := rfl
theorem zha (v : Int) : ∀ l : List Int, (insZ l v).Perm (v :: l)
 | [] => .refl _
 | a :: l => by
  unfold insZ
  split
  ·exact .refl _
  ·exact ((zha v l).cons a).trans (.swap _ _ _)
theorem zhb (v : Int) : ∀ l : List Int, l.Pairwise (· ≤ ·) → (insZ l v).Pairwise (· ≤ ·)
 | [], _ => List.pairwise_singleton _ _
 | a :: l, h => by
  obtain ⟨h1, h2⟩ := List.pairwise_cons.1 h
  unfold insZ
  split
  ·rename_i hv
   refine List.pairwise_cons.2 ⟨fun x hx => ?_, h⟩
   rcases List.mem_cons.1 hx with rfl | hx
   ·omega
   ·have := h1 x hx; omega
  ·rename_i hv
   refine List.pairwise_cons.2 ⟨fun x hx => ?_, zhb v l h2⟩
   have := (zha v l).mem_iff.1 hx
   rcases List.mem_cons.1 this with rfl | hx
   ·omega
   ·exact h1 x hx
theorem zmn (l : List Int) : (zcJ l).Pairwise (· ≤ ·) := by
 have := List.pairwise_mergeSort (le := fun x y : Int => decide (x ≤ y)) (fun a b c h1 h2 => by simp at *; omega) (fun a b => by simp; omega) l
 exact this.imp fun h => of_decide_eq_true h
theorem zmK (l : List Int) (v : Int) : insZ (zcJ l) v = zcJ (l ++ [v]) := by
 refine List.Perm.eq_of_pairwise (le := (· ≤ ·)) (fun a b _ _ h1 h2 => by omega) (zhb v _ (zmn l)) (zmn _) ?_
 refine (zha v _).trans (((List.mergeSort_perm l _).cons v).trans ?_)
 refine List.Perm.trans ?_ (List.mergeSort_perm (l ++ [v]) _).symm
 exact (List.perm_append_singleton v l).symm
def inS (l : List Int) (v : Int) (x : Nat × Bool × List Int) : St := ⟨[(0, .r (.sl 1 (nums .i64 l))), (1, .r (.v (.int .i64 v))), (5, .ow 0), (6, .r (.v (.bool x.2.1))), (7, .r (.v (.int .i64 (x.1 : Int))))], [(0, some (.row 3 1 (nums .i64 x.2.2)))], 1⟩
theorem zoL (l : List Int) (v : Int) (hl : l.length ≤ 1000000) : zan Tryz.prog 62 [.r (.sl 1 (nums .i64 l)), .r (.v (.int .i64 v))] [] (.fr 3 1 (nums .i64 (insZ l v))) [] := by
 have hlen : (nums .i64 l).length = l.length := zbz _ l
 refine zap Tryz.func62 rfl (Nat.le_of_ble_eq_true rfl) rfl rfl ?_
 (repeat' (first | refine zai ?_ | (refine zac (fun hb => ?_) (fun hb => ?_) <;> (try (exfalso; omega))) | fail))
 refine zdd 5 3 1 rfl rfl ?_
 have h00 : ([] : List (List RV)) = nums .i64 [] := rfl
 refine zas (inS l v) (fun x => x.1 ≤ l.length ∧ x.2.2.length ≤ 2 * x.1 ∧ (x.2.1 = false → x.2.2 ++ insZ (l.drop x.1) v = insZ l v) ∧ (x.2.1 = true → x.2.2 ++ l.drop x.1 = insZ l v)) (fun x => l.length - x.1) (0, false, []) ⟨Nat.zero_le _, Nat.zero_le _, fun _ => rfl, fun h => nomatch h⟩ (by (refine Le.mk [(0,0)] [] zaj zaC zav zal)) ?_
 rintro ⟨i, put, out⟩ ⟨hi, hol, hf, ht⟩
 dsimp only at hi hol hf ht ⊢
 unfold inS
 dsimp only
 have hr1 : (nums .i64 out).length = out.length := zbz _ _
 have hEv : nums .i64 out ++ [[.v (.int .i64 v)]] = nums .i64 (out ++ [v]) := by rw [zcG]; rfl
 rcases Nat.lt_or_ge i l.length with hlt | hge
 ·obtain ⟨a, ha⟩ : ∃ a, a = l.getD i 0 := ⟨_, rfl⟩
  have hdr : l.drop i = l.getD i 0 :: l.drop (i + 1) := by
   rw [List.drop_eq_getElem_cons hlt, List.getD_eq_getElem?_getD, List.getElem?_eq_getElem hlt]
   rfl
  rw [← ha] at hdr
  have hw : IntKind.i64.wrap ((i : Int) + 1) = ((i + 1 : Nat) : Int) := zaT i (by omega)
  have hEa : nums .i64 out ++ [[.v (.int .i64 (l.getD i 0))]] = nums .i64 (out ++ [l.getD i 0]) := by rw [zcG]; rfl
  rw [hdr] at hf ht
  cases put
  ·have hf := hf rfl
   rw [zn8] at hf
   by_cases hv : v < a
   ·rw [if_pos hv] at hf
    subst ha
    have hE2 : nums .i64 out ++ [[.v (.int .i64 v)]] ++ [[.v (.int .i64 (l.getD i 0))]] = nums .i64 (out ++ [v, l.getD i 0]) := by rw [zcG, List.append_assoc]; rfl
    have hr2 : (nums .i64 out ++ ([[.v (.int .i64 v)]] : List (List RV))).length = out.length + 1 := by rw [List.length_append, zbz]; rfl
    (repeat' (first | refine zai ?_ | (refine zac (fun hb => ?_) (fun hb => ?_) <;> (try (exfalso; omega))) | fail))
    all_goals (first | (exfalso; omega) | exact ⟨(i + 1, true, out ++ [v, l.getD i 0]), ⟨hlt, by simp; omega, fun h => (nomatch h), fun _ => by rw [List.append_assoc]; exact hf⟩, by (refine Le.mk [(0,4)] [] zaj zaC zav zal), by show l.length - (i + 1) < l.length - i; omega⟩)
   ·rw [if_neg hv] at hf
    subst ha
    (repeat' (first | refine zai ?_ | (refine zac (fun hb => ?_) (fun hb => ?_) <;> (try (exfalso; omega))) | fail))
    all_goals (first | (exfalso; omega) | exact ⟨(i + 1, false, out ++ [l.getD i 0]), ⟨hlt, by simp; omega, fun _ => by rw [List.append_assoc]; exact hf, fun h => (nomatch h)⟩, by (refine Le.mk [(0,2)] [] zaj zaC zav zal), by show l.length - (i + 1) < l.length - i; omega⟩)
  ·have ht := ht rfl
   subst ha
   (repeat' (first | refine zai ?_ | (refine zac (fun hb => ?_) (fun hb => ?_) <;> (try (exfalso; omega))) | fail))
   all_goals (first | (exfalso; omega) | exact ⟨(i + 1, true, out ++ [l.getD i 0]), ⟨hlt, by simp; omega, fun h => (nomatch h), fun _ => by rw [List.append_assoc]; exact ht⟩, by (refine Le.mk [(0,2)] [] zaj zaC zav zal), by show l.length - (i + 1) < l.length - i; omega⟩)
 ·rw [List.drop_eq_nil_of_le (by omega)] at hf ht
  cases put
  ·have hf : out ++ [v] = insZ l v := hf rfl
   (repeat' (first | refine zai ?_ | (refine zac (fun hb => ?_) (fun hb => ?_) <;> (try (exfalso; omega))) | fail))
   all_goals (rw [← hf, ← hEv]; exact ret1 [] (.fr 2 _ _ _ rfl) rfl rfl rfl)
  ·have ht : out ++ [] = insZ l v := ht rfl
   rw [List.append_nil] at ht
   (repeat' (first | refine zai ?_ | (refine zac (fun hb => ?_) (fun hb => ?_) <;> (try (exfalso; omega))) | fail))
   all_goals (rw [← ht]; exact ret1 [] (.fr 0 _ _ _ rfl) rfl rfl rfl)
end Go.Proofs.YtibedaeefnjjlaaGreat
