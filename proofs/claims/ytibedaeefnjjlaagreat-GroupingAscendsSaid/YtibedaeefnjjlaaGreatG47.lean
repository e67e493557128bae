/- Texts of the second layer in one: Sa1 Sa2 Ac1 Gq1 Gq2. -/
import Derived.Test.YtibedaeefnjjlaaGreatG36
import Derived.Test.YtibedaeefnjjlaaGreatG9
import Derived.Test.YtibedaeefnjjlaaGreatG41
import Derived.Test.YtibedaeefnjjlaaGreatG42
import Derived.Test.YtibedaeefnjjlaaGreatG46
import Derived.Test.YtibedaeefnjjlaaGreatG12
import Derived.Test.YtibedaeefnjjlaaGreatG27
import Derived.Test.YtibedaeefnjjlaaGreatG34
set_option maxRecDepth 100000
set_option linter.unusedVariables false
set_option linter.unusedSimpArgs false
namespace Go.Proofs.YtibedaeefnjjlaaGreat
open Go.RowKit Go.Ab Go.Wd
theorem boolM_m (l : List Int) (k : Nat) (n : Nat) (h2 : 2 ≤ n) (hn9 : n < 1000000) (hl : Ints l) (hn : l.length ≤ 140737488351232) : Meets Tryz.prog 20 [.pt 0 0, .r (.v (.int .i64 n))] [tb l k] (.r (.v (.bool (decide (nx l k n = 1))))) [some (tb l (adv l k))] := by
 refine fn_of Tryz.func20 rfl (Nat.le_of_ble_eq_true rfl) rfl rfl ?_
 have h1 : (1 : Int).tmod (n : Int) = ((1 : Nat) : Int) := by rw [Int.tmod_eq_emod_of_nonneg (by omega), Int.emod_eq_of_lt (by omega) (by omega)]; rfl
 (repeat' (first | refine r_95e112 ?_ | (refine is_f 12 ?_; refine r_92fba5 (next_m l k n hl hn (by omega)) ?_) | (refine r_0efca5 (fun hb => ?_) (fun hb => ?_) <;> (try (exfalso; omega))) | fail))
 all_goals exact ret1P [] (.bool (by simpa using hb)) rfl rfl (post_one rfl rfl) rfl
theorem make_m (m : Int) (d : Nat) (hm : m.natAbs < B64) (hd : d < B64) (hd0 : d ≠ 0) : Meets Tryz.prog 22 [wz m, wz (d : Int)] [] (.tu [rt (mkQ m d).1 (mkQ m d).2, .r (.v (.bool true))]) [] := by
 obtain ⟨h1, h2, h3, h4, h5⟩ := mkQ_mul m d (by omega)
 have e1 := B64_N127 hm
 have e2 := B64_N127 hd
 exact make_g m d (N127_w4 e1) (N127_w4 e2) hd0 ⟨h2, by omega, by omega, h5⟩
def smD (t : List Int) (q : Nat) : Nat := (1 + nx t q 4).toNat
def smC (t : List Int) (q : Nat) : Cn := ⟨false, (mkQ (nx t (adv t q) 30 - 15) (smD t q)).1, (mkQ (nx t (adv t q) 30 - 15) (smD t q)).2, (mkQ (nx t (adv t q) 30 - 15 + nx t (adv t (adv t q)) 12) (smD t q)).1, (mkQ (nx t (adv t q) 30 - 15 + nx t (adv t (adv t q)) 12) (smD t q)).2⟩
def smO1 (t : List Int) (q i : Nat) (c : Cn) : Pc := ⟨3 * (i : Int) + nx t q 3, 1, nx t (adv t q) 3, c⟩
def smP (t : List Int) (q i : Nat) : Pc × Nat := if nx t (adv t (adv t q)) 6 = 1 then (smO1 t q i ⟨true, 0, 0, 0, 0⟩, adv t (adv t (adv t q))) else (smO1 t q i (smC t (adv t (adv t (adv t q)))), adv t (adv t (adv t (adv t (adv t (adv t q))))))
def smG (t : List Int) : Nat → Nat → List Pc → List Pc × Nat
 | 0, q, acc => (acc, q)
 | i + 1, q, acc => smG t i (smP t q (i + 1)).2 (acc ++ [(smP t q (i + 1)).1])
def smL (t : List Int) (k : Nat) : List Pc × Nat := smG t (nx t k 14).toNat (adv t k) []
def smT (t : List Int) (x : Nat × Nat × List Pc) : St :=
 ⟨[(0, .pt 0 0), (3, .ow 1), (4, .r (.v (.int .i64 (x.1 : Int))))], [(0, some (tb t x.2.1)), (1, some (.row 42 24 (pcs x.2.2)))], 2⟩
theorem pcs_snoc (acc : List Pc) (x : Pc) : pcs acc ++ [(pcVs x).map RV.v] = pcs (acc ++ [x]) := by simp [pcs]
set_option maxHeartbeats 8000000 in
theorem some_m (t : List Int) (k : Nat) (ht : Ints t) (htn : t.length ≤ 140737488351232) : Meets Tryz.prog 8 [.pt 0 0] [tb t k] (.fr 42 24 (pcs (smL t k).1)) [some (tb t (smL t k).2)] := by
 refine fn_of Tryz.func8 rfl (Nat.le_of_ble_eq_true rfl) rfl rfl ?_
 have h1 := nx_range t k (show (1 : Int) ≤ 14 by omega)
 (repeat' (first | refine r_95e112 ?_ | (refine is_f 12 ?_; refine r_92fba5 (next_m t k 14 ht htn (by omega)) ?_) | (refine r_0efca5 (fun hb => ?_) (fun hb => ?_) <;> (try (exfalso; omega))) | fail))
 refine awp_nilow 3 42 24 rfl rfl ?_
 have h00 : ([] : List (List RV)) = pcs [] := rfl
 have hin : nx t k 14 = (((nx t k 14).toNat : Nat) : Int) := by omega
 refine awp_loop' (smT t) (fun x => smG t x.1 x.2.1 x.2.2 = smL t k ∧ x.2.2.length + x.1 ≤ 13) (fun x => x.1) ((nx t k 14).toNat, adv t k, []) ⟨rfl, by simp; omega⟩ (by show Le _ _ (smT t ((nx t k 14).toNat, adv t k, [])); unfold smT; dsimp only; (refine Le.mk [(0,0),(1,1)] [] q_5ec36 q_871b6 q_bbfed q_509a2)) fun x hx => ?_
 obtain ⟨i, q, acc⟩ := x
 obtain ⟨hx1, hx2⟩ := hx
 dsimp only at hx1 hx2
 generalize smL t k = R at *
 clear h1 hin
 have hal : (pcs acc).length = acc.length := pcs_len acc
 rcases i with _ | i
 ·rw [smG] at hx1
  subst hx1
  show awp _ _ _ _ _ (smT t (0, q, acc))
  (repeat' (first | refine r_95e112 ?_ | (refine r_0efca5 (fun hb => ?_) (fun hb => ?_) <;> (try (exfalso; omega))) | fail))
  all_goals (first | (exfalso; omega) | exact ret1P [] (.fr 1 _ _ _ rfl) rfl rfl (post_one rfl rfl) rfl)
 ·rw [smG] at hx1
  have n1 := nx_range t q (show (1 : Int) ≤ 3 by omega)
  have n2 := nx_range t (adv t q) (show (1 : Int) ≤ 3 by omega)
  have hw1 : IntKind.i64.wrap (((i + 1 : Nat) : Int) - 1) = ((i : Nat) : Int) := by rw [IntKind.wrap_i64]; omega
  have hw2 : IntKind.i64.wrap (3 * ((i + 1 : Nat) : Int)) = 3 * ((i + 1 : Nat) : Int) := by rw [IntKind.wrap_i64]; omega
  have hw3 : IntKind.i64.wrap (3 * ((i + 1 : Nat) : Int) + nx t q 3) = 3 * ((i + 1 : Nat) : Int) + nx t q 3 := by rw [IntKind.wrap_i64]; omega
  show awp _ _ _ _ _ (smT t (i + 1, q, acc))
  unfold smT
  dsimp only
  have cS := rcStart_m
  by_cases hb6 : nx t (adv t (adv t q)) 6 = 1
  ·have hsm : smP t q (i + 1) = (smO1 t q (i + 1) ⟨true, 0, 0, 0, 0⟩, adv t (adv t (adv t q))) := if_pos hb6
   rw [hsm] at hx1
   have hE := pcs_snoc acc (smO1 t q (i + 1) ⟨true, 0, 0, 0, 0⟩)
   have cB := boolM_m t (adv t (adv t q)) 6 (by omega) (by omega) ht htn
   rw [show (decide (nx t (adv t (adv t q)) ((6 : Nat) : Int) = 1)) = true from decide_eq_true hb6] at cB
   (repeat' (first | refine r_95e112 ?_ | (refine is_f 12 ?_; refine r_92fba5 (next_m t q 3 ht htn (by omega)) ?_) | (refine is_f 12 ?_; refine r_92fba5 (next_m t (adv t q) 3 ht htn (by omega)) ?_) | (refine is_f 19 ?_; refine r_e7cc0f (cS) ?_) | (refine is_f 20 ?_; refine r_92fba5 (cB) ?_) | (refine r_0efca5 (fun hb => ?_) (fun hb => ?_) <;> (try (exfalso; omega))) | fail))
   all_goals refine ⟨(i, adv t (adv t (adv t q)), acc ++ [smO1 t q (i + 1) ⟨true, 0, 0, 0, 0⟩]), ⟨hx1, (by simp; omega)⟩, ?_, (by show i < i + 1; omega)⟩
   all_goals show Le _ _ (smT t (i, adv t (adv t (adv t q)), acc ++ [smO1 t q (i + 1) ⟨true, 0, 0, 0, 0⟩]))
   all_goals unfold smT
   all_goals dsimp only
   all_goals refine Le.mk [(0, 0), (1, 4)] [] rfl (by (repeat' (first | exact le_nil | refine le_na ?_ | refine le_r ?_ rfl rfl | refine le_int ?_ (by omega) rfl | refine le_ow ?_ rfl rfl | refine le_pt ?_ rfl rfl | refine le_fz ?_ rfl q_bf1c9 rfl rfl | refine le_sv ?_ rfl rfl | refine le_ol ?_ rfl rfl | refine le_ag ?_ ?_ rfl | refine le_cl ?_ ?_ rfl | refine cfl_pt ?_ rfl | refine cfl_r ?_ rfl | refine cfl_rp ?_ rfl | exact CfL.nil))) ?_ (fun g h => nomatch h)
   all_goals exact ⟨⟨_, rfl, .var _ _ _ (.cons _ _ _ _ (.r _) (.cons _ _ _ _ (.r _) .nil))⟩, ⟨_, rfl, by rw [← hE]; exact .row _ _ _⟩, trivial⟩
  ·have hsm : smP t q (i + 1) = (smO1 t q (i + 1) (smC t (adv t (adv t (adv t q)))), adv t (adv t (adv t (adv t (adv t (adv t q)))))) := if_neg hb6
   rw [hsm] at hx1
   have hE := pcs_snoc acc (smO1 t q (i + 1) (smC t (adv t (adv t (adv t q)))))
   have cB := boolM_m t (adv t (adv t q)) 6 (by omega) (by omega) ht htn
   rw [show (decide (nx t (adv t (adv t q)) ((6 : Nat) : Int) = 1)) = false from decide_eq_false hb6] at cB
   have n4 := nx_range t (adv t (adv t (adv t q))) (show (1 : Int) ≤ 4 by omega)
   have n5 := nx_range t (adv t (adv t (adv t (adv t q)))) (show (1 : Int) ≤ 30 by omega)
   have n6 := nx_range t (adv t (adv t (adv t (adv t (adv t q))))) (show (1 : Int) ≤ 12 by omega)
   have hd : ((smD t (adv t (adv t (adv t q))) : Nat) : Int) = 1 + nx t (adv t (adv t (adv t q))) 4 := by unfold smD; omega
   have hw4 : IntKind.i64.wrap (1 + nx t (adv t (adv t (adv t q))) 4) = 1 + nx t (adv t (adv t (adv t q))) 4 := by rw [IntKind.wrap_i64]; omega
   have hw5 : IntKind.i64.wrap (nx t (adv t (adv t (adv t (adv t q)))) 30 - 15) = nx t (adv t (adv t (adv t (adv t q)))) 30 - 15 := by rw [IntKind.wrap_i64]; omega
   have hw6 : IntKind.i64.wrap (nx t (adv t (adv t (adv t (adv t q)))) 30 - 15 + nx t (adv t (adv t (adv t (adv t (adv t q))))) 12) = nx t (adv t (adv t (adv t (adv t q)))) 30 - 15 + nx t (adv t (adv t (adv t (adv t (adv t q))))) 12 := by rw [IntKind.wrap_i64]; omega
   have hB : B64 = 18446744073709551616 := rfl
   have o1 := rOf_m (1 + nx t (adv t (adv t (adv t q))) 4) (by unfold I64; omega)
   have o2 := rOf_m (nx t (adv t (adv t (adv t (adv t q)))) 30 - 15) (by unfold I64; omega)
   have o3 := rOf_m (nx t (adv t (adv t (adv t (adv t q)))) 30 - 15 + nx t (adv t (adv t (adv t (adv t (adv t q))))) 12) (by unfold I64; omega)
   have m1 := make_m (nx t (adv t (adv t (adv t (adv t q)))) 30 - 15) (smD t (adv t (adv t (adv t q)))) (by omega) (by omega) (by omega)
   have m2 := make_m (nx t (adv t (adv t (adv t (adv t q)))) 30 - 15 + nx t (adv t (adv t (adv t (adv t (adv t q))))) 12) (smD t (adv t (adv t (adv t q)))) (by omega) (by omega) (by omega)
   rw [hd] at m1 m2
   (repeat' (first | refine r_95e112 ?_ | (refine is_f 12 ?_; refine r_92fba5 (next_m t q 3 ht htn (by omega)) ?_) | (refine is_f 12 ?_; refine r_92fba5 (next_m t (adv t q) 3 ht htn (by omega)) ?_) | (refine is_f 19 ?_; refine r_e7cc0f (cS) ?_) | (refine is_f 20 ?_; refine r_92fba5 (cB) ?_) | (refine is_f 12 ?_; refine r_92fba5 (next_m t (adv t (adv t (adv t q))) 4 ht htn (by omega)) ?_) | (refine is_f 12 ?_; refine r_92fba5 (next_m t (adv t (adv t (adv t (adv t q)))) 30 ht htn (by omega)) ?_) | (refine is_f 12 ?_; refine r_92fba5 (next_m t (adv t (adv t (adv t (adv t (adv t q))))) 12 ht htn (by omega)) ?_) | (refine is_f 21 ?_; refine r_e7cc0f (o1) ?_) | (refine is_f 21 ?_; refine r_e7cc0f (o2) ?_) | (refine is_f 21 ?_; refine r_e7cc0f (o3) ?_) | (refine is_f 22 ?_; refine r_e7cc0f (m1) ?_) | (refine is_f 22 ?_; refine r_e7cc0f (m2) ?_) | (refine r_0efca5 (fun hb => ?_) (fun hb => ?_) <;> (try (exfalso; omega))) | fail))
   all_goals refine ⟨(i, adv t (adv t (adv t (adv t (adv t (adv t q))))), acc ++ [smO1 t q (i + 1) (smC t (adv t (adv t (adv t q))))]), ⟨hx1, (by simp; omega)⟩, ?_, (by show i < i + 1; omega)⟩
   all_goals show Le _ _ (smT t (i, adv t (adv t (adv t (adv t (adv t (adv t q))))), acc ++ [smO1 t q (i + 1) (smC t (adv t (adv t (adv t q))))]))
   all_goals unfold smT
   all_goals dsimp only
   all_goals refine Le.mk [(0, 0), (1, 7)] [] rfl (by (repeat' (first | exact le_nil | refine le_na ?_ | refine le_r ?_ rfl rfl | refine le_int ?_ (by omega) rfl | refine le_ow ?_ rfl rfl | refine le_pt ?_ rfl rfl | refine le_fz ?_ rfl q_bf1c9 rfl rfl | refine le_sv ?_ rfl rfl | refine le_ol ?_ rfl rfl | refine le_ag ?_ ?_ rfl | refine le_cl ?_ ?_ rfl | refine cfl_pt ?_ rfl | refine cfl_r ?_ rfl | refine cfl_rp ?_ rfl | exact CfL.nil))) ?_ (fun g h => nomatch h)
   all_goals exact ⟨⟨_, rfl, .var _ _ _ (.cons _ _ _ _ (.r _) (.cons _ _ _ _ (.r _) .nil))⟩, ⟨_, rfl, by rw [← hE]; exact .row _ _ _⟩, trivial⟩
end Go.Proofs.YtibedaeefnjjlaaGreat
namespace Go.Proofs.YtibedaeefnjjlaaGreat
open Go.RowKit Go.Ab Go.Wd
def SCn (c : Cn) : Prop := c = ⟨true, 0, 0, 0, 0⟩ ∨ (c.o = false ∧ VS c.p c.q ∧ VS c.r c.s ∧ c.p * c.s ≤ c.r * c.q)
theorem SCn.ok {c : Cn} (h : SCn c) : c.ok := by
 rcases h with rfl | ⟨h1, h2, h3, h4⟩
 ·exact .inl ⟨rfl, rfl, rfl, rfl, rfl⟩
 ·exact .inr ⟨h1, h2.1, h3.1, h4⟩
theorem mkQ_VS (m : Int) (d : Nat) (hd : 0 < d) (hm : m.natAbs < B64) (hd2 : d < B64) : VS (mkQ m d).1 (mkQ m d).2 := by
 obtain ⟨h1, h2, h3, h4, h5⟩ := mkQ_mul m d hd
 exact ⟨⟨h2, B64_N127 (by omega), B64_N127 (by omega), h5⟩, by omega, by omega⟩
theorem smC_ok (t : List Int) (q : Nat) : SCn (smC t q) := by
 have n4 := nx_range t q (show (1 : Int) ≤ 4 by omega)
 have n5 := nx_range t (adv t q) (show (1 : Int) ≤ 30 by omega)
 have n6 := nx_range t (adv t (adv t q)) (show (1 : Int) ≤ 12 by omega)
 have hB : B64 = 18446744073709551616 := rfl
 have hd : 0 < smD t q ∧ smD t q ≤ 4 := by unfold smD; omega
 exact .inr ⟨rfl, mkQ_VS _ _ hd.1 (by omega) (by omega), mkQ_VS _ _ hd.1 (by omega) (by omega), mkQ_le _ _ _ hd.1 (by omega)⟩
structure SmOk (l : List Pc) : Prop where
 c : ∀ x ∈ l, SCn x.c
 ix : ∀ x ∈ l, 0 ≤ x.ix ∧ x.ix < 1000
 ky : ∀ x ∈ l, 0 ≤ x.ky ∧ x.ky < 3
 nd : (l.map Pc.ix).Nodup
 len : l.length ≤ 13
theorem SmOk.pc {l : List Pc} (h : SmOk l) : PcOk l := ⟨fun x hx => (h.c x hx).ok, fun x hx => (h.ix x hx).1, h.nd⟩
theorem smG_ok (t : List Int) : ∀ (i q : Nat) (acc : List Pc), (∀ x ∈ acc, SCn x.c ∧ (3 * (i : Int) + 3 ≤ x.ix ∧ x.ix < 1000) ∧ 0 ≤ x.ky ∧ x.ky < 3) → (acc.map Pc.ix).Nodup → acc.length + i ≤ 13 → SmOk (smG t i q acc).1
 | 0, q, acc, h, hn, hl => ⟨fun x hx => (h x hx).1, fun x hx => by have := (h x hx).2.1; omega, fun x hx => (h x hx).2.2, hn, (by show acc.length ≤ 13; omega)⟩
 | i + 1, q, acc, h, hn, hl => by
  rw [smG]
  have n1 := nx_range t q (show (1 : Int) ≤ 3 by omega)
  have n2 := nx_range t (adv t q) (show (1 : Int) ≤ 3 by omega)
  have hx : SCn (smP t q (i + 1)).1.c ∧ (smP t q (i + 1)).1.ix = 3 * ((i + 1 : Nat) : Int) + nx t q 3 ∧ (smP t q (i + 1)).1.ky = nx t (adv t q) 3 := by
   unfold smP
   split
   ·exact ⟨.inl rfl, rfl, rfl⟩
   ·exact ⟨smC_ok _ _, rfl, rfl⟩
  generalize smP t q (i + 1) = X at *
  obtain ⟨x1, x2, x3⟩ := hx
  refine smG_ok t i X.2 (acc ++ [X.1]) (fun x hx => ?_) ?_ (by simp; omega)
  ·rcases List.mem_append.1 hx with hx | hx
   ·have := h x hx; exact ⟨this.1, by have := this.2.1; omega, this.2.2⟩
   ·rw [List.mem_singleton] at hx; subst hx; exact ⟨x1, by omega, by omega⟩
  ·rw [List.map_append, List.nodup_append]
   refine ⟨hn, by simp, fun a ha b hb => ?_⟩
   simp at hb
   subst hb
   obtain ⟨y, hy, rfl⟩ := List.mem_map.1 ha
   have := (h y hy).2.1
   omega
theorem smL_ok (t : List Int) (k : Nat) : SmOk (smL t k).1 := by
 have h1 := nx_range t k (show (1 : Int) ≤ 14 by omega)
 exact smG_ok t _ _ [] (fun x hx => nomatch hx) .nil (by simp; omega)
end Go.Proofs.YtibedaeefnjjlaaGreat
namespace Go.Ab
open Go.RowKit
theorem Meets.freezeP {P : Program} {f : FuncId} {args : List AV} {b b' : Blk} {T sz : Nat} {es : List (List RV)} (hid : b'.ids = []) (h : Meets P f args [b] (.fr T sz es) [some b']) : Meets P f args [b] (.r (.sl sz es)) [some b'] := by
 intro w Z M k us hM hk hargs hpre hd
 refine (h w Z M k us hM hk hargs hpre hd).mono fun e w' ⟨v, he, Z', A⟩ => ⟨v, he, Z, fun _ _ => rfl, ?_, ?_, fun j b h => by simp [callSp, AV.unfr] at h, fun j j' x h => by simp [callSp, AV.unfr] at h, fun j x h => by simp [callSp, AV.unfr] at h, A.upto⟩
 ·have h1 := A.out
  have h2 := A.fr 0 (.row T sz es) (by simp [callSp, AV.unfr])
  have h3 := A.fresh 0
  simp only [callSp, AV.unfr, AV.rep, Nat.add_zero] at h1 h2 h3 ⊢
  rw [h1]
  refine row_read h2 (fun q _ hq => hq.imp (fun h => h) (fun ⟨j, hj, _⟩ => by simp at hj)) fun x hx hn => ?_
  have h4 := h3 x (by simp) hx
  rcases hn with h0 | ⟨j, hj, _⟩
  ·rcases h4 with h4 | ⟨i, hi, _⟩
   ·have := hM x h0; omega
   ·simp [numdP] at hi
  ·simp at hj
 ·intro i c hc
  have h5 : i = 0 ∧ c = b' := by simpa [callSp, numdP] using hc
  obtain ⟨rfl, rfl⟩ := h5
  have h6 := A.up 0 c (by simp [callSp, numdP])
  have hz := A.z 0 (.inl (by simp at hk; omega))
  exact held_move h6 hz.symm hid (fun q _ hq => hq.imp (fun h => h) (fun ⟨j, hj, _⟩ => by simp [callSp, AV.unfr] at hj))
end Go.Ab
namespace Go.Proofs.YtibedaeefnjjlaaGreat
open Go.RowKit Go.Ab Go.Wd
def tolv (l : List Int) (k : Nat) : Int × Nat :=
 if nx l k 8 = 0 then (0, adv l k)
 else if nx l k 8 = 1 then (4611686018427387904 - nx l (adv l k) 2, adv l (adv l k))
 else if nx l k 8 = 2 then (IntKind.i64.wrap ((wds l (adv l k) 4).1.fdiv (2 ^ min (2 + nx l (wds l (adv l k) 4).2 60).toNat (IntKind.bits .u64))), adv l (wds l (adv l k) 4).2)
 else (nx l (adv l k) 30, adv l (adv l k))
set_option maxHeartbeats 2000000 in
theorem tapeTol_m (l : List Int) (k : Nat) (hl : Ints l) (hn : l.length ≤ 140737488351232) : Meets Tryz.prog 11 [.pt 0 0] [tb l k] (.r (.v (.int .i64 (tolv l k).1))) [some (tb l (tolv l k).2)] := by
 refine fn_of Tryz.func11 rfl (Nat.le_of_ble_eq_true rfl) rfl rfl ?_
 have h8 := nx_range l k (show (1 : Int) ≤ 8 by omega)
 have h2 := nx_range l (adv l k) (show (1 : Int) ≤ 2 by omega)
 have h30 := nx_range l (adv l k) (show (1 : Int) ≤ 30 by omega)
 have h60 := nx_range l (wds l (adv l k) 4).2 (show (1 : Int) ≤ 60 by omega)
 (repeat' (first | refine r_95e112 ?_ | (refine is_f 12 ?_; refine r_92fba5 (next_m l k 8 hl hn (by omega)) ?_) | (refine is_f 12 ?_; refine r_92fba5 (next_m l (adv l k) 2 hl hn (by omega)) ?_) | (refine is_f 12 ?_; refine r_92fba5 (next_m l (adv l k) 30 hl hn (by omega)) ?_) | (refine is_f 12 ?_; refine r_92fba5 (next_m l (wds l (adv l k) 4).2 60 hl hn (by omega)) ?_) | (refine is_f 29 ?_; refine r_92fba5 (word_m l (adv l k) hl hn) ?_) | (refine r_0efca5 (fun hb => ?_) (fun hb => ?_) <;> (try (exfalso; omega))) | fail))
 all_goals (unfold tolv; (repeat' split) <;> (try (exfalso; omega)) <;> exact ret1P [] (.int rfl) rfl rfl (post_one rfl rfl) rfl)
theorem wds_range (l : List Int) (k : Nat) : ∀ j, 0 ≤ (wds l k j).1 ∧ (wds l k j).1 < 18446744073709551616
 | 0 => by unfold wds; exact ⟨Int.le_refl _, by show (0 : Int) < _; decide⟩
 | j + 1 => by
  unfold wds
  simp only [IntKind.wrap_u64]
  omega
theorem tolv_range (l : List Int) (k : Nat) : 0 ≤ (tolv l k).1 ∧ (tolv l k).1 ≤ 4611686018427387904 := by
 have h2 := nx_range l (adv l k) (show (1 : Int) ≤ 2 by omega)
 have h30 := nx_range l (adv l k) (show (1 : Int) ≤ 30 by omega)
 have h60 := nx_range l (wds l (adv l k) 4).2 (show (1 : Int) ≤ 60 by omega)
 have hw := wds_range l (adv l k) 4
 unfold tolv
 (repeat' split)
 ·simp only; omega
 ·simp only; omega
 ·simp only
  generalize (wds l (adv l k) 4).1 = x at *
  generalize nx l (wds l (adv l k) 4).2 60 = s at *
  obtain ⟨y, rfl⟩ := Int.eq_ofNat_of_zero_le hw.1
  obtain ⟨e, he⟩ : ∃ e : Nat, min (2 + s).toNat (IntKind.bits .u64) = 2 + e := ⟨s.toNat, by simp [IntKind.bits]; omega⟩
  rw [he]
  have h1 : (y : Int).fdiv (2 ^ (2 + e)) = ((y / 2 ^ (2 + e) : Nat) : Int) := by
   rw [Int.fdiv_eq_ediv_of_nonneg _ (Int.pow_nonneg (by omega))]
   push_cast
   rfl
  have h3 : y / 2 ^ (2 + e) ≤ y / 4 := by
   rw [Nat.pow_add, ← Nat.div_div_eq_div_mul]
   exact Nat.div_le_self _ _
  rw [h1]
  generalize y / 2 ^ (2 + e) = d at *
  rw [IntWalk.i64_in _ (by omega)]
  omega
 ·simp only; omega
theorem some_z (t : List Int) (k : Nat) (ht : Ints t) (htn : t.length ≤ 140737488351232) : Meets Tryz.prog 8 [.pt 0 0] [tb t k] (.r (.sl 24 (pcs (smL t k).1))) [some (tb t (smL t k).2)] :=
 Meets.freezeP rfl (some_m t k ht htn)
end Go.Proofs.YtibedaeefnjjlaaGreat
namespace Go.Proofs.YtibedaeefnjjlaaGreat
open Go.RowKit Go.Ab Go.Wd
theorem posF_in : ∀ (N a b c d : Nat), b + d ≤ N → 0 < b → 0 < d → a * d ≤ c * b → a * (posF a b c d).2 ≤ (posF a b c d).1 * b ∧ (posF a b c d).1 * d ≤ c * (posF a b c d).2 ∧ 0 < (posF a b c d).2 ∧ Nat.gcd (posF a b c d).1 (posF a b c d).2 = 1
 | 0, a, b, c, d, hN, hb, hd, _ => by omega
 | N + 1, a, b, c, d, hN, hb, hd, hle => by
  have ea := Nat.mod_add_div a b
  have ec := Nat.mod_add_div c d
  have hra := Nat.mod_lt a hb
  have hrc := Nat.mod_lt c hd
  rw [posF]
  split
  ·rename_i h
   have hr : a % b = 0 := by omega
   rw [hr, Nat.zero_add] at ea
   refine ⟨?_, ?_, Nat.one_pos, Nat.gcd_one_right _⟩
   ·show a * 1 ≤ a / b * b
    rw [Nat.mul_one, Nat.mul_comm (a / b) b]; omega
   ·show a / b * d ≤ c * 1
    rw [Nat.mul_one]
    refine Nat.le_of_mul_le_mul_left (c := b) ?_ hb
    rw [← Nat.mul_assoc, ea, Nat.mul_comm b c]; exact hle
  ·rename_i h
   split
   ·rename_i hq
    refine ⟨?_, ?_, Nat.one_pos, Nat.gcd_one_right _⟩
    ·show a * 1 ≤ (a / b + 1) * b
     rw [Nat.mul_one, Nat.add_mul, Nat.one_mul, Nat.mul_comm (a / b) b]; omega
    ·show (a / b + 1) * d ≤ c * 1
     have h1 : (a / b + 1) * d ≤ c / d * d := Nat.mul_le_mul hq (Nat.le_refl d)
     have h2 := Nat.div_mul_le_self c d
     omega
   ·rename_i hq
    obtain ⟨he, hi, hs⟩ := posF_rest hb hd hle (by omega) hq
    obtain ⟨i1, i2, i3, i4⟩ := posF_in N d (c % d) b (a % b) (by omega) hs (by omega) hi
    generalize posF d (c % d) b (a % b) = R at *
    obtain ⟨n, m⟩ := R
    simp only at *
    have hn : 0 < n := by
     rcases Nat.eq_zero_or_pos n with h | h
     ·subst h
      have : 0 < d * m := Nat.mul_pos hd i3
      omega
     ·exact h
    generalize a % b = r at *
    generalize c % d = s at *
    rw [he] at ea ⊢
    generalize c / d = q at *
    refine ⟨?_, ?_, hn, ?_⟩
    ·rw [← ea, Nat.add_mul, Nat.add_mul]
     have e1 : b * q * n = q * n * b := by simp only [Nat.mul_assoc, Nat.mul_comm, Nat.mul_left_comm]
     have e2 : n * r = r * n := Nat.mul_comm _ _
     have e3 : b * m = m * b := Nat.mul_comm _ _
     omega
    ·rw [← ec, Nat.add_mul, Nat.add_mul]
     have e1 : q * n * d = d * q * n := by simp only [Nat.mul_assoc, Nat.mul_comm, Nat.mul_left_comm]
     have e2 : n * s = s * n := Nat.mul_comm _ _
     have e3 : d * m = m * d := Nat.mul_comm _ _
     omega
    ·rw [Nat.mul_comm q n, Nat.gcd_comm, Nat.add_comm, Nat.gcd_add_mul_left_right]; exact i4
theorem btw_in (a b c d : Int) (hb : 0 < b) (hd : 0 < d) (hle : a * d ≤ c * b) :
  a * (btw a b c d).2 ≤ (btw a b c d).1 * b ∧ (btw a b c d).1 * d ≤ c * (btw a b c d).2 ∧ 0 < (btw a b c d).2 ∧ Nat.gcd (btw a b c d).1.natAbs (btw a b c d).2.natAbs = 1 ∧ (btw a b c d).1.natAbs ≤ a.natAbs + c.natAbs ∧ ((btw a b c d).1.natAbs ≤ a.natAbs ∨ (btw a b c d).1.natAbs ≤ c.natAbs) ∧ (btw a b c d).2.natAbs ≤ b.natAbs := by
 obtain ⟨b, rfl⟩ : ∃ n : Nat, b = (n : Int) := ⟨b.toNat, by omega⟩
 obtain ⟨d, rfl⟩ : ∃ n : Nat, d = (n : Int) := ⟨d.toNat, by omega⟩
 unfold btw
 split
 ·rename_i hc
  obtain ⟨c', rfl⟩ : ∃ n : Nat, c = -(n : Int) := ⟨c.natAbs, by omega⟩
  have ha : a < 0 := by
   rcases Int.lt_or_le a 0 with h | h
   ·exact h
   ·have h1 : 0 ≤ a * (d : Int) := Int.mul_nonneg h (by omega)
    have h2 : -(c' : Int) * (b : Int) < 0 := Int.mul_neg_of_neg_of_pos hc (by omega)
    omega
  obtain ⟨a', rfl⟩ : ∃ n : Nat, a = -(n : Int) := ⟨a.natAbs, by omega⟩
  simp only [Int.natAbs_neg, Int.natAbs_natCast]
  have hle' : c' * b ≤ a' * d := by
   rw [Int.neg_mul, Int.neg_mul] at hle
   have : ((c' * b : Nat) : Int) ≤ ((a' * d : Nat) : Int) := by rw [Int.natCast_mul, Int.natCast_mul]; omega
   omega
  obtain ⟨p1, p2, p3, p4⟩ := posF_in _ c' d a' b (Nat.le_refl _) (by omega) (by omega) hle'
  obtain ⟨q1, q2, q3, q4⟩ := posF_le _ c' d a' b (Nat.le_refl _) (by omega) (by omega) hle'
  generalize posF c' d a' b = R at *
  obtain ⟨n, m⟩ := R
  simp only at *
  refine ⟨?_, ?_, by omega, p4, by omega, .inl q2, q4⟩
  ·rw [Int.neg_mul, Int.neg_mul, ← Int.natCast_mul, ← Int.natCast_mul]; omega
  ·rw [Int.neg_mul, Int.neg_mul, ← Int.natCast_mul, ← Int.natCast_mul]; omega
 ·rename_i hc
  split
  ·rename_i ha
   refine ⟨by simp; omega, by simp; omega, by simp, by simp, by simp, by simp, by simp; omega⟩
  ·rename_i ha
   obtain ⟨a, rfl⟩ : ∃ n : Nat, a = (n : Int) := ⟨a.toNat, by omega⟩
   obtain ⟨c, rfl⟩ : ∃ n : Nat, c = (n : Int) := ⟨c.toNat, by omega⟩
   simp only [Int.natAbs_natCast]
   rw [← Int.natCast_mul, ← Int.natCast_mul] at hle
   have hle' : a * d ≤ c * b := by omega
   obtain ⟨p1, p2, p3, p4⟩ := posF_in _ a b c d (Nat.le_refl _) (by omega) (by omega) hle'
   obtain ⟨q1, q2, q3, q4⟩ := posF_le _ a b c d (Nat.le_refl _) (by omega) (by omega) hle'
   generalize posF a b c d = R at *
   obtain ⟨n, m⟩ := R
   simp only at *
   refine ⟨?_, ?_, by omega, p4, by omega, .inl q1, q3⟩
   ·rw [← Int.natCast_mul, ← Int.natCast_mul]; omega
   ·rw [← Int.natCast_mul, ← Int.natCast_mul]; omega
end Go.Proofs.YtibedaeefnjjlaaGreat
namespace Go.Proofs.YtibedaeefnjjlaaGreat
open Go.RowKit Go.Ab Go.Wd
def fle (a b : Int × Int) : Prop := a.1 * b.2 ≤ b.1 * a.2
def flt (a b : Int × Int) : Prop := a.1 * b.2 < b.1 * a.2
theorem fle_trans {a b c : Int × Int} (ha : 0 < a.2) (hb : 0 < b.2) (hc : 0 < c.2) (h1 : fle a b) (h2 : fle b c) : fle a c := by
 unfold fle at *
 have e1 := Int.mul_le_mul_of_nonneg_right h1 (Int.le_of_lt hc)
 have e2 := Int.mul_le_mul_of_nonneg_right h2 (Int.le_of_lt ha)
 refine Int.le_of_mul_le_mul_right (a := b.2) ?_ hb
 calc a.1 * c.2 * b.2 = a.1 * b.2 * c.2 := by rw [Int.mul_right_comm]
  _ ≤ b.1 * a.2 * c.2 := e1
  _ = b.1 * c.2 * a.2 := by rw [Int.mul_right_comm]
  _ ≤ c.1 * b.2 * a.2 := e2
  _ = c.1 * a.2 * b.2 := by rw [Int.mul_right_comm]
theorem not_fle {a b : Int × Int} : ¬ fle a b ↔ flt b a := by unfold fle flt; omega
theorem not_flt {a b : Int × Int} : ¬ flt a b ↔ fle b a := by unfold fle flt; omega
theorem flt.le {a b : Int × Int} (h : flt a b) : fle a b := by unfold fle flt at *; omega
theorem flt_le {a b c : Int × Int} (ha : 0 < a.2) (hb : 0 < b.2) (hc : 0 < c.2) (h1 : flt a b) (h2 : fle b c) : flt a c :=
 not_fle.1 fun h => not_fle.2 h1 (fle_trans hb hc ha h2 h)
theorem fle_lt {a b c : Int × Int} (ha : 0 < a.2) (hb : 0 < b.2) (hc : 0 < c.2) (h1 : fle a b) (h2 : flt b c) : flt a c :=
 not_fle.1 fun h => not_fle.2 h2 (fle_trans hc ha hb h h1)
theorem fle_refl (a : Int × Int) : fle a a := Int.le_refl _
def Cn.lo (c : Cn) : Int × Int := (c.p, c.q)
def Cn.hi (c : Cn) : Int × Int := (c.r, c.s)
theorem Cn.ok.pos {c : Cn} (h : c.ok) (ho : c.o = false) : 0 < c.lo.2 ∧ 0 < c.hi.2 ∧ fle c.lo c.hi := by
 rcases h with ⟨h, _⟩ | ⟨_, h1, h2, h3⟩
 ·rw [ho] at h; cases h
 ·exact ⟨h1.1, h2.1, h3⟩
def subC (g x : Cn) : Prop := x.o = true ∨ (g.o = false ∧ x.o = false ∧ fle x.lo g.lo ∧ fle g.hi x.hi)
theorem subC_refl (x : Cn) : subC x x := by
 cases h : x.o with
 | true => exact .inl h
 | false => exact .inr ⟨h, h, fle_refl _, fle_refl _⟩
theorem cmpC_le {a b : Cn} (hb : b.ok) (h : cmpC a b ≤ 0) (ho : a.o = false) : b.o = false ∧ fle a.lo b.lo := by
 unfold cmpC at h
 rw [ho] at h
 simp only [Bool.false_eq_true, if_false] at h
 cases hb : b.o with
 | true => rw [hb] at h; simp at h
 | false =>
  rw [hb] at h
  simp only [Bool.false_eq_true, if_false, orL2] at h
  refine ⟨rfl, ?_⟩
  show a.p * b.q ≤ b.p * a.q
  rw [← cmpZ_le0]
  split at h
  ·exact h
  ·rename_i e; simp at e; omega
theorem cmpP_le {a b : Pc} (h : cmpP a b ≤ 0) : a.ky ≤ b.ky ∧ (a.ky = b.ky → cmpC a.c b.c ≤ 0) := by
 rw [cmpP_or] at h
 have z : ∀ x y : Int, cmpZ x y ≤ 0 ↔ x ≤ y := fun x y => cmpZ_le0
 have z0 : ∀ x y : Int, cmpZ x y = 0 ↔ x = y := fun x y => by unfold cmpZ; split <;> (try split) <;> constructor <;> omega
 split at h
 ·rename_i e
  rw [z] at h
  exact ⟨h, fun hk => absurd ((z0 _ _).2 hk) e⟩
 ·rename_i e
  simp only [ne_eq, Decidable.not_not] at e
  refine ⟨by rw [(z0 _ _).1 e]; exact Int.le_refl _, fun _ => ?_⟩
  split at h
  ·exact h
  ·rename_i e2; simp at e2; omega
theorem meet_sub {a b c : Cn} (ha : a.ok) (hb : b.ok) (h : meetC a b = some c) :
  (a.o = true ∧ c = b) ∨ (a.o = false ∧ b.o = true ∧ c = a) ∨
  (a.o = false ∧ b.o = false ∧ c.o = false ∧ fle a.lo c.lo ∧ fle b.lo c.lo ∧ fle c.hi a.hi ∧ fle c.hi b.hi ∧ (c.lo = a.lo ∨ c.lo = b.lo) ∧ (c.hi = a.hi ∨ c.hi = b.hi)) := by
 unfold meetC at h
 cases hao : a.o with
 | true => rw [hao] at h; simp only [if_true, Option.some.injEq] at h; exact .inl ⟨rfl, h.symm⟩
 | false =>
  cases hbo : b.o with
  | true => rw [hao, hbo] at h; simp only [if_true, Bool.false_eq_true, if_false, Option.some.injEq] at h; exact .inr (.inl ⟨rfl, rfl, h.symm⟩)
  | false =>
   rw [hao, hbo] at h
   simp only [Bool.false_eq_true, if_false] at h
   split at h
   ·injection h with h
    subst h
    refine .inr (.inr ⟨rfl, rfl, rfl, ?_⟩)
    have e1 : (mLo a.p a.q b.p b.q = a.lo ∧ fle b.lo a.lo) ∨ (mLo a.p a.q b.p b.q = b.lo ∧ fle a.lo b.lo) := by
     unfold mLo
     split
     ·rename_i e; exact .inr ⟨rfl, flt.le e⟩
     ·rename_i e; exact .inl ⟨rfl, not_flt.1 e⟩
    have e2 : (mHi a.r a.s b.r b.s = a.hi ∧ fle a.hi b.hi) ∨ (mHi a.r a.s b.r b.s = b.hi ∧ fle b.hi a.hi) := by
     unfold mHi
     split
     ·rename_i e; exact .inr ⟨rfl, flt.le e⟩
     ·rename_i e; exact .inl ⟨rfl, not_flt.1 e⟩
    show fle a.lo (mLo a.p a.q b.p b.q) ∧ fle b.lo (mLo a.p a.q b.p b.q) ∧ fle (mHi a.r a.s b.r b.s) a.hi ∧ fle (mHi a.r a.s b.r b.s) b.hi ∧ (mLo a.p a.q b.p b.q = a.lo ∨ mLo a.p a.q b.p b.q = b.lo) ∧ (mHi a.r a.s b.r b.s = a.hi ∨ mHi a.r a.s b.r b.s = b.hi)
    rcases e1 with ⟨e1, f1⟩ | ⟨e1, f1⟩ <;> rcases e2 with ⟨e2, f2⟩ | ⟨e2, f2⟩ <;> rw [e1, e2]
    ·exact ⟨fle_refl _, f1, fle_refl _, f2, .inl rfl, .inl rfl⟩
    ·exact ⟨fle_refl _, f1, f2, fle_refl _, .inl rfl, .inr rfl⟩
    ·exact ⟨f1, fle_refl _, fle_refl _, f2, .inr rfl, .inl rfl⟩
    ·exact ⟨f1, fle_refl _, f2, fle_refl _, .inr rfl, .inr rfl⟩
   ·cases h
theorem meet_no {a b : Cn} (ha : a.ok) (hb : b.ok) (hle : a.o = false → b.o = false ∧ fle a.lo b.lo) (h : meetC a b = none) : a.o = false ∧ b.o = false ∧ flt a.hi b.lo := by
 unfold meetC at h
 cases hao : a.o with
 | true => rw [hao] at h; simp at h
 | false =>
  obtain ⟨hbo, hlo⟩ := hle hao
  rw [hao, hbo] at h
  simp only [Bool.false_eq_true, if_false] at h
  split at h
  ·cases h
  ·rename_i h1
   refine ⟨rfl, hbo, ?_⟩
   obtain ⟨a1, a2, a3⟩ := ha.pos hao
   obtain ⟨b1, b2, b3⟩ := hb.pos hbo
   have e1 : fle (mLo a.p a.q b.p b.q) b.lo ∧ 0 < (mLo a.p a.q b.p b.q).2 := by
    unfold mLo
    split
    ·exact ⟨fle_refl _, b1⟩
    ·exact ⟨hlo, a1⟩
   have e2 : mHi a.r a.s b.r b.s = a.hi ∨ mHi a.r a.s b.r b.s = b.hi := by
    unfold mHi; split
    ·exact .inr rfl
    ·exact .inl rfl
   refine not_fle.1 fun hf => h1 ?_
   show fle (mLo a.p a.q b.p b.q) (mHi a.r a.s b.r b.s)
   rcases e2 with e2 | e2 <;> rw [e2]
   ·exact fle_trans e1.2 b1 a2 e1.1 hf
   ·exact fle_trans e1.2 b1 b2 e1.1 b3
structure GInv (S : List Pc) (gs : List Gr) : Prop where
 fl : (gs.map Gr.ss).flatten = S.map Pc.ix
 ok : ∀ g ∈ gs, g.c.ok
 ne : ∀ g ∈ gs, ∃ x ∈ S, x.ix ∈ g.ss
 sub : ∀ g ∈ gs, ∀ x ∈ S, x.ix ∈ g.ss → g.ky = x.ky ∧ subC g.c x.c
 hi : ∀ g ∈ gs, g.c.o = false → ∃ x ∈ S, x.ix ∈ g.ss ∧ x.c.o = false ∧ x.c.hi = g.c.hi
 lo : ∀ g ∈ gs, g.c.o = false → ∃ x ∈ S, x.ix ∈ g.ss ∧ x.c.o = false ∧ x.c.lo = g.c.lo
 ap : gs.Pairwise fun g g' => g.ky ≤ g'.ky ∧ (g.ky = g'.ky → g.c.o = false ∧ g'.c.o = false ∧ ∀ x ∈ S, x.ix ∈ g'.ss → x.c.o = false ∧ flt g.c.hi x.c.lo)
theorem GInv.mem {S : List Pc} {gs : List Gr} (h : GInv S gs) {g : Gr} (hg : g ∈ gs) {z : Int} (hz : z ∈ g.ss) : z ∈ S.map Pc.ix := by
 rw [← h.fl]
 exact List.mem_flatten.2 ⟨_, List.mem_map_of_mem hg, hz⟩
theorem GInv.mk1 {S : List Pc} {gs : List Gr} {x : Pc} (h : GInv S gs) (hx : x.c.ok) (hf : x.ix ∉ S.map Pc.ix)
  (ha : ∀ g ∈ gs, g.ky ≤ x.ky ∧ (g.ky = x.ky → g.c.o = false ∧ x.c.o = false ∧ flt g.c.hi x.c.lo)) : GInv (S ++ [x]) (gs ++ [newG x]) := by
 have old : ∀ g ∈ gs, ∀ y ∈ S ++ [x], y.ix ∈ g.ss → y ∈ S := fun g hg y hy hi => by
  rcases List.mem_append.1 hy with hy | hy
  ·exact hy
  ·rw [List.mem_singleton] at hy; subst hy; exact absurd (h.mem hg hi) hf
 have new : ∀ y ∈ S ++ [x], y.ix ∈ (newG x).ss → y = x := fun y hy hi => by
  rcases List.mem_append.1 hy with hy | hy
  ·simp [newG] at hi; exact absurd (hi ▸ List.mem_map_of_mem hy) hf
  ·exact List.mem_singleton.1 hy
 have hxm : x ∈ S ++ [x] := by simp
 have hxi : x.ix ∈ (newG x).ss := by simp [newG]
 refine ⟨by rw [List.map_append, List.flatten_append, h.fl]; simp [newG], ?_, ?_, ?_, ?_, ?_, ?_⟩
 ·intro g hg
  rcases List.mem_append.1 hg with hg | hg
  ·exact h.ok g hg
  ·rw [List.mem_singleton] at hg; subst hg; exact hx
 ·intro g hg
  rcases List.mem_append.1 hg with hg | hg
  ·obtain ⟨y, hy, hi⟩ := h.ne g hg; exact ⟨y, List.mem_append_left _ hy, hi⟩
  ·rw [List.mem_singleton] at hg; subst hg; exact ⟨x, hxm, hxi⟩
 ·intro g hg y hy hi
  rcases List.mem_append.1 hg with hg | hg
  ·exact h.sub g hg y (old g hg y hy hi) hi
  ·rw [List.mem_singleton] at hg; subst hg
   rw [new y hy hi]; exact ⟨rfl, subC_refl _⟩
 ·intro g hg ho
  rcases List.mem_append.1 hg with hg | hg
  ·obtain ⟨y, hy, hi⟩ := h.hi g hg ho; exact ⟨y, List.mem_append_left _ hy, hi⟩
  ·rw [List.mem_singleton] at hg; subst hg; exact ⟨x, hxm, hxi, ho, rfl⟩
 ·intro g hg ho
  rcases List.mem_append.1 hg with hg | hg
  ·obtain ⟨y, hy, hi⟩ := h.lo g hg ho; exact ⟨y, List.mem_append_left _ hy, hi⟩
  ·rw [List.mem_singleton] at hg; subst hg; exact ⟨x, hxm, hxi, ho, rfl⟩
 ·rw [List.pairwise_append]
  refine ⟨h.ap.imp_of_mem fun {a b} hma hmb hab => ⟨hab.1, fun hk => ⟨(hab.2 hk).1, (hab.2 hk).2.1, fun y hy hi => (hab.2 hk).2.2 y (old _ hmb y hy hi) hi⟩⟩, .cons (fun _ hm => nomatch hm) .nil, fun a hma b hmb => ?_⟩
  rw [List.mem_singleton] at hmb; subst hmb
  refine ⟨(ha a hma).1, fun hk => ?_⟩
  obtain ⟨a1, a2, a3⟩ := (ha a hma).2 hk
  exact ⟨a1, a2, fun y hy hi => by rw [new y hy hi]; exact ⟨a2, a3⟩⟩
theorem GInv.mk2 {S : List Pc} {gs : List Gr} {g : Gr} {x : Pc} {c : Cn} (h : GInv S (gs ++ [g])) (hS : ∀ y ∈ S, y.c.ok) (hx : x.c.ok) (hf : x.ix ∉ S.map Pc.ix) (hm : meetC g.c x.c = some c) (hk : g.ky = x.ky)
  (hs : ∀ y ∈ S, y.ky = x.ky → y.c.o = false → x.c.o = false ∧ fle y.c.lo x.c.lo) : GInv (S ++ [x]) (gs ++ [⟨g.ky, g.ss ++ [x.ix], c⟩]) := by
 have hgm : g ∈ gs ++ [g] := by simp
 have hgo := h.ok g hgm
 have hco := meetC_ok hgo hx hm
 have old : ∀ a ∈ gs ++ [g], ∀ y ∈ S ++ [x], y.ix ∈ a.ss → y ∈ S := fun a hg y hy hi => by
  rcases List.mem_append.1 hy with hy | hy
  ·exact hy
  ·rw [List.mem_singleton] at hy; subst hy; exact absurd (h.mem hg hi) hf
 have new : ∀ y ∈ S ++ [x], y.ix ∈ g.ss ++ [x.ix] → y = x ∨ (y ∈ S ∧ y.ix ∈ g.ss) := fun y hy hi => by
  rcases List.mem_append.1 hi with hi | hi
  ·exact .inr ⟨old g hgm y hy hi, hi⟩
  ·rcases List.mem_append.1 hy with hy | hy
   ·rw [List.mem_singleton] at hi; exact absurd (hi ▸ List.mem_map_of_mem hy) hf
   ·exact .inl (List.mem_singleton.1 hy)
 have hxm : x ∈ S ++ [x] := by simp
 have hxi : x.ix ∈ g.ss ++ [x.ix] := by simp
 have hc := meet_sub hgo hx hm
 have hap := h.ap
 rw [List.pairwise_append] at hap
 refine ⟨?_, ?_, ?_, ?_, ?_, ?_, ?_⟩
 ·have := h.fl
  rw [List.map_append, List.flatten_append] at this ⊢
  rw [List.map_append, ← this]
  simp
 ·intro a ha
  rcases List.mem_append.1 ha with ha | ha
  ·exact h.ok a (List.mem_append_left _ ha)
  ·rw [List.mem_singleton] at ha; subst ha; exact hco
 ·intro a ha
  rcases List.mem_append.1 ha with ha | ha
  ·obtain ⟨y, hy, hi⟩ := h.ne a (List.mem_append_left _ ha); exact ⟨y, List.mem_append_left _ hy, hi⟩
  ·rw [List.mem_singleton] at ha; subst ha; exact ⟨x, hxm, hxi⟩
 ·intro a ha y hy hi
  rcases List.mem_append.1 ha with ha | ha
  ·exact h.sub a (List.mem_append_left _ ha) y (old a (List.mem_append_left _ ha) y hy hi) hi
  ·rw [List.mem_singleton] at ha; subst ha
   rcases new y hy hi with rfl | ⟨hy', hi'⟩
   ·refine ⟨hk, ?_⟩
    rcases hc with ⟨_, rfl⟩ | ⟨h1, h2, rfl⟩ | ⟨h1, h2, h3, h4, h5, h6, h7, _⟩
    ·exact subC_refl _
    ·exact .inl h2
    ·exact .inr ⟨h3, h2, h5, h7⟩
   ·obtain ⟨s1, s2⟩ := h.sub g hgm y hy' hi'
    refine ⟨s1, ?_⟩
    rcases s2 with s2 | ⟨t1, t2, t3, t4⟩
    ·exact .inl s2
    ·obtain ⟨p1, p2, _⟩ := hgo.pos t1
     obtain ⟨q1, q2, _⟩ := (hS y hy').pos t2
     rcases hc with ⟨h1, _⟩ | ⟨h1, h2, rfl⟩ | ⟨h1, h2, h3, h4, h5, h6, h7, _⟩
     ·rw [t1] at h1; cases h1
     ·exact .inr ⟨t1, t2, t3, t4⟩
     ·obtain ⟨c1, c2, _⟩ := hco.pos h3
      exact .inr ⟨h3, t2, fle_trans q1 p1 c1 t3 h4, fle_trans c2 p2 q2 h6 t4⟩
 ·intro a ha ho
  rcases List.mem_append.1 ha with ha | ha
  ·obtain ⟨y, hy, hi⟩ := h.hi a (List.mem_append_left _ ha) ho; exact ⟨y, List.mem_append_left _ hy, hi⟩
  ·rw [List.mem_singleton] at ha; subst ha
   have hg : g.c.o = false → ∃ y ∈ S ++ [x], y.ix ∈ g.ss ++ [x.ix] ∧ y.c.o = false ∧ y.c.hi = g.c.hi := fun h1 => by
    obtain ⟨y, hy, hi, e⟩ := h.hi g hgm h1
    exact ⟨y, List.mem_append_left _ hy, List.mem_append_left _ hi, e⟩
   rcases hc with ⟨_, rfl⟩ | ⟨h1, h2, rfl⟩ | ⟨h1, h2, h3, _, _, _, _, _, h4 | h4⟩
   ·exact ⟨x, hxm, hxi, ho, rfl⟩
   ·exact hg h1
   ·show ∃ y ∈ S ++ [x], y.ix ∈ g.ss ++ [x.ix] ∧ y.c.o = false ∧ y.c.hi = c.hi
    rw [h4]; exact hg h1
   ·exact ⟨x, hxm, hxi, h2, h4.symm⟩
 ·intro a ha ho
  rcases List.mem_append.1 ha with ha | ha
  ·obtain ⟨y, hy, hi⟩ := h.lo a (List.mem_append_left _ ha) ho; exact ⟨y, List.mem_append_left _ hy, hi⟩
  ·rw [List.mem_singleton] at ha; subst ha
   have hg : g.c.o = false → ∃ y ∈ S ++ [x], y.ix ∈ g.ss ++ [x.ix] ∧ y.c.o = false ∧ y.c.lo = g.c.lo := fun h1 => by
    obtain ⟨y, hy, hi, e⟩ := h.lo g hgm h1
    exact ⟨y, List.mem_append_left _ hy, List.mem_append_left _ hi, e⟩
   rcases hc with ⟨_, rfl⟩ | ⟨h1, h2, rfl⟩ | ⟨h1, h2, h3, _, _, _, _, h4 | h4, _⟩
   ·exact ⟨x, hxm, hxi, ho, rfl⟩
   ·exact hg h1
   ·show ∃ y ∈ S ++ [x], y.ix ∈ g.ss ++ [x.ix] ∧ y.c.o = false ∧ y.c.lo = c.lo
    rw [h4]; exact hg h1
   ·exact ⟨x, hxm, hxi, h2, h4.symm⟩
 ·rw [List.pairwise_append]
  refine ⟨hap.1.imp_of_mem fun {a b} hma hmb hab => ⟨hab.1, fun hk => ⟨(hab.2 hk).1, (hab.2 hk).2.1, fun y hy hi => (hab.2 hk).2.2 y (old _ (List.mem_append_left _ hmb) y hy hi) hi⟩⟩, .cons (fun _ hm => nomatch hm) .nil, fun a hma b hmb => ?_⟩
  rw [List.mem_singleton] at hmb; subst hmb
  obtain ⟨q1, q2⟩ := hap.2.2 a hma g (List.mem_singleton_self _)
  refine ⟨q1, fun hka => ?_⟩
  obtain ⟨r1, r2, r3⟩ := q2 hka
  obtain ⟨y0, hy0, hi0⟩ := h.ne g hgm
  obtain ⟨z1, z2⟩ := r3 y0 hy0 hi0
  have hky := (h.sub g hgm y0 hy0 hi0).1
  obtain ⟨w1, w2⟩ := hs y0 hy0 (by rw [← hky, hk]) z1
  have hao := h.ok a (List.mem_append_left _ hma)
  have hlt : flt a.c.hi x.c.lo := flt_le (hao.pos r1).2.1 ((hS y0 hy0).pos z1).1 (hx.pos w1).1 z2 w2
  refine ⟨r1, ?_, fun y hy hi => ?_⟩
  ·rcases hc with ⟨h1, _⟩ | ⟨h1, h2, rfl⟩ | ⟨h1, h2, h3, _⟩
   ·rw [r2] at h1; cases h1
   ·exact r2
   ·exact h3
  ·rcases new y hy hi with rfl | ⟨hy', hi'⟩
   ·exact ⟨w1, hlt⟩
   ·exact r3 y hy' hi'
theorem GInv.step {S : List Pc} {gs : List Gr} {x : Pc} (h : GInv S gs) (hS : ∀ y ∈ S, y.c.ok) (hx : x.c.ok) (hf : x.ix ∉ S.map Pc.ix) (hs : ∀ y ∈ S, cmpP y x ≤ 0) : GInv (S ++ [x]) (jn gs x) := by
 have hs1 : ∀ y ∈ S, y.ky = x.ky → y.c.o = false → x.c.o = false ∧ fle y.c.lo x.c.lo := fun y hy hk ho => cmpC_le hx ((cmpP_le (hs y hy)).2 hk) ho
 rcases List.eq_nil_or_concat gs with rfl | ⟨gs', g, rfl⟩
 ·rw [jn_nil]
  exact h.mk1 hx hf fun g hg => nomatch hg
 ·rw [List.concat_eq_append] at *
  rw [jn_snoc]
  have hgm : g ∈ gs' ++ [g] := by simp
  obtain ⟨y0, hy0, hi0⟩ := h.ne g hgm
  obtain ⟨hky, hsu⟩ := h.sub g hgm y0 hy0 hi0
  have hkx : g.ky ≤ x.ky := by rw [hky]; exact (cmpP_le (hs y0 hy0)).1
  split
  ·rename_i g2 hg2
   obtain ⟨c, hc, hk, rfl⟩ := jnTo_some hg2
   exact h.mk2 hS hx hf hc hk hs1
  ·rename_i hno
   refine h.mk1 hx hf fun a ha => ?_
   have hap := h.ap
   rw [List.pairwise_append] at hap
   rcases List.mem_append.1 ha with ha' | ha'
   ·obtain ⟨q1, q2⟩ := hap.2.2 a ha' g (List.mem_singleton_self _)
    refine ⟨by omega, fun hk => ?_⟩
    obtain ⟨r1, r2, r3⟩ := q2 (by omega)
    obtain ⟨z1, z2⟩ := r3 y0 hy0 hi0
    obtain ⟨w1, w2⟩ := hs1 y0 hy0 (by omega) z1
    exact ⟨r1, w1, flt_le ((h.ok a ha).pos r1).2.1 ((hS y0 hy0).pos z1).1 (hx.pos w1).1 z2 w2⟩
   ·rw [List.mem_singleton] at ha'; subst ha'
    refine ⟨hkx, fun hk => ?_⟩
    refine meet_no (h.ok a ha) hx (fun ho => ?_) ?_
    ·obtain ⟨y, hy, hi, e1, e2⟩ := h.lo a ha ho
     have := hs1 y hy (by rw [← (h.sub a ha y hy hi).1, hk]) e1
     rw [e2] at this; exact this
    ·rcases hm : meetC a.c x.c with _ | c
     ·rfl
     ·exact absurd hk (jnTo_none hno c hm)
theorem GInv.fold : ∀ (T S : List Pc) (gs : List Gr), GInv S gs → (∀ y ∈ S ++ T, y.c.ok) → ((S ++ T).map Pc.ix).Nodup → (S ++ T).Pairwise (fun a b => cmpP a b ≤ 0) → GInv (S ++ T) (T.foldl jn gs)
 | [], S, gs, h, _, _, _ => by rw [List.append_nil]; exact h
 | x :: T, S, gs, h, h1, h2, h3 => by
  have e : S ++ x :: T = S ++ [x] ++ T := by simp
  rw [List.foldl_cons]
  have h2' := h2
  have h3' := h3
  rw [e] at h1 h2 h3 ⊢
  refine GInv.fold T (S ++ [x]) (jn gs x) (h.step (fun y hy => h1 y (by simp [hy])) (h1 x (by simp)) ?_ ?_) h1 h2 h3
  ·rw [List.map_append, List.nodup_append] at h2'
   intro hm
   exact h2'.2.2 _ hm _ (by simp) rfl
  ·intro y hy
   exact (List.pairwise_append.1 h3').2.2 y hy x (List.mem_cons_self ..)
theorem sortP_pw {l : List Pc} (h : PcOk l) : (sortP l).Pairwise fun a b => cmpP a b ≤ 0 := by
 have h1 := List.pairwise_mergeSort (le := fun x y : { x : Pc // x.c.ok } => leP x.1 y.1) (fun a b c h1 h2 => by
  simp only [leP, decide_eq_true_eq] at *
  exact cmpP_ok.trans _ _ _ a.2 b.2 c.2 h1 h2) (fun a b => by
  simp only [leP, Bool.or_eq_true, decide_eq_true_eq]
  have := cmpP_ok.le b.2 a.2
  omega) (l.attach.map fun x => ⟨x.1, h.c x.1 x.2⟩)
 have h2 : ((l.attach.map fun x => (⟨x.1, h.c x.1 x.2⟩ : { x : Pc // x.c.ok })).map (·.1)).mergeSort leP = ((l.attach.map fun x => (⟨x.1, h.c x.1 x.2⟩ : { x : Pc // x.c.ok })).mergeSort fun x y => leP x.1 y.1).map (·.1) := (List.map_mergeSort (f := fun x : { x : Pc // x.c.ok } => x.1) (fun a _ b _ => rfl)).symm
 have e : (l.attach.map fun x => (⟨x.1, h.c x.1 x.2⟩ : { x : Pc // x.c.ok })).map (·.1) = l := by simp [List.map_map, Function.comp_def]
 unfold sortP
 rw [e] at h2
 rw [h2]
 refine List.pairwise_map.2 (h1.imp fun {a b} h => ?_)
 simpa [leP] using h
theorem gInv {l : List Pc} (h : PcOk l) : GInv (sortP l) ((sortP l).foldl jn []) := by
 have hp := h.perm (sortP_perm l)
 have h0 : GInv [] [] := ⟨rfl, fun _ h => (nomatch h), fun _ h => (nomatch h), fun _ h => (nomatch h), fun _ h => (nomatch h), fun _ h => (nomatch h), .nil⟩
 have := GInv.fold (sortP l) [] [] h0 (by simpa using hp.c) (by simpa using hp.nd) (by simpa using sortP_pw h)
 simpa using this
end Go.Proofs.YtibedaeefnjjlaaGreat
