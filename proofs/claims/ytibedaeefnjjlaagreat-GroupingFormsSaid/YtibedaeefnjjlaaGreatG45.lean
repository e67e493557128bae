/- Texts of the second layer in one: Gf2 Gf3. -/
import Derived.Test.YtibedaeefnjjlaaGreatG41
import Derived.Test.YtibedaeefnjjlaaGreatG43
import Derived.Test.YtibedaeefnjjlaaGreatG44
import Derived.Test.YtibedaeefnjjlaaGreatG8
import Derived.Test.YtibedaeefnjjlaaGreatG20
set_option maxHeartbeats 8000000
set_option maxRecDepth 100000
set_option linter.unusedVariables false
set_option linter.unusedSimpArgs false
namespace Go.Proofs.YtibedaeefnjjlaaGreat
open Go.RowKit Go.Ab Go.Wd
theorem zpp (T : Nat) (l : List Pc) : (AV.fr T 24 (pcs l)).vals := by
 simp only [AV.vals]
 intro e he x hx
 unfold pcs at he
 obtain ⟨a, _, rfl⟩ := List.mem_map.1 he
 obtain ⟨v, _, rfl⟩ := List.mem_map.1 hx
 exact ⟨_, rfl⟩
theorem zoZ {x : Pc} (h : x.c.ok) : x.rp.lim := by
 rcases h with ⟨_, h1, h2, h3, h4⟩ | ⟨_, h1, h2, _⟩
 ·unfold Pc.rp Rp.lim
  rw [h1, h2, h3, h4]
  exact ⟨B64p, B64p, B64p, B64p⟩
 ·exact ⟨h1.w4n, h1.w4d, h2.w4n, h2.w4d⟩
theorem zlu (l : List Pc) (hl : l.length ≤ 1000000) (h : PcOk l) : zan Tryz.prog 14 [.r (.sl 24 (pcs l))] [] (.r (.v (.bool true))) [] := by
 rw [zqX]
 refine zgV _ (by rw [List.length_map]; exact hl) fun y hy => ?_
 obtain ⟨x, hx, rfl⟩ := List.mem_map.1 hy
 exact zoZ (h.c x hx)
theorem zgE (l : List Pc) (hl : l.length ≤ 100000) (h : PcOk l) (y : Rp) (hy : y.lim) : zan Tryz.prog 14 [.r (.sl 24 (pcs l ++ [(rpVs y).map RV.v]))] [] (.r (.v (.bool true))) [] := by
 have e : pcs l ++ [(rpVs y).map RV.v] = rps (l.map Pc.rp ++ [y]) := by rw [zqX]; unfold rps; rw [List.map_append]; rfl
 rw [e]
 refine zgV _ (by rw [List.length_append, List.length_map]; simp; omega) fun z hz => ?_
 rcases List.mem_append.1 hz with hz | hz
 ·obtain ⟨x, hx, rfl⟩ := List.mem_map.1 hz
  exact zoZ (h.c x hx)
 ·rw [List.mem_singleton.1 hz]; exact hy
def gfA (R : List Rp) (t : List Int) : St := ⟨[(0, .r (.sl 24 (rps R))), (1, .r (.sl 1 (nums .i64 t)))], [], 0⟩
def gfB (R : List Rp) (ol ml : List Pc) (t : List Int) (k : Nat) : St := ⟨[(0, .r (.sl 24 (rps R))), (5, .pt 0 0), (6, .r (.sl 24 (pcs ol))), (7, .r (.sl 24 (pcs ml))), (9, .ow 1)], [(0, some (tb t k)), (1, some (.row 42 24 (pcs ol)))], 2⟩
def gfC (R : List Rp) (ol ml : List Pc) (B : List (List RV)) : St := ⟨[(9, .r (.sl 24 B)), (0, .r (.sl 24 (rps R))), (6, .r (.sl 24 (pcs ol))), (7, .r (.sl 24 (pcs ml)))], [], 0⟩
theorem zg7 (R0 : List Rp) (hR : ∀ x ∈ R0, x.lim) (hRl : R0.length ≤ 140737488355328) (t : List Int) (ht : Ints t) (htn : t.length ≤ 140737488351232) : zan Tryz.prog 3 [.r (.sl 24 (rps R0)), .r (.sl 1 (nums .i64 t))] [] (.r (.v (.bool true))) [] := by
 have hr0 : (rps R0).length = R0.length := zhG R0
 have htk : (rps R0).take 100 = rps (R0.take 100) := by unfold rps; rw [List.map_take]
 have hRl : (R0.take 100).length ≤ 100 := by rw [List.length_take]; omega
 have hRm : ∀ x ∈ R0.take 100, x.lim := fun x hx => hR x (List.mem_of_mem_take hx)
 have cA1 := zgV (R0.take 100) (by omega) hRm
 have hle : ¬ 100 < R0.length → rps R0 = rps (R0.take 100) := fun h => by rw [List.take_of_length_le (by omega)]
 generalize R0.take 100 = R at *
 refine zap Tryz.func3 rfl (Nat.le_of_ble_eq_true rfl) rfl rfl ?_
 have hIs := zqq t (smL t 0).2 30
 have hll := zqp t (smL t 0).2 30
 have hsrt : ((smpL t (smL t 0).2 30).1.map Prod.fst).Pairwise (· < ·) := by rw [zjn]; exact (ziu t (smL t 0).2 30).1
 have cO := ztC t 0 ht htn
 have hok := ztA t 0
 have cS := zo4 t (smL t 0).2 30 ht htn (by omega)
 generalize (smL t 0).1 = ol at *
 generalize (smL t 0).2 = k1 at *
 generalize (smpL t k1 30).1 = sl at *
 generalize (smpL t k1 30).2 = k2 at *
 have cT := zpd t k2 ht htn
 have hte := znb t k2
 generalize (tolv t k2).1 = eps at *
 generalize (tolv t k2).2 = k3 at *
 have cAll := zsa sl eps hte hsrt hIs (by omega)
 obtain ⟨m1, m2⟩ := zp5 hte hsrt hIs (by omega)
 generalize zi7 sl eps = ml at *
 have ho2 := hok.len
 have cA2 := zlu ol (by omega) hok.pc
 have cA3 := zlu ml (by omega) m1
 have hol : (pcs ol).length = ol.length := zcZ ol
 have hnl : ([] : List (List RV)) ++ pcs ol = pcs ol := List.nil_append _
 have cN := zoe
 (repeat' (first | refine zpE 1 (fun _ : Unit => gfA R t) (fun _ => True) ?_ ?_ | refine za6 ?_ | refine zaG ?_ | (refine zac (fun hb => ?_) (fun hb => ?_) <;> (try (exfalso; omega))) | fail))
 ·exact ⟨(), trivial, Le.mk [] [] rfl (le_r (le_r zaX rfl rfl) (by rw [htk]) rfl) zbq (by intro g h; cases h)⟩
 ·have hle := hle (by omega)
  exact ⟨(), trivial, Le.mk [] [] rfl (le_r (le_r zaX rfl rfl) (by rw [hle]) rfl) zbq (by intro g h; cases h)⟩
 rintro ⟨⟩ -
 clear hle htk hr0 hR
 unfold gfA
 (repeat' (first | (first | refine zaH 5 ?_ | refine zaz 5 ?_) | refine za6 ?_ | refine zaG ?_ | (refine is_f 7 ?_; refine zqa (ztZ t) ?_) | (refine is_f 8 ?_; refine zbd (cO) ?_) | (refine zac (fun hb => ?_) (fun hb => ?_) <;> (try (exfalso; omega))) | fail))
 refine halt ?_
 refine zbp (T := ⟨[(0, .r (.sl 24 (rps R))), (5, .pt 0 0), (6, .r (.sl 24 (pcs ol)))], [(0, some (tb t k1))], 1⟩) (by (refine Le.mk [(0,0)] [] zaj zaC zav zal)) ?_
 clear cO
 (repeat' (first | (first | refine zaH 6 ?_ | refine zaz 6 ?_) | refine za6 ?_ | refine zaG ?_ | (refine is_f 10 ?_; refine zbd (cS) ?_) | (refine is_f 11 ?_; refine zbd (cT) ?_) | (refine zac (fun hb => ?_) (fun hb => ?_) <;> (try (exfalso; omega))) | fail))
 refine is_f 9 ?_
 refine zeO [1] [(1, _)] cAll (.cons _ _ _ _ (.fz 1 _ _ _ rfl (by simp)) (.cons _ _ _ _ (.r _) .nil)) (by kernel_rfl) (by intro g h; rw [List.mem_singleton] at h; subst h; exact ⟨_, List.mem_cons_self, rfl⟩) (by intro i b h; rw [List.mem_singleton] at h; injection h with h1 h2; subst h1 h2; rfl) (.inr (zpq (zhQ (zpp _ _) (zhQ (zq5 _) zmu)))) rfl rfl rfl (.inl ⟨rfl, rfl⟩) ?_
 (repeat' (first | (first | refine zaH 6 ?_ | refine zaz 6 ?_) | refine za6 ?_ | refine zaG ?_ | (refine zac (fun hb => ?_) (fun hb => ?_) <;> (try (exfalso; omega))) | fail))
 refine halt ?_
 refine zbp (T := ⟨[(0, .r (.sl 24 (rps R))), (5, .pt 0 0), (6, .r (.sl 24 (pcs ol))), (7, .r (.sl 24 (pcs ml)))], [(0, some (tb t k3))], 1⟩) (by (refine Le.mk [(0,0)] [2] zaj zaC zav zal)) ?_
 clear cS cT cAll hIs hsrt
 (repeat' (first | (first | refine zaH 7 ?_ | refine zaz 7 ?_) | refine za6 ?_ | refine zaG ?_ | (refine zac (fun hb => ?_) (fun hb => ?_) <;> (try (exfalso; omega))) | fail))
 refine halt ?_
 refine zbp (T := gfB R ol ml t k3) (by unfold gfB; (refine Le.mk [(0,0),(1,2)] [] zaj zaC zav zal)) ?_
 unfold gfB
 by_cases hz : ol.length = 0
 ·(repeat' (first | (first | refine zaH 17 ?_ | refine zaz 17 ?_) | refine za6 ?_ | refine zaG ?_ | (refine zac (fun hb => ?_) (fun hb => ?_) <;> (try (exfalso; omega))) | fail))
  all_goals (first | (exfalso; omega) | skip)
  refine halt ?_
  refine zbp (T := gfC R ol ml (pcs ol)) (by unfold gfC; (refine Le.mk [] [1] zaj zaC zav zal)) ?_
  unfold gfC
  (repeat' (first | refine zai ?_ | (refine is_f 13 ?_; refine zah (cN) ?_) | (refine is_f 14 ?_; refine zah (cA1) ?_) | (refine is_f 14 ?_; refine zah (cA2) ?_) | (refine is_f 14 ?_; refine zah (cA3) ?_) | (refine zac (fun hb => ?_) (fun hb => ?_) <;> (try (exfalso; omega))) | fail))
  all_goals (first | (exfalso; omega) | exact ret1 [] (.bool rfl) rfl rfl rfl)
 ·have n1 := zau t k3 (show (1 : Int) ≤ (ol.length : Int) by omega)
  have c1 := za3 t k3 (ol.length : Int) ht htn (by omega)
  have n2 := zau t (adv t k3) (show (1 : Int) ≤ 4 by omega)
  have c2 := za3 t (adv t k3) 4 ht htn (by omega)
  obtain ⟨q, hq⟩ : ∃ q : Nat, nx t k3 (ol.length : Int) = (q : Int) := ⟨(nx t k3 (ol.length : Int)).toNat, by omega⟩
  rw [hq] at c1 n1
  obtain ⟨x, hx⟩ : ∃ x, ol[q]? = some x := ⟨_, List.getElem?_eq_getElem (by omega)⟩
  have hgx := zeh hx
  have hxc := hok.pc.c x (List.mem_of_getElem? hx)
  have hxl := zoZ hxc
  generalize nx t (adv t k3) 4 = v at *
  (repeat' (first | (first | refine zaH 10 ?_ | refine zaz 10 ?_) | refine za6 ?_ | refine zaG ?_ | (refine is_f 12 ?_; refine zbd (c1) ?_) | (refine is_f 12 ?_; refine zbd (c2) ?_) | (refine zac (fun hb => ?_) (fun hb => ?_) <;> (try (exfalso; omega))) | fail))
  all_goals (first | (exfalso; omega) | skip)
  refine halt ?_
  refine zbp (T := ⟨[(42, .r (.v (.int .i64 v))), (0, .r (.sl 24 (rps R))), (6, .r (.sl 24 (pcs ol))), (7, .r (.sl 24 (pcs ml))), (9, .ow 0), (10, .pt 1 0)], [(0, some (.row 42 24 (pcs ol))), (1, some (.var 42 (vsA (pcVs x))))], 2⟩) (Le.mk [(0, 1), (1, 2)] [] rfl (by (repeat' (first | exact zaX | refine zbQ ?_ | refine le_r ?_ rfl rfl | refine za9 ?_ (by omega) rfl | refine zbR ?_ rfl rfl | refine zbS ?_ rfl rfl | refine zbH ?_ rfl zaN rfl rfl | refine zbX ?_ rfl rfl | refine zbW ?_ rfl rfl | refine zbZ ?_ ?_ rfl | refine zb0 ?_ ?_ rfl | refine za4 ?_ rfl | refine zbt ?_ rfl | refine zbi ?_ rfl | exact CfL.nil))) (zby (zc4 zbq (show CfL _ _ _ (vsA (pcVs x)) _ from zaL _) rfl) rfl rfl) (by intro g h; cases h)) ?_
  clear c1 c2 hgx hx n1 hq
  have h4 : v = 0 ∨ v = 1 ∨ v = 2 ∨ v = 3 := by omega
  obtain ⟨l1, l2, l3, l4⟩ := hxl
  rcases h4 with rfl | rfl | rfl | rfl
  ·have cB := zgE ol (by omega) hok.pc ({ x.rp with ix := -1 }) ⟨l1, l2, l3, l4⟩
   (repeat' (first | (first | refine zaH 17 ?_ | refine zaz 17 ?_) | refine za6 ?_ | refine zaG ?_ | (refine zac (fun hb => ?_) (fun hb => ?_) <;> (try (exfalso; omega))) | fail))
   all_goals (first | (exfalso; omega) | skip)
   refine halt ?_
   refine zbp (T := gfC R ol ml (pcs ol ++ [(rpVs ({ x.rp with ix := -1 })).map RV.v])) (Le.mk [] [3] rfl (zbH (le_r (le_r (le_r zaX rfl rfl) rfl rfl) rfl rfl) rfl List.mem_cons_self rfl rfl) zbq (by simp only [List.mem_cons, List.not_mem_nil, or_false, forall_eq]; exact ⟨_, rfl⟩)) ?_
   generalize pcs ol ++ [(rpVs ({ x.rp with ix := -1 })).map RV.v] = B at *
   unfold gfC
   (repeat' (first | refine zai ?_ | (refine is_f 13 ?_; refine zah (cN) ?_) | (refine is_f 14 ?_; refine zah (cA1) ?_) | (refine is_f 14 ?_; refine zah (cA2) ?_) | (refine is_f 14 ?_; refine zah (cA3) ?_) | (refine is_f 14 ?_; refine zah (cB) ?_) | (refine zac (fun hb => ?_) (fun hb => ?_) <;> (try (exfalso; omega))) | fail))
   all_goals (first | (exfalso; omega) | exact ret1 [] (.bool rfl) rfl rfl rfl)
  ·have cB := zgE ol (by omega) hok.pc ({ x.rp with o := !x.c.o }) ⟨l1, l2, l3, l4⟩
   (repeat' (first | (first | refine zaH 17 ?_ | refine zaz 17 ?_) | refine za6 ?_ | refine zaG ?_ | (refine zac (fun hb => ?_) (fun hb => ?_) <;> (try (exfalso; omega))) | fail))
   all_goals (first | (exfalso; omega) | skip)
   refine halt ?_
   refine zbp (T := gfC R ol ml (pcs ol ++ [(rpVs ({ x.rp with o := !x.c.o })).map RV.v])) (Le.mk [] [3] rfl (zbH (le_r (le_r (le_r zaX rfl rfl) rfl rfl) rfl rfl) rfl List.mem_cons_self rfl rfl) zbq (by simp only [List.mem_cons, List.not_mem_nil, or_false, forall_eq]; exact ⟨_, rfl⟩)) ?_
   generalize pcs ol ++ [(rpVs ({ x.rp with o := !x.c.o })).map RV.v] = B at *
   unfold gfC
   (repeat' (first | refine zai ?_ | (refine is_f 13 ?_; refine zah (cN) ?_) | (refine is_f 14 ?_; refine zah (cA1) ?_) | (refine is_f 14 ?_; refine zah (cA2) ?_) | (refine is_f 14 ?_; refine zah (cA3) ?_) | (refine is_f 14 ?_; refine zah (cB) ?_) | (refine zac (fun hb => ?_) (fun hb => ?_) <;> (try (exfalso; omega))) | fail))
   all_goals (first | (exfalso; omega) | exact ret1 [] (.bool rfl) rfl rfl rfl)
  ·have cB := zgE ol (by omega) hok.pc ({ x.rp with a := .of x.c.r, b := .of x.c.s, c := .of x.c.p, d := .of x.c.q }) ⟨l3, l4, l1, l2⟩
   (repeat' (first | (first | refine zaH 17 ?_ | refine zaz 17 ?_) | refine za6 ?_ | refine zaG ?_ | (refine zac (fun hb => ?_) (fun hb => ?_) <;> (try (exfalso; omega))) | fail))
   all_goals (first | (exfalso; omega) | skip)
   refine halt ?_
   refine zbp (T := gfC R ol ml (pcs ol ++ [(rpVs ({ x.rp with a := .of x.c.r, b := .of x.c.s, c := .of x.c.p, d := .of x.c.q })).map RV.v])) (Le.mk [] [3] rfl (zbH (le_r (le_r (le_r zaX rfl rfl) rfl rfl) rfl rfl) rfl List.mem_cons_self rfl rfl) zbq (by simp only [List.mem_cons, List.not_mem_nil, or_false, forall_eq]; exact ⟨_, rfl⟩)) ?_
   generalize pcs ol ++ [(rpVs ({ x.rp with a := .of x.c.r, b := .of x.c.s, c := .of x.c.p, d := .of x.c.q })).map RV.v] = B at *
   unfold gfC
   (repeat' (first | refine zai ?_ | (refine is_f 13 ?_; refine zah (cN) ?_) | (refine is_f 14 ?_; refine zah (cA1) ?_) | (refine is_f 14 ?_; refine zah (cA2) ?_) | (refine is_f 14 ?_; refine zah (cA3) ?_) | (refine is_f 14 ?_; refine zah (cB) ?_) | (refine zac (fun hb => ?_) (fun hb => ?_) <;> (try (exfalso; omega))) | fail))
   all_goals (first | (exfalso; omega) | exact ret1 [] (.bool rfl) rfl rfl rfl)
  ·have cB := zgE ol (by omega) hok.pc (x.rp) ⟨l1, l2, l3, l4⟩
   (repeat' (first | (first | refine zaH 17 ?_ | refine zaz 17 ?_) | refine za6 ?_ | refine zaG ?_ | (refine zac (fun hb => ?_) (fun hb => ?_) <;> (try (exfalso; omega))) | fail))
   all_goals (first | (exfalso; omega) | skip)
   refine halt ?_
   refine zbp (T := gfC R ol ml (pcs ol ++ [(rpVs (x.rp)).map RV.v])) (Le.mk [] [3] rfl (zbH (le_r (le_r (le_r zaX rfl rfl) rfl rfl) rfl rfl) rfl List.mem_cons_self rfl rfl) zbq (by simp only [List.mem_cons, List.not_mem_nil, or_false, forall_eq]; exact ⟨_, rfl⟩)) ?_
   generalize pcs ol ++ [(rpVs (x.rp)).map RV.v] = B at *
   unfold gfC
   (repeat' (first | refine zai ?_ | (refine is_f 13 ?_; refine zah (cN) ?_) | (refine is_f 14 ?_; refine zah (cA1) ?_) | (refine is_f 14 ?_; refine zah (cA2) ?_) | (refine is_f 14 ?_; refine zah (cA3) ?_) | (refine is_f 14 ?_; refine zah (cB) ?_) | (refine zac (fun hb => ?_) (fun hb => ?_) <;> (try (exfalso; omega))) | fail))
   all_goals (first | (exfalso; omega) | exact ret1 [] (.bool rfl) rfl rfl rfl)
end Go.Proofs.YtibedaeefnjjlaaGreat
namespace Go.Proofs.YtibedaeefnjjlaaGreat
open Go.RowKit Go.Ab
theorem groupingForms_law (A0 : Option Addr) (n0 c0 : Nat) (z0 : List Rp) (A1 : Option Addr) (n1 c1 : Nat) (z1 : List Int) (w : World) (w0 : IsPcs w A0 n0 c0 z0) (r0 : c0 * 192 ≤ 140737488351232) (w1 : IsRow .i64 w A1 n1 c1 z1) (r1 : c1 * 8 ≤ 140737488351232) :
  Calls Tryz.prog 3 #[.slice A0 n0 c0, .slice A1 n1 c1] w fun e w' => e = .returned (.bool true) ∧ Below w.heap.size w w' := by
 obtain ⟨z, hzl, hz2, hI, hz⟩ := w1.ints
 obtain ⟨g1, g2, g3, g4⟩ := w0.take
 refine zpI (us := [.slice A0 n0 c0, .slice A1 n1 c1]) (zg7 (z0.take n0) g4 (by omega) z hI (by omega)) ?_
 simp only [AV.reps, AV.rep]
 exact ⟨_, _, rfl, zsW w0 (fun _ _ h => h), _, _, rfl, zsV hz (by omega) (by unfold maxLen; omega) (fun _ _ h => h), rfl⟩
end Go.Proofs.YtibedaeefnjjlaaGreat
