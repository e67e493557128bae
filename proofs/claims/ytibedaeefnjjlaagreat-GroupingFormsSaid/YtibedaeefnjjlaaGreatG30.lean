/- Texts of the second layer in one: Ra3 Ra5 So1 Ai5 Ai7 So3 So4 So5 Jn0. -/
import Derived.Test.YtibedaeefnjjlaaGreatG20
import Derived.Test.YtibedaeefnjjlaaGreatG29
import Derived.Test.YtibedaeefnjjlaaGreatG6
import Derived.Test.YtibedaeefnjjlaaGreatG7
import Derived.Shelf.SlSortCmp.WholeK
import Derived.LoopIn
import Derived.Test.YtibedaeefnjjlaaGreatSh
set_option maxHeartbeats 8000000
set_option maxRecDepth 100000
set_option linter.unusedVariables false
set_option linter.unusedSimpArgs false
namespace Go.Proofs.YtibedaeefnjjlaaGreat
open Go.RowKit Go.Ab Go.Wd
theorem zoS (p q : Int) (hp : W4 p) (hq : W4 q) : zan Tryz.prog 41 [rt p q] [] (.r (.v (.bool (decide (VR p q))))) [] := by
 have v1 := zcz p hp
 have v2 := zcz q hq
 have cS := zdj q hq
 have s1 := zfS p hp
 have s2 := zfS q hq
 have cA := zin p hp
 have cO := zoO
 have cG := zmc p.natAbs q.natAbs hp hq
 have hgw := zqL hp hq
 have h1w := wone
 by_cases h0 : 0 < q
 ·have hsg : sgZ q = 1 := by unfold sgZ; rw [if_neg (by omega), if_neg (by omega)]
  rw [hsg] at cS
  have hqn : ((q.natAbs : Nat) : Int) = q := by omega
  rw [hqn] at cG
  by_cases h1 : p.natAbs < N127
  ·rw [decide_eq_true h1] at s1
   by_cases h2 : q.natAbs < N127
   ·rw [decide_eq_true h2] at s2
    have e : decide (VR p q) = decide (((Nat.gcd p.natAbs q.natAbs : Nat) : Int) = 1) := by
     unfold VR
     simp only [h0, h1, h2, true_and]
     by_cases hg : Nat.gcd p.natAbs q.natAbs = 1
     ·rw [decide_eq_true hg, decide_eq_true (by omega)]
     ·rw [decide_eq_false hg, decide_eq_false (by omega)]
    rw [e]
    generalize ((Nat.gcd p.natAbs q.natAbs : Nat) : Int) = gg at *
    generalize ((p.natAbs : Nat) : Int) = pa at *
    refine zap Tryz.func41 rfl (Nat.le_of_ble_eq_true rfl) rfl rfl ?_
    (repeat' (first | (refine zbP ?_; refine zbl ?_; refine zag rfl zab (zow hgw h1w rfl rfl rfl) ?_) | refine zai ?_ | (refine is_f 45 ?_; refine zah (v1) ?_) | (refine is_f 45 ?_; refine zah (v2) ?_) | (refine is_f 46 ?_; refine zah (cS) ?_) | (refine is_f 77 ?_; refine zah (s1) ?_) | (refine is_f 77 ?_; refine zah (s2) ?_) | (refine is_f 48 ?_; refine zah (cA) ?_) | (refine is_f 47 ?_; refine zah (cG) ?_) | (refine is_f 60 ?_; refine zah (cO) ?_) | (refine zac (fun hb => ?_) (fun hb => ?_) <;> (try (exfalso; omega))) | fail))
    all_goals (first | (exfalso; omega) | exact ret1 [] (.bool rfl) rfl rfl rfl)
   ·rw [decide_eq_false h2] at s2
    have e : false = decide (VR p q) := (decide_eq_false fun h => h2 h.2.2.1).symm
    rw [← e]
    clear e cG cO cA
    refine zap Tryz.func41 rfl (Nat.le_of_ble_eq_true rfl) rfl rfl ?_
    (repeat' (first | refine zai ?_ | (refine is_f 45 ?_; refine zah (v1) ?_) | (refine is_f 45 ?_; refine zah (v2) ?_) | (refine is_f 46 ?_; refine zah (cS) ?_) | (refine is_f 77 ?_; refine zah (s1) ?_) | (refine is_f 77 ?_; refine zah (s2) ?_) | (refine zac (fun hb => ?_) (fun hb => ?_) <;> (try (exfalso; omega))) | fail))
    all_goals (first | (exfalso; omega) | exact ret1 [] (.bool rfl) rfl rfl rfl)
  ·rw [decide_eq_false h1] at s1
   have e : false = decide (VR p q) := (decide_eq_false fun h => h1 h.2.1).symm
   rw [← e]
   clear e cG cO cA s2
   refine zap Tryz.func41 rfl (Nat.le_of_ble_eq_true rfl) rfl rfl ?_
   (repeat' (first | refine zai ?_ | (refine is_f 45 ?_; refine zah (v1) ?_) | (refine is_f 45 ?_; refine zah (v2) ?_) | (refine is_f 46 ?_; refine zah (cS) ?_) | (refine is_f 77 ?_; refine zah (s1) ?_) | (refine zac (fun hb => ?_) (fun hb => ?_) <;> (try (exfalso; omega))) | fail))
   all_goals (first | (exfalso; omega) | exact ret1 [] (.bool rfl) rfl rfl rfl)
 ·have hsg : sgZ q ≤ 0 := by unfold sgZ; split <;> omega
  have e : false = decide (VR p q) := (decide_eq_false fun h => h0 h.1).symm
  rw [← e]
  clear e cG cO cA s1 s2
  generalize sgZ q = sg at *
  refine zap Tryz.func41 rfl (Nat.le_of_ble_eq_true rfl) rfl rfl ?_
  (repeat' (first | refine zai ?_ | (refine is_f 45 ?_; refine zah (v1) ?_) | (refine is_f 45 ?_; refine zah (v2) ?_) | (refine is_f 46 ?_; refine zah (cS) ?_) | (refine zac (fun hb => ?_) (fun hb => ?_) <;> (try (exfalso; omega))) | fail))
  all_goals (first | (exfalso; omega) | exact ret1 [] (.bool rfl) rfl rfl rfl)
theorem zkd (x y : Rw) (hx : x.lim) (hy : y.lim) : zan Tryz.prog 41 [.ag (vsA (x.vs ++ y.vs))] [] (.r (.v (.bool (decide (x.ok ∧ y.ok ∧ VR x.z y.z))))) [] := by
 by_cases h1 : x.ok
 ·by_cases h2 : y.ok
  ·have e : decide (x.ok ∧ y.ok ∧ VR x.z y.z) = decide (VR x.z y.z) := by simp [h1, h2]
   rw [e, Rw.ok_vs h1, Rw.ok_vs h2]
   exact zoS x.z y.z (Rw.w4 hx) (Rw.w4 hy)
  ·rw [decide_eq_false (fun h => h2 h.2.1)]
   have e2 := Rw.no h2
   subst e2
   obtain ⟨b, n⟩ := x
   have v1 := zf4 b n hx
   have h1' : vW b n = true := h1
   rw [h1'] at v1
   have v2 : zan Tryz.prog 45 [wd true 0] [] (.r (.v (.bool false))) [] := zf4 true 0 B64p
   clear h1 h2 hx hy
   show zan Tryz.prog 41 [.ag (vsA (wdVs b n ++ wdVs true 0))] [] _ []
   unfold wd at *
   refine zap Tryz.func41 rfl (Nat.le_of_ble_eq_true rfl) rfl rfl ?_
   (repeat' (first | refine zai ?_ | (refine is_f 45 ?_; refine zah (v1) ?_) | (refine is_f 45 ?_; refine zah (v2) ?_) | (refine zac (fun hb => ?_) (fun hb => ?_) <;> (try (exfalso; omega))) | fail))
   all_goals (first | (exfalso; omega) | exact ret1 [] (.bool rfl) rfl rfl rfl)
 ·rw [decide_eq_false (fun h => h1 h.1)]
  have e1 := Rw.no h1
  subst e1
  obtain ⟨b, n⟩ := y
  have v1 : zan Tryz.prog 45 [wd true 0] [] (.r (.v (.bool false))) [] := zf4 true 0 B64p
  clear h1 hx hy
  show zan Tryz.prog 41 [.ag (vsA (wdVs true 0 ++ wdVs b n))] [] _ []
  unfold wd at *
  refine zap Tryz.func41 rfl (Nat.le_of_ble_eq_true rfl) rfl rfl ?_
  (repeat' (first | refine zai ?_ | (refine is_f 45 ?_; refine zah (v1) ?_) | (refine zac (fun hb => ?_) (fun hb => ?_) <;> (try (exfalso; omega))) | fail))
  all_goals (first | (exfalso; omega) | exact ret1 [] (.bool rfl) rfl rfl rfl)
theorem ziq (x : Rp) (hx : x.lim) : zan Tryz.prog 40 [x.cA] [] (.r (.v (.bool (decide x.cv)))) [] := by
 obtain ⟨ix, ct, ky, o, a, b, c, d⟩ := x
 cases o
 ·have v1 := zkd a b hx.1 hx.2.1
  have v2 := zkd c d hx.2.2.1 hx.2.2.2
  by_cases h1 : a.ok ∧ b.ok ∧ VR a.z b.z
  ·by_cases h2 : c.ok ∧ d.ok ∧ VR c.z d.z
   ·have e : decide (Rp.cv ⟨ix, ct, ky, false, a, b, c, d⟩) = decide (cmpZ (a.z * d.z) (c.z * b.z) ≤ 0) := by
     rw [Bool.eq_iff_iff, decide_eq_true_eq, decide_eq_true_eq, zeU]
     unfold Rp.cv VC
     simp [h1, h2]
    have cC := zeG a.z b.z c.z d.z h1.2.2 h2.2.2
    rw [e]
    rw [decide_eq_true h1] at v1
    rw [decide_eq_true h2] at v2
    show zan Tryz.prog 40 [.ag (vsA (.bool false :: ((a.vs ++ b.vs) ++ (c.vs ++ d.vs))))] [] _ []
    rw [Rw.ok_vs h1.1, Rw.ok_vs h1.2.1] at v1 ⊢
    rw [Rw.ok_vs h2.1, Rw.ok_vs h2.2.1] at v2 ⊢
    generalize cmpZ (a.z * d.z) (c.z * b.z) = k at *
    generalize a.z = p at *
    generalize b.z = q at *
    generalize c.z = r at *
    generalize d.z = s at *
    clear e h1 h2 hx
    change zan Tryz.prog 41 [rt p q] [] _ [] at v1
    change zan Tryz.prog 41 [rt r s] [] _ [] at v2
    show zan Tryz.prog 40 [cn false p q r s] [] _ []
    refine zap Tryz.func40 rfl (Nat.le_of_ble_eq_true rfl) rfl rfl ?_
    (repeat' (first | refine zai ?_ | (refine is_f 41 ?_; refine zah (v1) ?_) | (refine is_f 41 ?_; refine zah (v2) ?_) | (refine is_f 18 ?_; refine zah (cC) ?_) | (refine zac (fun hb => ?_) (fun hb => ?_) <;> (try (exfalso; omega))) | fail))
    all_goals (first | (exfalso; omega) | exact ret1 [] (.bool rfl) rfl rfl rfl | exact ret1 [] (.bool (decide_eq_true hb).symm) rfl rfl rfl | exact ret1 [] (.bool (decide_eq_false hb).symm) rfl rfl rfl)
   ·rw [decide_eq_false (show ¬ Rp.cv ⟨ix, ct, ky, false, a, b, c, d⟩ from fun h => h2 (by unfold Rp.cv VC at h; exact ⟨h.2.2.1, h.2.2.2.1, h.2.2.2.2.2.1⟩))]
    rw [decide_eq_true h1] at v1
    rw [decide_eq_false h2] at v2
    clear h1 h2 hx
    obtain ⟨a1, a2⟩ := a; obtain ⟨b1, b2⟩ := b; obtain ⟨c1, c2⟩ := c; obtain ⟨d1, d2⟩ := d
    refine zap Tryz.func40 rfl (Nat.le_of_ble_eq_true rfl) rfl rfl ?_
    (repeat' (first | refine zai ?_ | (refine is_f 41 ?_; refine zah (v1) ?_) | (refine is_f 41 ?_; refine zah (v2) ?_) | (refine zac (fun hb => ?_) (fun hb => ?_) <;> (try (exfalso; omega))) | fail))
    all_goals (first | (exfalso; omega) | exact ret1 [] (.bool rfl) rfl rfl rfl)
  ·rw [decide_eq_false (show ¬ Rp.cv ⟨ix, ct, ky, false, a, b, c, d⟩ from fun h => h1 (by unfold Rp.cv VC at h; exact ⟨h.1, h.2.1, h.2.2.2.2.1⟩))]
   rw [decide_eq_false h1] at v1
   clear h1 hx v2
   obtain ⟨a1, a2⟩ := a; obtain ⟨b1, b2⟩ := b; obtain ⟨c1, c2⟩ := c; obtain ⟨d1, d2⟩ := d
   refine zap Tryz.func40 rfl (Nat.le_of_ble_eq_true rfl) rfl rfl ?_
   (repeat' (first | refine zai ?_ | (refine is_f 41 ?_; refine zah (v1) ?_) | (refine zac (fun hb => ?_) (fun hb => ?_) <;> (try (exfalso; omega))) | fail))
   all_goals (first | (exfalso; omega) | exact ret1 [] (.bool rfl) rfl rfl rfl)
 ·have e : decide (Rp.cv ⟨ix, ct, ky, true, a, b, c, d⟩) = decide (Rp.nul ⟨ix, ct, ky, true, a, b, c, d⟩) := by unfold Rp.cv; simp
  rw [e]
  obtain ⟨bb, hbb⟩ : ∃ bb, decide (Rp.nul ⟨ix, ct, ky, true, a, b, c, d⟩) = bb := ⟨_, rfl⟩
  rw [hbb]
  clear e
  obtain ⟨a1, a2⟩ := a; obtain ⟨b1, b2⟩ := b; obtain ⟨c1, c2⟩ := c; obtain ⟨d1, d2⟩ := d
  have ho : (Rp.mk ix ct ky true ⟨a1, a2⟩ ⟨b1, b2⟩ ⟨c1, c2⟩ ⟨d1, d2⟩).o = true := rfl
  refine zap Tryz.func40 rfl (Nat.le_of_ble_eq_true rfl) rfl rfl ?_
  (repeat' (first | (refine zbP ?_; refine zbl ?_; refine zag rfl zab (zov hx ho hbb rfl rfl) ?_) | refine zai ?_ | (refine is_f 19 ?_; refine zah (zeH) ?_) | (refine zac (fun hb => ?_) (fun hb => ?_) <;> (try (exfalso; omega))) | fail))
  all_goals exact ret1 [] (.bool rfl) rfl rfl rfl
def roS (l : List Rp) (i : Nat) : St := ⟨[(0, .r (.sl 24 (rps l))), (4, .r (.v (.int .i64 (i : Int))))], [], 0⟩
def roI (l : List Rp) (i k : Nat) : St := ⟨[(0, .r (.sl 24 (rps l))), (4, .r (.v (.int .i64 (i : Int)))), (5, .r (.v (.int .i64 (k : Int))))], [], 0⟩
theorem zn3 {l : List Rp} {i : Nat} (hi : i ≤ l.length) (hge : l.length ≤ i) (h : Good (l.take i)) : Good l := by
 rwa [List.take_of_length_le (by omega)] at h
theorem zp8 (l : List Rp) (hl : l.length ≤ 1000000) (hL : ∀ x ∈ l, x.lim) (h : ¬ Good l) : zan Tryz.prog 32 [.r (.sl 24 (rps l))] [] (.tu [.r (.v (.slice none 0 0)), .r (.v (.int .i64 1))]) [] := by
 have hlen : (rps l).length = l.length := zhG l
 refine zap Tryz.func32 rfl (Nat.le_of_ble_eq_true rfl) rfl rfl ?_
 (repeat' (first | refine zai ?_ | (refine zac (fun hb => ?_) (fun hb => ?_) <;> (try (exfalso; omega))) | fail))
 refine zas (roS l) (fun i => i ≤ l.length ∧ Good (l.take i)) (fun i => l.length - i) 0 ⟨Nat.zero_le _, zlI⟩ (by (refine Le.mk [] [] zaj zaC zav zal)) fun i hi => ?_
 obtain ⟨hi, hg0⟩ := hi
 rcases Nat.lt_or_ge i l.length with hlt | hge
 ·obtain ⟨x, hx⟩ : ∃ x, l[i]? = some x := ⟨_, List.getElem?_eq_getElem hlt⟩
  have hg := zln hx
  have hm := List.mem_of_getElem? hx
  have cV := ziq x (hL x hm)
  have hw : IntKind.i64.wrap ((i : Int) + 1) = ((i + 1 : Nat) : Int) := zaT i (by omega)
  by_cases h1 : x.cv
  ·rw [decide_eq_true h1] at cV
   rcases Int.lt_or_le x.ix 0 with h2 | h2
   ·(repeat' (first | refine zai ?_ | (refine is_f 40 ?_; refine zah (cV) ?_) | (refine zac (fun hb => ?_) (fun hb => ?_) <;> (try (exfalso; omega))) | fail))
    all_goals (first | (exfalso; omega) | exact ret2 [] (.r _) (.int rfl) rfl rfl rfl rfl)
   ·(repeat' (first | refine zai ?_ | (refine is_f 40 ?_; refine zah (cV) ?_) | (refine zac (fun hb => ?_) (fun hb => ?_) <;> (try (exfalso; omega))) | fail))
    all_goals (first | (exfalso; omega) | skip)
    refine zas (roI l i) (fun k => k ≤ i ∧ ∀ j y, j < k → l[j]? = some y → y.ix ≠ x.ix) (fun k => i - k) 0 ⟨Nat.zero_le _, fun j y hj => absurd hj (Nat.not_lt_zero _)⟩ (by (refine Le.mk [] [] zaj zaC zav zal)) fun k hk => ?_
    obtain ⟨hk, hne⟩ := hk
    rcases Nat.lt_or_ge k i with hki | hki
    ·obtain ⟨y, hy⟩ : ∃ y, l[k]? = some y := ⟨_, List.getElem?_eq_getElem (by omega)⟩
     have hgy := zln hy
     have hwk : IntKind.i64.wrap ((k : Int) + 1) = ((k + 1 : Nat) : Int) := zaT k (by omega)
     clear cV
     (repeat' (first | refine zai ?_ | (refine zac (fun hb => ?_) (fun hb => ?_) <;> (try (exfalso; omega))) | fail))
     all_goals (first | (exfalso; omega) | exact ret2 [] (.r _) (.int rfl) rfl rfl rfl rfl | exact ⟨k + 1, ⟨hki, fun j z hj hz => by
      rcases Nat.lt_or_ge j k with h' | h'
      ·exact hne j z h' hz
      ·have : j = k := by omega
       subst this; rw [hy] at hz; injection hz with hz; subst hz; assumption⟩, by (refine Le.mk [] [] zaj zaC zav zal), by show i - (k + 1) < i - k; omega⟩)
    ·have hgd : Good (l.take (i + 1)) := by
      rcases zjT hx hg0 with g | g | ⟨_, g⟩ | ⟨_, _, g⟩
      ·exact g
      ·exact absurd h1 g
      ·omega
      ·obtain ⟨y, hy, he⟩ := List.mem_map.1 g
       obtain ⟨j, hj⟩ := List.getElem?_of_mem hy
       rw [List.getElem?_take] at hj
       split at hj
       ·exact absurd he (hne j y (by omega) hj)
       ·cases hj
     clear cV
     (repeat' (first | refine zai ?_ | (refine zac (fun hb => ?_) (fun hb => ?_) <;> (try (exfalso; omega))) | fail))
     all_goals (first | (exfalso; omega) | exact ⟨i + 1, ⟨hlt, hgd⟩, by (refine Le.mk [] [] zaj zaC zav zal), by show l.length - (i + 1) < l.length - i; omega⟩)
  ·rw [decide_eq_false h1] at cV
   (repeat' (first | refine zai ?_ | (refine is_f 40 ?_; refine zah (cV) ?_) | (refine zac (fun hb => ?_) (fun hb => ?_) <;> (try (exfalso; omega))) | fail))
   all_goals (first | (exfalso; omega) | exact ret2 [] (.r _) (.int rfl) rfl rfl rfl rfl)
 ·exact absurd (zn3 hi hge hg0) h
end Go.Proofs.YtibedaeefnjjlaaGreat
namespace Go.Ab
open Go.RowKit
theorem zgu {β : Type} [Inhabited β] (e : β → Value) {w : World} {g T n : Nat} {cur : Array Value} {D : Array β} {os : Array Obj} (hg : w.heap[g]? = some (.cells cur T (0, 0))) (hD : D.size ≤ cur.size) :
  ∃ cur', (Go.Sort.grow (Go.Sort.putRow e (Go.Sort.ahead w n) g 0 D) os).heap[g]? = some (.cells cur' T (0, 0)) ∧ cur'.size = cur.size ∧ cur'.toList.take D.size = D.toList.map e ∧ Upto (fun x => x = g) w (Go.Sort.grow (Go.Sort.putRow e (Go.Sort.ahead w n) g 0 D) os) := by
 have hlt : g < w.heap.size := zcs hg
 have hh : (Go.Sort.grow (Go.Sort.putRow e (Go.Sort.ahead w n) g 0 D) os).heap = w.heap.modify g (Go.Sort.onCells (Go.Sort.putCells e 0 D)) ++ os := rfl
 refine ⟨Go.Sort.putCells e 0 D cur, ?_, by simp [Go.Sort.putCells], ?_, ⟨rfl, rfl, rfl, by rw [hh]; simp, fun k hk hn => ?_⟩⟩
 ·rw [hh, Array.getElem?_append_left (by simpa using hlt), Array.getElem?_modify, if_pos rfl, hg]
  rfl
 ·apply List.ext_getElem
  ·simp [Go.Sort.putCells]; omega
  ·intro i h1 h2
   have hi : i < D.size := by simpa using h2
   simp only [Go.Sort.putCells, List.getElem_take, Array.getElem_toList, Array.getElem_mapIdx, List.getElem_map]
   rw [if_pos ⟨Nat.zero_le _, by omega⟩]
   congr 1
   rw [Nat.sub_zero, getElem!_pos D i hi]
 ·rw [hh, Array.getElem?_append_left (by simpa using hk), Array.getElem?_modify, if_neg (fun h => hn h.symm)]
theorem RVs.of_raw {B : Nat → Prop} {w : World} : ∀ {vs us : List Value}, RVs B w (vs.map RV.v) us → us = vs ∧ ∀ v ∈ vs, v.oneCell' = true
 | [], us, h => by cases h; exact ⟨rfl, fun v hv => by cases hv⟩
 | v :: vs, us, h => by
  rw [List.map_cons] at h
  cases h with
  | cons h1 h2 h3 =>
   rw [RV.rep] at h2
   subst h2
   obtain ⟨e, h4⟩ := RVs.of_raw h3
   subst e
   exact ⟨rfl, fun x hx => by
    rcases List.mem_cons.1 hx with rfl | hx
    ·exact h1
    ·exact h4 x hx⟩
theorem RVs.raw {B : Nat → Prop} {w : World} : ∀ {vs : List Value}, (∀ v ∈ vs, v.oneCell' = true) → RVs B w (vs.map RV.v) vs
 | [], _ => .nil
 | v :: vs, h => .cons (h v (List.mem_cons_self ..)) (by rw [RV.rep]) (RVs.raw fun x hx => h x (List.mem_cons_of_mem _ hx))
def rawR (vss : List (List Value)) : List (List RV) := vss.map (List.map RV.v)
theorem zke (vss : List (List Value)) : (rawR vss).flatten = vss.flatten.map RV.v := by
 induction vss with
 | nil => rfl
 | cons v vss ih => simp [rawR] at ih ⊢
theorem zie {P : Program} {f : FuncId} {rest : List AV} {T sz : Nat} {vss vss' : List (List Value)} (hp : vss'.Perm vss)
  (h0 : vss = [] → ∀ w Z M us, AV.reps Z M w rest us → Calls P f (.slice none 0 0 :: us).toArray w fun e w' => e = .returned (.tuple #[]) ∧ Below w.heap.size w w')
  (h1 : ∀ w Z M us g cap cur, AV.reps Z M w rest us → w.heap[g]? = some (.cells cur T (0, 0)) → vss.length ≤ cap → cap ≤ maxLen → cur.size = cap * sz → cur.toList.take (vss.length * sz) = vss.flatten →
   Calls P f (.slice (some ⟨g, 0, none⟩) vss.length cap :: us).toArray w fun e w' => e = .returned (.tuple #[]) ∧ ∃ cur', w'.heap[g]? = some (.cells cur' T (0, 0)) ∧ cur'.size = cur.size ∧ cur'.toList.take (vss.length * sz) = vss'.flatten ∧ Upto (fun x => x = g) w w') :
  zan P f (.ow 0 :: rest) [.row T sz (rawR vss)] (.tu []) [some (.row T sz (rawR vss'))] := by
 intro w Z M k us hM hk hargs hpre hdist
 have hlen' : vss'.length = vss.length := hp.length_eq
 rw [AV.reps] at hargs
 obtain ⟨u, us', rfl, hu, hus⟩ := hargs
 rw [AV.rep] at hu
 subst hu
 obtain ⟨⟨vs, k1, k2, k3⟩, hm⟩ := hpre 0 (.row T sz (rawR vss)) (by simp [numd])
 rw [zke] at k2
 obtain ⟨rfl, ho⟩ := RVs.of_raw k2
 have hszs : ∀ v ∈ vss', v.length = sz := fun v hv => by
  have := k3 (v.map RV.v) (List.mem_map_of_mem (hp.mem_iff.1 hv))
  simpa using this
 have ho' : ∀ v ∈ vss'.flatten, v.oneCell' = true := fun v hv => by
  obtain ⟨l, hl, hv⟩ := List.mem_flatten.1 hv
  exact ho v (List.mem_flatten.2 ⟨l, hp.mem_iff.1 hl, hv⟩)
 have hl0 : (rawR vss).length = vss.length := by simp [rawR]
 have hl1 : (rawR vss').length = vss.length := by simp [rawR, hlen']
 rw [hl0] at k1
 have fin : ∀ w', w'.ownsRow 0 T sz (Z 0) vss.length vss'.flatten → Upto (fun x => blk (Z 0) = some x) w w' → zjw k (zaJ k [.row T sz (rawR vss)] (.tu []) [some (.row T sz (rawR vss'))]) Z M w (.tuple #[]) w' := by
  intro w' hw hU
  refine ⟨Z, fun _ _ => rfl, ?_, ?_, fun j b h => by simp [zaJ, AV.unfr, AV.unfrs] at h, fun j j' x h => by simp [zaJ, AV.unfr, AV.unfrs] at h, fun j x h => by simp [zaJ, AV.unfr, AV.unfrs] at h, hU.mono fun x _ hx => ⟨0, _, by simp [zaJ, zbu]; rfl, hx⟩⟩
  ·show AV.rep _ _ _ (.tu []) _
   rw [AV.rep]
   exact ⟨#[], rfl, by rw [AV.reps]⟩
  ·intro i b hb
   simp [zaJ, zbu] at hb
   obtain ⟨rfl, rfl⟩ := hb
   refine ⟨vss'.flatten, by rw [hl1]; exact hw, by rw [zke]; exact RVs.raw ho', fun e he => ?_⟩
   obtain ⟨v, hv, rfl⟩ := List.mem_map.1 he
   rw [List.length_map]; exact hszs v hv
 obtain ⟨kl, kc⟩ := k1
 rcases kc with ⟨e, hn⟩ | ⟨g, cap, cur, e, _, hg, hnc, hcm, hcs, htk⟩
 ·have hv0 : vss = [] := List.eq_nil_of_length_eq_zero hn
  refine Calls.mono (by rw [e]; exact h0 hv0 w Z M us' hus) ?_
  rintro e' w' ⟨rfl, hb⟩
  refine ⟨_, rfl, fin w' ?_ (Upto.of_below hb)⟩
  have hv1 : vss' = [] := List.eq_nil_of_length_eq_zero (by omega)
  rw [hv1]
  exact ⟨by simp [hn], .inl ⟨e, hn⟩⟩
 ·refine Calls.mono (by rw [e]; exact h1 w Z M us' g cap cur hus hg hnc hcm hcs htk) ?_
  rintro e' w' ⟨rfl, cur', q1, q2, q3, q4⟩
  refine ⟨_, rfl, fin w' ⟨?_, .inr ⟨g, cap, cur', e, Nat.zero_le _, q1, hnc, hcm, by rw [q2]; exact hcs, q3⟩⟩ (q4.mono fun x _ hx => by subst hx; rw [e]; rfl)⟩
  have hc' : cur'.toList.length = cap * sz := by rw [← hcs, ← q2]; simp
  rw [← q3, List.length_take, hc']
  exact Nat.min_eq_left (Nat.mul_le_mul_right _ hnc)
end Go.Ab
namespace Go.Proofs.YtibedaeefnjjlaaGreat
open Go.RowKit Go.Ab
attribute [local go_sem] Oper.semAt_some
def pcv (x : Pc) : Value := .agg (pcVs x).toArray
theorem znc (l : List Pc) (hl : l.length ≤ 1000000) {lb : Array Value} {B0 : Nat → Prop} {W0 : World} {Z0 : Nat → Value} (hr : AV.reps Z0 B0 W0 [.rp [.sl 24 (pcs l)]] lb.toList) : Iter Tryz.prog 67 lb (l.map pcv) B0 W0 := by
 intro n yl J W hn stab hK hY h0
 have hlen : (pcs l).length = l.length := zcZ l
 rw [AV.reps] at hr
 obtain ⟨p, us, e1, h1, h2⟩ := hr
 rw [AV.reps] at h2
 subst h2
 rw [AV.rep] at h1
 obtain ⟨ad, rfl, hlt, hnb, hrow⟩ := h1
 rw [RV.row] at hrow
 obtain ⟨⟨u, hc, hone, hu⟩, _⟩ := hrow
 have elb : lb = #[.pointer (some ad)] := by
  have := congrArg List.toArray e1
  simpa using this
 subst elb
 have hc0 : W0.cell? ad = some u := hc
 have good : ∀ B A, Kp B0 B W0 A → RV.rep B A (.sl 24 (pcs l)) u := fun B A hk => RV.rep_mono hk.up hk.old _ _ hu
 have hu' := hu
 rw [RV.rep] at hu'
 obtain ⟨sa, sc, eu, _⟩ := hu'
 rw [hlen] at eu
 clear hu hc hone e1
 obtain ⟨B, hkp, hBlt⟩ := hK 0 W h0
 have hcw : W.cell? ad = some (.slice sa l.length sc) := by rw [← eu]; exact hkp.up.cell hc0 hnb
 refine callsIn_of_wp Tryz.func67 rfl trivial ?_ rfl
 simp only [Tryz.ntmps67, List.size_toArray, List.length_cons, List.length_nil, Nat.reduceAdd, Nat.reduceSub, Array.replicate_succ, Array.replicate_zero, List.push_toArray, List.append_toArray, List.nil_append, List.cons_append]
 gi_wp2
 refine wpIn_loop (fun a w => ∃ k : Nat, k ≤ l.length ∧ J k w ∧ a.defers = [] ∧ a.tmps.size = 16 ∧ a.tmps.getD 0 undef = .func (.yield yl) #[] #[] ∧ a.tmps.getD 5 undef = u ∧ a.tmps.getD 6 undef = .int .i64 (l.length : Int) ∧ a.tmps.getD 7 undef = .int .i64 (k : Int)) (fun a _ => l.length - (intOf (a.tmps.getD 7 undef)).toNat) ⟨0, Nat.zero_le _, h0, rfl, rfl, rfl, by rw [eu]; rfl, rfl, rfl⟩ ?_
 clear hcw hkp hBlt h0
 rintro a w1 ⟨k, hk, hJ, hd, hsz, t0, t5, t6, t7⟩
 obtain ⟨B1, kp1, lt1⟩ := hK k w1 hJ
 have hg := good _ _ kp1
 have s1 : Sim ⟨Tryz.prog, w1, B1, Z0, ⟨0, 0⟩, 16, []⟩ ⟨[(0, .r (.v (.func (.yield yl) #[] #[]))), (5, .r (.sl 24 (pcs l))), (6, .r (.v (.int .i64 (l.length : Int)))), (7, .r (.v (.int .i64 (k : Int))))], [], 0⟩ a w1 := by
  refine zq1 lt1 hsz hd (by intro p hp; simp only [List.mem_cons, List.not_mem_nil, or_false] at hp; rcases hp with rfl | rfl | rfl | rfl <;> rfl) ?_
  intro p hp
  simp only [List.mem_cons, List.not_mem_nil, or_false] at hp
  rcases hp with rfl | rfl | rfl | rfl
  ·show AV.rep _ _ _ _ (a.tmps.getD 0 undef); rw [t0, AV.rep, RV.rep]
  ·show AV.rep _ _ _ _ (a.tmps.getD 5 undef); rw [t5, AV.rep]; exact hg
  ·show AV.rep _ _ _ _ (a.tmps.getD 6 undef); rw [t6, AV.rep, RV.rep]
  ·show AV.rep _ _ _ _ (a.tmps.getD 7 undef); rw [t7, AV.rep, RV.rep]
 have F0 := ziW Tryz.prog n
 by_cases hlt2 : k < l.length
 ·obtain ⟨x, hx⟩ : ∃ x, l[k]? = some x := ⟨_, List.getElem?_eq_getElem hlt2⟩
  have hgx := zeh hx
  refine wpIn_seq ?_
  refine ze9 (fun S' => Le ⟨0, 0⟩ S' ⟨[(0, .r (.v (.func (.yield yl) #[] #[]))), (5, .r (.sl 24 (pcs l))), (6, .r (.v (.int .i64 (l.length : Int)))), (7, .r (.v (.int .i64 (k : Int)))), (8, .r (.v (.bool true)))], [], 0⟩) F0 rfl s1 ?_ ?_
  ·(repeat' (first | refine zai ?_ | (refine zac (fun hb => ?_) (fun hb => ?_) <;> (try (exfalso; omega))) | fail))
   all_goals exact by (refine Le.mk [] [] zaj zao zav zal)
  intro S2 a2 w2 hle2 hs2 pr2
  have s2 := hle2 _ _ _ rfl hs2
  show Code.wpIn Fence.wide n Tryz.prog _ _ a2 w2
  refine wpIn_seq (wpIn_cond_true (zlo s2 (t := 8) rfl) (wpIn_skip ?_))
  show Code.wpIn Fence.wide n Tryz.prog _ _ a2 w2
  refine wpIn_seq (wpIn_block (wpIn_seq ?_))
  refine ze9 (fun S' => Le ⟨0, 0⟩ S' ⟨[(0, .r (.v (.func (.yield yl) #[] #[]))), (5, .r (.sl 24 (pcs l))), (6, .r (.v (.int .i64 (l.length : Int)))), (7, .r (.v (.int .i64 (k : Int)))), (4, .pt 0 0)], [(0, some (.var 42 (vsA (pcVs x))))], 1⟩) F0 rfl s2 ?_ ?_
  ·(repeat' (first | refine zai ?_ | (refine zac (fun hb => ?_) (fun hb => ?_) <;> (try (exfalso; omega))) | fail))
   all_goals exact by (refine Le.mk [] [] zaj zao zav zal)
  intro S3 a3 w3 hle3 hs3 pr3
  have s3 := hle3 _ _ _ rfl hs3
  show Code.wpIn Fence.wide n Tryz.prog _ _ a3 w3
  refine wpIn_seq (wpIn_region_lit ?_)
  refine zfN (l := [_, _]) (rest := [_, _]) (Q0 := fun S' => Le ⟨0, 0⟩ S' ⟨[(0, .r (.v (.func (.yield yl) #[] #[]))), (5, .r (.sl 24 (pcs l))), (6, .r (.v (.int .i64 (l.length : Int)))), (7, .r (.v (.int .i64 (k : Int)))), (11, .r (.v (.func (.yield yl) #[] #[]))), (12, pcA x)], [], 0⟩) (chk := fun _ => true) F0 (by rfl) _ [] _ _ s3 ?_ ?_
  ·(repeat' (first | refine zai ?_ | (refine zac (fun hb => ?_) (fun hb => ?_) <;> (try (exfalso; omega))) | fail))
   all_goals exact by (refine Le.mk [] [] zaj zao zav zal)
  intro S4 a4 w4 hle4 hs4 pr4
  have s4 := hle4 _ _ _ rfl hs4
  refine zp1 (v := pcv x) rfl rfl (zlo s4 (t := 11) rfl) (zty s4 (t := 12) (vs := pcVs x) rfl) (fun _ => hn) (fun _ => trivial) (hY k (pcv x) w4 (stab k w1 w4 hJ (zhI s4)) (by rw [List.getElem?_map, hx]; rfl)) ?_
  rintro e w5 ⟨rfl, hJ5⟩
  refine ⟨_, rfl, ?_⟩
  obtain ⟨z4, d4⟩ := zjm s4
  have z5 : (a4.put (some 13) (.bool true)).tmps.size = 16 := by show (a4.tmps.setIfInBounds 13 _).size = 16; simpa using z4
  have d5 : (a4.put (some 13) (.bool true)).defers = [] := d4
  have t13 : (a4.put (some 13) (.bool true)).tmps.getD 13 undef = .bool true := ztq (by rw [z4]; show 13 < 16; omega)
  have tr : ∀ t, (t = 0 ∨ t = 5 ∨ t = 6 ∨ t = 7) → (a4.put (some 13) (.bool true)).tmps.getD t undef = a.tmps.getD t undef := by
   intro t ht
   rw [zqV (by rintro ⟨⟩; omega), pr4 t (by rcases ht with rfl | rfl | rfl | rfl <;> simp), pr3 t (by rcases ht with rfl | rfl | rfl | rfl <;> simp), pr2 t (by rcases ht with rfl | rfl | rfl | rfl <;> simp)]
  obtain ⟨B5, kp5, lt5⟩ := hK (k + 1) w5 hJ5
  have hg5 := good _ _ kp5
  have s5 : Sim ⟨Tryz.prog, w5, B5, Z0, ⟨0, 0⟩, 16, []⟩ ⟨[(0, .r (.v (.func (.yield yl) #[] #[]))), (5, .r (.sl 24 (pcs l))), (6, .r (.v (.int .i64 (l.length : Int)))), (7, .r (.v (.int .i64 (k : Int)))), (13, .r (.v (.bool true)))], [], 0⟩ (a4.put (some 13) (.bool true)) w5 := by
   refine zq1 lt5 z5 d5 (by intro p hp; simp only [List.mem_cons, List.not_mem_nil, or_false] at hp; rcases hp with rfl | rfl | rfl | rfl | rfl <;> rfl) ?_
   intro p hp
   simp only [List.mem_cons, List.not_mem_nil, or_false] at hp
   rcases hp with rfl | rfl | rfl | rfl | rfl
   ·show AV.rep _ _ _ _ ((a4.put (some 13) (.bool true)).tmps.getD 0 undef); rw [tr 0 (by simp), t0, AV.rep, RV.rep]
   ·show AV.rep _ _ _ _ ((a4.put (some 13) (.bool true)).tmps.getD 5 undef); rw [tr 5 (by simp), t5, AV.rep]; exact hg5
   ·show AV.rep _ _ _ _ ((a4.put (some 13) (.bool true)).tmps.getD 6 undef); rw [tr 6 (by simp), t6, AV.rep, RV.rep]
   ·show AV.rep _ _ _ _ ((a4.put (some 13) (.bool true)).tmps.getD 7 undef); rw [tr 7 (by simp), t7, AV.rep, RV.rep]
   ·show AV.rep _ _ _ _ ((a4.put (some 13) (.bool true)).tmps.getD 13 undef); rw [t13, AV.rep, RV.rep]
  refine zlS (fun S' => Le ⟨0, 0⟩ S' ⟨[(0, .r (.v (.func (.yield yl) #[] #[]))), (5, .r (.sl 24 (pcs l))), (6, .r (.v (.int .i64 (l.length : Int)))), (7, .r (.v (.int .i64 (k : Int)))), (14, .r (.v (.bool false)))], [], 0⟩) F0 rfl s5 ?_ ?_
  ·(repeat' (first | refine zai ?_ | (refine zac (fun hb => ?_) (fun hb => ?_) <;> (try (exfalso; omega))) | fail))
   all_goals exact by (refine Le.mk [] [] zaj zao zav zal)
  intro S6 a6 w6 hle6 hs6 pr6
  have s6 := hle6 _ _ _ rfl hs6
  show Code.wpIn Fence.wide n Tryz.prog _ _ a6 w6
  refine wpIn_cond_false (zlo s6 (t := 14) rfl) (wpIn_skip ?_)
  show Code.wpIn Fence.wide n Tryz.prog _ _ a6 w6
  have hw : IntKind.i64.wrap ((k : Int) + 1) = ((k + 1 : Nat) : Int) := zaT k (by omega)
  refine ze9 (fun S' => Le ⟨0, 0⟩ S' ⟨[(0, .r (.v (.func (.yield yl) #[] #[]))), (6, .r (.v (.int .i64 (l.length : Int)))), (7, .r (.v (.int .i64 ((k + 1 : Nat) : Int))))], [], 0⟩) F0 rfl s6 ?_ ?_
  ·(repeat' (first | refine zai ?_ | (refine zac (fun hb => ?_) (fun hb => ?_) <;> (try (exfalso; omega))) | fail))
   all_goals exact by (refine Le.mk [] [] zaj zao zav zal)
  intro S7 a7 w7 hle7 hs7 pr7
  have s7 := hle7 _ _ _ rfl hs7
  obtain ⟨z7, d7⟩ := zjm s7
  have h7 := zlo s7 (t := 7) rfl
  refine ⟨⟨k + 1, by omega, stab _ _ _ hJ5 (zhI s7), d7, z7, zlo s7 rfl, ?_, zlo s7 rfl, h7⟩, ?_⟩
  ·rw [pr7 5 (by simp), pr6 5 (by simp), tr 5 (by simp)]; exact t5
  ·show l.length - (intOf (a7.tmps.getD 7 undef)).toNat < l.length - (intOf (a.tmps.getD 7 undef)).toNat
   rw [h7, t7]
   simp only [intOf]
   omega
 ·have hke : k = l.length := by omega
  refine wpIn_seq ?_
  refine ze9 (fun S' => Le ⟨0, 0⟩ S' ⟨[(8, .r (.v (.bool false)))], [], 0⟩) F0 rfl s1 ?_ ?_
  ·(repeat' (first | refine zai ?_ | (refine zac (fun hb => ?_) (fun hb => ?_) <;> (try (exfalso; omega))) | fail))
   all_goals exact by (refine Le.mk [] [] zaj zao zav zal)
  intro S2 a2 w2 hle2 hs2 pr2
  have s2 := hle2 _ _ _ rfl hs2
  obtain ⟨z2, d2⟩ := zjm s2
  show Code.wpIn Fence.wide n Tryz.prog _ _ a2 w2
  refine wpIn_seq (wpIn_cond_false (zlo s2 (t := 8) rfl) (wpIn_exit ?_))
  refine ⟨d2, _, results_none rfl _ _ _, ⟨_, rfl⟩, ?_⟩
  rw [List.length_map, ← hke]
  exact stab _ _ _ hJ (zhI s2)
attribute [local go_sem] Oper.semAt_some
def itA (l : List Pc) : AV := .cl 67 [.rp [.sl 24 (pcs l)]]
theorem zm5 {B : Nat → Prop} {w : World} {sz : Nat} {es : List (List RV)} {u : Value} (h : RV.rep B w (.sl sz es) u) : u.oneCell' = true := by
 rw [RV.rep] at h
 obtain ⟨A, c, rfl, _⟩ := h
 rfl
theorem zqB (l : List Pc) : zan Tryz.prog 35 [.r (.sl 24 (pcs l))] [] (itA l) [] := by
 refine zol (fun _ => rfl) fun w Z M us hM hr => ?_
 rw [AV.reps] at hr
 obtain ⟨u, us', rfl, h1, h2⟩ := hr
 rw [AV.reps] at h2
 subst h2
 rw [AV.rep] at h1
 have ho := zm5 h1
 have key : CallsIn Fence.wide 1 Tryz.prog 35 #[u] w fun e w' => e = .returned (.func (.func 67) #[] #[.pointer (some ⟨w.heap.size, 0, none⟩)]) ∧ w' = w.alloc (.cells #[u] 22) := by
  obtain ⟨A, c, rfl, _⟩ : ∃ A c, u = .slice A (pcs l).length c ∧ True := by
   rw [RV.rep] at h1; obtain ⟨A, c, e, _⟩ := h1; exact ⟨A, c, e, trivial⟩
  refine callsIn_of_wp Tryz.func35 rfl trivial ?_ rfl
  simp only [Tryz.ntmps35, List.size_toArray, List.length_cons, List.length_nil, Nat.reduceAdd, Nat.reduceSub, Array.replicate_succ, Array.replicate_zero, List.push_toArray, List.append_toArray, List.nil_append, List.cons_append]
  gi_wp2
  go_ret
  exact ⟨rfl, rfl⟩
 refine Calls.mono (callsIn_wide.1 key) ?_
 rintro e w' ⟨rfl, rfl⟩
 have hb : Below w.heap.size w (w.alloc (.cells #[u] 22)) := (Below.refl _ _).alloc (Nat.le_refl _) _
 refine ⟨_, rfl, hb, ?_⟩
 unfold itA
 rw [AV.rep]
 refine ⟨_, rfl, ?_⟩
 rw [AV.reps]
 refine ⟨_, [], rfl, ?_, by rw [AV.reps]⟩
 rw [AV.rep]
 refine ⟨_, rfl, by simp, fun h => ?_, ?_⟩
 ·have := hM _ h
  exact absurd this (Nat.lt_irrefl _)
 ·rw [RV.row]
  refine ⟨⟨u, cell_one_new _ _ _ 0 u rfl, ho, RV.rep_mono (Upto.of_below hb) (fun _ _ h => h) _ _ h1⟩, by rw [RV.row]; trivial⟩
theorem zjt {Z : Nat → Value} {B : Nat → Prop} {w : World} : ∀ vs : List Value, AV.reps Z B w (vsA vs) vs
 | [] => by show AV.reps Z B w [] []; rw [AV.reps]
 | v :: vs => by
  show AV.reps Z B w (.r (.v v) :: vsA vs) (v :: vs)
  rw [AV.reps]
  exact ⟨v, vs, rfl, by rw [AV.rep, RV.rep], zjt vs⟩
def asH (l : List Pc) (k : Nat) : List (Nat × Option Blk) := [(0, some (.var 22 [.ow 1])), (1, some (.row 42 24 (pcs (l.take k))))]
theorem zr8 (x : Pc) : (pcA x).ids = [] := by
 obtain ⟨ix, ct, ky, o, p, q, r, s⟩ := x
 rfl
theorem zkz (l : List Pc) (hl : l.length ≤ 1000000) : zan Tryz.prog 96 [.r (.v (.slice none 0 0)), itA l] [] (.fr 42 24 (pcs l)) [] := by
 have hlen : (pcs l).length = l.length := zcZ l
 refine zs2 (n := 4) Tryz.func96 rfl (Nat.le_of_ble_eq_true rfl) rfl fun C a w hP hC hN hdf hs => ?_
 have hN' : C.N = 13 := hN
 have h00 : ([] : List (List RV)) = pcs (l.take 0) := rfl
 refine wpIn_seq (zq9 (Q := fun e S' => e = .normal ∧ Le ⟨0, 0⟩ S' ⟨[(1, itA l), (2, .pt 0 0)], [(0, some (.var 22 [.r (.v (.slice none 0 0))]))], 1⟩) hP hC hs ?_ ?_)
 ·rw [hN']
  unfold itA
  (repeat' (first | refine zai ?_ | (refine zac (fun hb => ?_) (fun hb => ?_) <;> (try (exfalso; omega))) | fail))
  exact ⟨rfl, by (refine Le.mk [] [] zaj zaC zav zal)⟩
 rintro e S1 a1 w1 ⟨rfl, hle1⟩ hs1
 have s1 : Sim C ⟨[(1, itA l), (2, .pt 0 0)], [(0, some (.var 22 [.ow 1])), (1, some (.row 42 24 [])), (0, some (.var 22 [.r (.v (.slice none 0 0))]))], 2⟩ a1 w1 := (hle1 C _ _ hC hs1).nilvar (T' := 42) (sz := 24) (i := 0) rfl
 show Code.wpIn Fence.wide 4 Tryz.prog _ _ a1 w1
 refine wpIn_seq (wpIn_seq (zq9 (Q := fun e S' => e = .normal ∧ Le ⟨0, 0⟩ S' ⟨[(2, .pt 0 0), (6, itA l)], asH l 0, 2⟩) hP hC s1 ?_ ?_))
 ·rw [hN']
  unfold itA
  (repeat' (first | refine zai ?_ | (refine zac (fun hb => ?_) (fun hb => ?_) <;> (try (exfalso; omega))) | fail))
  exact ⟨rfl, by (refine Le.mk [] [] zaj zaC zav zal)⟩
 rintro e S2 a2 w2 ⟨rfl, hle2⟩ hs2
 obtain ⟨Z2, K2, s2⟩ := SimK.of_sim (hle2 C _ _ hC hs2)
 show Code.wpIn Fence.wide 4 Tryz.prog _ _ a2 w2
 have sl := s2.sim.slots 6
 have sl' : AV.rep Z2 (Go.Ab.Own C (famH K2 (St.HF ⟨[(2, .pt 0 0), (6, itA l)], asH l 0, 2⟩) []) Z2) w2 (itA l) (a2.tmps.getD 6 undef) := sl
 unfold itA at sl'
 rw [AV.rep] at sl'
 obtain ⟨lb, e6, hlb⟩ := sl'
 refine wpIn_block (zqb (n := 4) (E := [(2, .pt 0 0), (6, itA l)]) (H := asH l) (nx := 2) (F := []) 1 (vs := l.map pcv) (avs := l.map pcA) hP hC hdf s2 (by rw [hN']; decide) (by omega) (by omega) ?hE e6 (enters_of Tryz.func67 (by kernel_rfl) rfl) (znc l hl hlb) ?hav ?hf0 ?hround ?hdone)
 case hE =>
  intro t i hi
  rcases zex (l := [(2, AV.pt 0 0), (6, itA l)]) (t := t) with e | e
  ·rw [e] at hi; cases hi
  ·simp only [List.mem_cons, List.not_mem_nil, or_false, Prod.mk.injEq] at e
   rcases e with ⟨_, e⟩ | ⟨_, e⟩ <;> rw [e] at hi <;> simp [itA, AV.ids, AV.idss] at hi <;> omega
 case hav =>
  intro k v hv
  rw [List.getElem?_map, Option.map_eq_some_iff] at hv
  obtain ⟨x, hx, rfl⟩ := hv
  refine ⟨pcA x, by rw [List.getElem?_map, hx]; rfl, zr8 x, ?_⟩
  unfold pcA pcv
  rw [AV.rep]
  exact ⟨_, rfl, by simpa using zjt (pcVs x)⟩
 case hf0 =>
  intro k _
  rfl
 case hround =>
  intro k c hk hc F m hF
  rw [List.length_map] at hk
  rw [List.getElem?_map, Option.map_eq_some_iff] at hc
  obtain ⟨x, hx, rfl⟩ := hc
  rw [hN']
  unfold itA asH
  refine zh2 hF ?_
  have hE : pcs (l.take k) ++ [(pcVs x).map RV.v] = pcs (l.take (k + 1)) := by
   unfold pcs
   rw [List.take_add_one, hx, List.map_append]; rfl
  have hlk : (pcs (l.take k)).length = k := by rw [zcZ, List.length_take]; omega
  (repeat' (first | refine zai ?_ | (refine zac (fun hb => ?_) (fun hb => ?_) <;> (try (exfalso; omega))) | fail))
  refine ⟨rfl, rfl, fun F m hF => ?_⟩
  refine zkB (zh2 hF ?_)
  (repeat' (first | refine zai ?_ | (refine zac (fun hb => ?_) (fun hb => ?_) <;> (try (exfalso; omega))) | fail))
  show Exit.normal = Exit.normal ∧ _
  exact ⟨rfl, [(1, 4)], rfl, zc4 (zby zbq hE rfl) (zlx .nil rfl) rfl, fun i hi => by
   have : i = 0 := by omega
   subst this
   rfl⟩
 case hdone =>
  intro D Z' K' W' hS
  show Code.wpIn Fence.wide 4 Tryz.prog (Code.seq _ _) _ _ _
  have e9 : asH l (l.map pcv).length = [(0, some (.var 22 [.ow 1])), (1, some (.row 42 24 (pcs l)))] := by
   unfold asH
   rw [List.length_map, List.take_length]
  rw [e9] at hS
  refine zsL (C := { C with df := [{ target := .collected D, args := #[] }] }) (Q := fun e S' => (e = .normal ∨ e = .ret) ∧ zgB Tryz.prog ⟨0, 0⟩ Tryz.f96 S' (.fr 42 24 (pcs l)) []) hP hC rfl hS ?_ ?_
  ·show awp _ _ C.N _ _ _
   rw [hN']
   unfold itA
   (repeat' (first | refine zai ?_ | (refine zac (fun hb => ?_) (fun hb => ?_) <;> (try (exfalso; omega))) | fail))
   exact ret1 [] (.fr 1 _ _ _ rfl) rfl rfl rfl
  ·rintro e S' a' w' Z'' K'' ⟨h1, h2⟩ h3
   exact ⟨h1, S', D, Z'', K'', h2, h3⟩
theorem znN (l : List Pc) (hl : l.length ≤ 1000000) : zan Tryz.prog 65 [itA l] [] (.fr 42 24 (pcs l)) [] := by
 have cA := zkz l hl
 refine zap Tryz.func65 rfl (Nat.le_of_ble_eq_true rfl) rfl rfl ?_
 unfold itA at *
 (repeat' (first | refine zai ?_ | (refine is_f 96 ?_; refine zah (cA) ?_) | (refine zac (fun hb => ?_) (fun hb => ?_) <;> (try (exfalso; omega))) | fail))
 exact ret1 [] (.fr 0 _ _ _ rfl) rfl rfl rfl
theorem zlL {β : Type} [Inhabited β] (e : β → Value) {w : World} {g T : Nat} {cur : Array Value} {D : Array β} (hg : w.heap[g]? = some (.cells cur T (0, 0))) (ht : cur.toList.take D.size = D.toList.map e) : Go.Sort.Holds e w g 0 D := by
 intro j hj
 have h1 : (cur.toList.take D.size)[j]? = some (e D[j]!) := by
  rw [ht, List.getElem?_map, getElem!_pos D j hj]
  simp [hj]
 rw [List.getElem?_take_of_lt hj] at h1
 have h2 : cur[j]? = some (e D[j]!) := by simpa using h1
 constructor
 ·simp only [World.cell?, hg, Nat.zero_add]
  simpa using h2
 ·simp [World.frozen?, hg]
theorem zjO {α : Type} [Inhabited α] (enc : α → List Value) {k : Nat} (hk : ∀ x, (enc x).length = k) (d : Array α) : (Go.Sort.flatK enc k d).toList = (d.toList.map enc).flatten := by
 have hk' : ∀ e ∈ d.toList.map enc, e.length = k := fun e he => by
  obtain ⟨x, _, rfl⟩ := List.mem_map.1 he; exact hk x
 apply List.ext_getElem?
 intro t
 rcases Nat.lt_or_ge t (d.size * k) with h | h
 ·have hkp : 0 < k := by
   rcases Nat.eq_zero_or_pos k with h0 | h0
   ·subst h0; simp at h
   ·exact h0
  have hq : t / k < d.size := (Nat.div_lt_iff_lt_mul hkp).2 h
  have hr : t % k < k := Nat.mod_lt _ hkp
  have e1 : (d.toList.map enc)[t / k]? = some (enc d[t / k]!) := by
   rw [List.getElem?_map, getElem!_pos d _ hq]; simp [hq]
  have e2 : (enc d[t / k]!)[t % k]? = some (enc d[t / k]!)[t % k]! := by
   rw [getElem!_pos (enc d[t / k]!) _ (by rw [hk]; exact hr)]
   simp [hk, hr]
  have e3 := zgH hk' e1 e2
  rw [show t / k * k + t % k = t by rw [Nat.mul_comm]; exact Nat.div_add_mod t k] at e3
  rw [e3]
  have : (Go.Sort.flatK enc k d)[t]? = some (Go.Sort.flatK enc k d)[t]! := by
   rw [getElem!_pos (Go.Sort.flatK enc k d) t (by simpa using h)]
   simp [h]
  rw [Array.getElem?_toList, this, Go.Sort.get_flatK enc k d t h]
 ·rw [List.getElem?_eq_none (by simpa using h), List.getElem?_eq_none (by rw [zcg k _ hk']; simpa using h)]
def zcJ (l : List Int) : List Int := l.mergeSort fun x y => decide (x ≤ y)
theorem zl2 (k : IntKind) (l : List Int) : nums k l = rawR (l.map fun z => [Value.int k z]) := by simp [nums, rawR]
theorem zjP (k : IntKind) (l : List Int) : (l.map fun z => [Value.int k z]).flatten = l.map (Value.int k) := by
 induction l with
 | nil => rfl
 | cons x l ih => rw [List.map_cons, List.flatten_cons, ih]; rfl
theorem zsz (zs : List Int) (hl : zs.length ≤ 1000000) : zan Tryz.prog 38 [.ow 0] [.row 3 1 (nums .i64 zs)] (.tu []) [some (.row 3 1 (nums .i64 (zcJ zs)))] := by
 rw [zl2, zl2]
 refine zie (rest := []) ((List.mergeSort_perm _ _).map _) (fun h w Z M us hr => ?_) (fun w Z M us g cap cur hr hg hnc hcm hcs ht => ?_)
 ·rw [AV.reps] at hr
  subst hr
  refine Calls.mono (Tryz.slices_Sort_int_none none 0 w) ?_
  rintro e w' ⟨rfl, rfl⟩
  exact ⟨rfl, Below.refl _ _⟩
 ·rw [AV.reps] at hr
  subst hr
  rw [zjP] at ht
  rw [List.length_map] at *
  rw [Nat.mul_one] at *
  have hH : Go.Sort.Holds (Value.int .i64) w g 0 zs.toArray := zlL _ hg (by simpa using ht)
  refine Calls.mono (Tryz.slices_Sort_int g 0 cap zs w hH (zcs hg) (by omega)) ?_
  rintro e w' ⟨rfl, n, os, rfl⟩
  have hml : (zcJ zs).length = zs.length := (List.mergeSort_perm _ _).length_eq
  obtain ⟨cur', q1, q2, q3, q4⟩ := zgu (Value.int .i64) (n := n) (D := (zcJ zs).toArray) (os := os) hg (by simp [hml]; omega)
  refine ⟨rfl, cur', q1, q2, ?_, q4⟩
  rw [zjP]
  simpa [hml] using q3
abbrev Pk := { x : Pc // x.c.ok }
instance : Inhabited Pk := ⟨⟨⟨0, 0, 0, ⟨true, 0, 0, 0, 0⟩⟩, .inl ⟨rfl, rfl, rfl, rfl, rfl⟩⟩⟩
theorem znf {W w' : World} (h : Upto (fun _ => False) W w') (hd : W.drawn ≤ w'.drawn) : ∃ q os', w' = Go.Sort.grow (W.drewN q) os' := by
 refine ⟨w'.drawn - W.drawn, w'.heap.extract W.heap.size w'.heap.size, ?_⟩
 obtain ⟨h1, h2, h3, h4, h5⟩ := h
 obtain ⟨heap, tape, drawn, os, output⟩ := w'
 obtain ⟨heap0, tape0, drawn0, os0, output0⟩ := W
 simp only at h1 h2 h3 h4 h5 hd
 subst h1 h2 h3
 unfold Go.Sort.grow World.drewN
 simp only [World.mk.injEq, true_and, and_true]
 refine ⟨?_, by omega⟩
 apply Array.ext_getElem?
 intro k
 rcases Nat.lt_or_ge k heap0.size with h | h
 ·rw [Array.getElem?_append_left h]; exact h5 k h fun h => h
 ·rw [Array.getElem?_append_right h, Array.getElem?_extract]
  simp only [Nat.min_self]
  split
  ·congr 1; omega
  ·rw [Array.getElem?_eq_none (by omega)]
theorem zl9 (x : Pc) : (pcVs x).length = 24 := by
 obtain ⟨ix, ct, ky, o, p, q, r, s⟩ := x
 rfl
theorem zp3 (x : Pc) : ∀ v ∈ pcVs x, v.oneCell' = true := by
 obtain ⟨ix, ct, ky, o, p, q, r, s⟩ := x
 have : (pcVs ⟨ix, ct, ky, o, p, q, r, s⟩).all (·.oneCell') = true := rfl
 exact List.all_eq_true.1 this
theorem zoz {Z : Nat → Value} {B : Nat → Prop} {w : World} (x : Pc) : AV.rep Z B w (pcA x) (pcv x) := by
 unfold pcA pcv
 rw [AV.rep]
 exact ⟨_, rfl, by simpa using zjt (pcVs x)⟩
theorem zro (blk n : Nat) (w : World) : Go.Proofs.CmpLays Tryz.prog 36 #[] (fun x : Pk => pcVs x.1) 24 (fun x y => cmpP x.1 y.1) blk 0 n w := by
 intro m os dk hs x y
 have h := zmE x.1 y.1 x.2 y.2 (sortWorldK (fun x : Pk => pcVs x.1) 24 w blk 0 m dk os) (fun _ => undef) (fun _ => False) 0 [pcv x.1, pcv y.1] (fun _ h => h.elim) (Nat.le_refl _) (by
  rw [AV.reps]; refine ⟨_, _, rfl, zoz _, ?_⟩
  rw [AV.reps]; exact ⟨_, _, rfl, zoz _, by rw [AV.reps]⟩) (fun i b h => (nomatch h)) (fun i j b c h => (nomatch h))
 refine Calls.mono (Go.Dr.calls_d h fun e w' ⟨v, hv, _⟩ => ⟨v, hv⟩) ?_
 rintro e w' ⟨⟨v, rfl, Z', hA⟩, hd⟩
 have hv : v = .int .i64 (cmpP x.1 y.1) := by
  have := hA.out
  rw [show (zaJ 0 [] (.r (.v (.int .i64 (cmpP x.1 y.1)))) []).out = .r (.v (.int .i64 (cmpP x.1 y.1))) from rfl, AV.rep, RV.rep] at this
  exact this
 subst hv
 exact ⟨rfl, znf (hA.upto.mono fun k _ ⟨i, o, h, _⟩ => (nomatch h)) hd⟩
def cpF : AV := .r (.v (.func (.func 36) #[] #[]))
attribute [local go_sem] Oper.semAt_some
theorem zs7 (n : Nat) (cb : Value) (w : World) : CallsIn Fence.wide n Tryz.prog 131 #[.slice none 0 0, .int .i64 0, .int .i64 0, cb] w fun e w' => e = .returned (.tuple #[]) ∧ w' = w := by
 refine callsIn_of_wp Tryz.func131 rfl trivial ?_ rfl
 simp only [Tryz.ntmps131, List.size_toArray, List.length_cons, List.length_nil, Nat.reduceAdd, Nat.reduceSub, Array.replicate_succ, Array.replicate_zero, List.push_toArray, List.append_toArray, List.nil_append, List.cons_append]
 gi_wp2
 refine wpIn_loop_once ?_
 gi_wp2
 go_end0
 exact ⟨rfl, rfl⟩
theorem ztp (n : Nat) (cb : Value) (w : World) : CallsIn Fence.wide n Tryz.prog 97 #[.slice none 0 0, .int .i64 0, .int .i64 0, .int .i64 0, cb] w fun e w' => e = .returned (.tuple #[]) ∧ w' = w := by
 refine callsIn_of_wp Tryz.func97 rfl trivial ?_ rfl
 simp only [Tryz.ntmps97, List.size_toArray, List.length_cons, List.length_nil, Nat.reduceAdd, Nat.reduceSub, Array.replicate_succ, Array.replicate_zero, List.push_toArray, List.append_toArray, List.nil_append, List.cons_append]
 gi_wp2
 refine wpIn_loop_once ?_
 gi_wp2
 refine ⟨trivial, (fun h => nomatch h), (zs7 _ cb w).mono ?_⟩
 rintro e w' ⟨rfl, rfl⟩
 gi_wp2
 exact bodyPost_ret (results_none rfl _ _ _) rfl ⟨rfl, rfl⟩
theorem zsA (n : Nat) (cb : Value) (w : World) : CallsIn Fence.wide n Tryz.prog 66 #[.slice none 0 0, cb] w fun e w' => e = .returned (.tuple #[]) ∧ w' = w := by
 have hB : Calls Tryz.prog 74 #[.int .u64 0] w fun e w' => e = .returned (.int .i64 0) ∧ w' = w := (Tryz.bits_Len 0 w (by omega) (by omega)).mono fun e w' h => ⟨h.1, h.2⟩
 refine callsIn_of_wp Tryz.func66 rfl trivial ?_ rfl
 simp only [Tryz.ntmps66, List.size_toArray, List.length_cons, List.length_nil, Nat.reduceAdd, Nat.reduceSub, Array.replicate_succ, Array.replicate_zero, List.push_toArray, List.append_toArray, List.nil_append, List.cons_append]
 gi_wp2
 refine ⟨trivial, (fun h => nomatch h), (callsIn_wide.2 hB).mono ?_⟩
 rintro e w' ⟨rfl, rfl⟩
 gi_wp2
 refine ⟨trivial, (fun h => nomatch h), (ztp _ cb _).mono ?_⟩
 rintro e w' ⟨rfl, rfl⟩
 gi_wp2
 go_end0
 exact ⟨rfl, rfl⟩
theorem zqr (l : List Pc) (hl : l.length ≤ 1000000) (h : PcOk l) : zan Tryz.prog 66 [.ow 0, cpF] [.row 42 24 (pcs l)] (.tu []) [some (.row 42 24 (pcs (zdP l)))] := by
 have e0 : ∀ m : List Pc, pcs m = rawR (m.map pcVs) := fun m => by simp [pcs, rawR]
 rw [e0, e0]
 refine zie (rest := [cpF]) ((zca l).map _) (fun h w Z M us hr => ?_) (fun w Z M us g cap cur hr hg hnc hcm hcs ht => ?_)
 ·rw [AV.reps] at hr
  obtain ⟨u, us', rfl, h1, h2⟩ := hr
  rw [AV.reps] at h2
  subst h2
  refine Calls.mono (callsIn_wide.1 (zsA 9 u w)) ?_
  rintro e w' ⟨rfl, rfl⟩
  exact ⟨rfl, Below.refl _ _⟩
 ·rw [AV.reps] at hr
  obtain ⟨u, us', rfl, h1, h2⟩ := hr
  rw [AV.reps] at h2
  subst h2
  rw [cpF, AV.rep, RV.rep] at h1
  subst h1
  rw [List.length_map] at *
  let d : Array Pk := (l.attach.map fun x => (⟨x.1, h.c x.1 x.2⟩ : Pk)).toArray
  have hd : d.toList.map (·.1) = l := by simp [d, List.map_map, Function.comp_def]
  have hds : d.size = l.length := by simp [d]
  have hflat : ∀ d : Array Pk, (Go.Sort.flatK (fun x : Pk => pcVs x.1) 24 d).toList = ((d.toList.map (·.1)).map pcVs).flatten := fun d => by
   rw [zjO (fun x : Pk => pcVs x.1) (fun x => zl9 x.1), List.map_map]; rfl
  have hH : Go.Sort.HoldsK (fun x : Pk => pcVs x.1) 24 w g 0 d := by
   refine zlL id hg ?_
   rw [hflat, hd, Go.Sort.size_flatK, hds, ht, List.map_id]
  refine Calls.mono (hds ▸ Tryz.slices_SortFunc_pc (fun x : Pk => pcVs x.1) (fun x => zl9 x.1) (fun x => zp3 x.1) (fun x y => cmpP x.1 y.1) swoP 36 #[] g 0 cap d w (enters_of Tryz.func36 (by kernel_rfl) rfl) (zro _ _ _) hH (zcs hg) (by omega)) ?_
  rintro e w' ⟨rfl, d', n, os, hp, hs, rfl⟩
  have hs' : d'.size = l.length := hp.1.trans hds
  have hlist : d'.toList.map (·.1) = zdP l := by
   refine zjq h.c h.nd ?_ ?_
   ·have h1 := hp.2.2
    rw [← hs', Array.extract_size, hs', ← hds, Array.extract_size] at h1
    rw [← hd]
    exact h1.map _
   ·rw [List.pairwise_map, List.pairwise_iff_getElem]
    intro i j hi hj hij
    have hi' : i < d'.size := by simpa using hi
    have hj' : j < d'.size := by simpa using hj
    have h1 := hs i j (Nat.zero_le _) hij (by omega)
    rw [getElem!_pos d' i hi', getElem!_pos d' j hj'] at h1
    simp only [ltOf, decide_eq_false_iff_not, Int.not_lt] at h1
    exact (zcY.le (d'[i]).2 (d'[j]).2).2 h1
  obtain ⟨cur', q1, q2, q3, q4⟩ := zgu id (n := n) (D := Go.Sort.flatK (fun x : Pk => pcVs x.1) 24 d') (os := os) hg (by rw [Go.Sort.size_flatK, hs', hcs]; exact Nat.mul_le_mul_right _ hnc)
  refine ⟨rfl, cur', q1, q2, ?_, q4⟩
  rw [hflat, hlist, Go.Sort.size_flatK, hs', List.map_id] at q3
  exact q3
theorem zkr (l : List Pc) (hl : l.length ≤ 1000000) (h : PcOk l) : zan Tryz.prog 34 [itA l, cpF] [] (.fr 42 24 (pcs (zdP l))) [] := by
 have c1 := znN l hl
 have c2 := zqr l hl h
 refine zap Tryz.func34 rfl (Nat.le_of_ble_eq_true rfl) rfl rfl ?_
 unfold itA cpF at *
 (repeat' (first | refine zai ?_ | (refine is_f 65 ?_; refine zah (c1) ?_) | (refine is_f 66 ?_; refine zbd (c2) ?_) | (refine zac (fun hb => ?_) (fun hb => ?_) <;> (try (exfalso; omega))) | fail))
 exact ret1 [] (.fr 0 _ _ _ rfl) rfl rfl rfl
end Go.Proofs.YtibedaeefnjjlaaGreat
namespace Go.Proofs.YtibedaeefnjjlaaGreat
open Go.RowKit Go.Ab Go.Wd
theorem zdW {H : Nat → Option Blk} {ρ : Nat → Nat} {G : List Nat} {cs ds : List AV} : ∀ (vs : List Value) (_ : CfL H ρ G cs ds), CfL H ρ G (vsA vs ++ cs) (vsA vs ++ ds)
 | [], h => h
 | v :: vs, h => .cons _ _ _ _ (.r _) (zdW vs h)
theorem zaL {H : Nat → Option Blk} {ρ : Nat → Nat} {G : List Nat} (vs : List Value) : CfL H ρ G (vsA vs) (vsA vs) := by
 have := zdW (H := H) (ρ := ρ) (G := G) vs .nil
 rwa [List.append_nil] at this
theorem zg1 {H : Nat → Option Blk} {ρ : Nat → Nat} {G : List Nat} {ky : Int} {i j : Nat} {c : Cn} (e : ρ i = j) : CfL H ρ G (gwC ky (.ow j) c) (gwC ky (.ow i) c) := by
 subst e
 exact .cons _ _ _ _ (.r _) (zdW _ (.cons _ _ _ _ (.ow _) (zaL _)))
theorem znz {H : Nat → Option Blk} {ρ : Nat → Nat} {G : List Nat} {ky : Int} {v : Value} {c : Cn} : CfL H ρ G (gwC ky (.r (.v v)) c) (gwC ky (.r (.v v)) c) :=
 .cons _ _ _ _ (.r _) (zdW _ (.cons _ _ _ _ (.r _) (zaL _)))
theorem zhN : ∀ (vs : List Value) (cs : List AV) (k : Nat), AV.unfrs (vsA vs ++ cs) k = (vsA vs ++ (AV.unfrs cs k).1, (AV.unfrs cs k).2)
 | [], cs, k => rfl
 | v :: vs, cs, k => by
  show AV.unfrs (.r (.v v) :: (vsA vs ++ cs)) k = _
  rw [AV.unfrs]
  simp only [AV.unfr, List.length_nil, Nat.add_zero, List.nil_append]
  rw [zhN vs cs k]
  rfl
theorem zix (vs : List Value) (k : Nat) : AV.unfrs (vsA vs) k = (vsA vs, []) := by
 have := zhN vs [] k
 rw [List.append_nil] at this
 rw [this, AV.unfrs]; simp
theorem zmq (ky : Int) (s : AV) (c : Cn) (k : Nat) (h : (s.unfr k).2.length = (s.unfr k).2.length) : AV.unfrs (gwC ky s c) k = (gwC ky (s.unfr k).1 c, (s.unfr k).2) := by
 unfold gwC
 rw [AV.unfrs]
 simp only [AV.unfr, List.length_nil, Nat.add_zero, List.nil_append]
 rw [zhN, AV.unfrs]
 simp only [zix, List.append_nil]
theorem zje (j : Nat → Nat) : ∀ (vs : List Value) (cs : List AV), AV.rens j (vsA vs ++ cs) = vsA vs ++ AV.rens j cs
 | [], cs => rfl
 | v :: vs, cs => by
  show AV.rens j (.r (.v v) :: (vsA vs ++ cs)) = _
  rw [AV.rens, zje j vs cs]; rfl
theorem zoW (j : Nat → Nat) (vs : List Value) : AV.rens j (vsA vs) = vsA vs := by
 have := zje j vs []
 rw [List.append_nil] at this
 rw [this, AV.rens, List.append_nil]
theorem zoV (j : Nat → Nat) (ky : Int) (s : AV) (c : Cn) : AV.rens j (gwC ky s c) = gwC ky (s.ren j) c := by
 unfold gwC
 rw [AV.rens, zje, AV.rens, zoW]; rfl
theorem zlN (vs : List Value) (cs : List AV) : AV.idss (vsA vs ++ cs) = AV.idss cs := by
 induction vs with
 | nil => rfl
 | cons v vs ih => show AV.idss (.r (.v v) :: (vsA vs ++ cs)) = _; rw [AV.idss, ih]; rfl
theorem zez (vs : List Value) : AV.idss (vsA vs) = [] := by
 have := zlN vs []
 rw [List.append_nil] at this
 rw [this]; rfl
theorem zkQ (ky : Int) (s : AV) (c : Cn) : AV.idss (gwC ky s c) = s.ids := by
 unfold gwC
 rw [AV.idss, zlN, AV.idss, zez, List.append_nil]; rfl
section
variable {P : Program} {L : Ln} {N : Nat} {ops : Array Oper} {chk : List (Nat × Sp) → Bool} {Q : St → Prop} {l : List Oper} {E : List (Nat × AV)} {H : List (Nat × Option Blk)} {n : Nat} {tr : List (Nat × Sp)}
variable {d : Nat} {ty : TypeId} {pos : String} {af : Array Edge} {g : Option (Nat × Bool)}
theorem zmv {f : FuncId} {xs : Array Operand} {ats : Array TypeId} {ds : List AV} {r : AV} (J : List Nat) (pre : List Blk) (post : List (Option Blk)) (pre' : List Blk) (UP : List (Option Blk)) (UB : List Blk) (PX : List (Option Blk)) (hm : zgT P f ds pre r post) (hr : r.unfr n = (r, [])) (hu : zbD post n = (UP, UB)) (hpx : UP.map (Option.map (Blk.ren (jren J))) = PX)
  (hargs : CfL (getH H) (fun i => J.getD i 0) [] (xs.toList.map (evA (get E))) ds) (hf : ziL P f = true)
  (hH : ∀ i b, (i, b) ∈ rdOf J pre' → getH H i = some b) (hcf : CfBs (getH H) (fun i => J.getD i 0) pre' pre) (hpre : preX J n UB.length pre post UP ds L = true) (hrng : rngB r n UB.length = true)
  (hd : Nat.blt d N = true) (hg : zbo ops (get E) ⟨some d, .call { callee := .value (.func f), args := xs, argTypes := ats }, ty, pos, af, g⟩ true)
  (h : wpA P L N ops chk Q l ⟨(d, r) :: E, frsL n UB ++ (zbg J PX ++ H), n + UB.length⟩ ((n, ⟨true, rdOf J pre', r, zbg J PX, UB⟩) :: tr)) :
  wpA P L N ops chk Q (⟨some d, .call { callee := .value (.func f), args := xs, argTypes := ats }, ty, pos, af, g⟩ :: l) ⟨E, H, n⟩ tr := by
 have e0 : zbD post (n + (r.unfr n).2.length) = (UP, UB) := by rw [hr]; exact hu
 have e1 : frsX n r post = UB := by unfold frsX; rw [e0, hr]; rfl
 have e2 : zj5 J n r post = PX := by unfold zj5; rw [e0]; exact hpx
 refine zsH J pre post pre' hm hargs hf hH hcf (by rw [e1, e0]; exact hpre) (by rw [e1, hr]; exact hrng) hd hg ?_
 rw [e1, e2, hr]
 exact h
theorem zsJ {a b : Operand} {ats : Array TypeId} {es : List (List RV)} {ky : Int} {st : List Int} {c c' : Cn} {x : Pc} (hst : st.length ≤ 1000000) (hc : c.ok) (hx : x.c.ok) (hm : zco c x.c = some c') (hk : ky = x.ky)
  (hE1 : evA (get E) a = .pe 0 33 es.length 0) (hE2 : evA (get E) b = pcA x) (hH0 : getH H 0 = some (.rowo 87 33 es (gwC ky (.ow 2) c))) (hH2 : getH H 2 = some (.row 3 1 (nums .i64 st)))
  (hd : Nat.blt d N = true) (hg : zbo ops (get E) ⟨some d, .call { callee := .value (.func 37), args := #[a, b], argTypes := ats }, ty, pos, af, g⟩ true)
  (h : wpA Tryz.prog ⟨3, 3⟩ N ops chk Q l ⟨(d, .r (.v (.bool true))) :: E, (3, some (.row 3 1 (nums .i64 (st ++ [x.ix])))) :: (2, none) :: (0, some (.rowo 87 33 es (gwC ky (.ow 3) c'))) :: H, 4⟩
   ((3, ⟨true, [(2, .row 3 1 (nums .i64 st)), (0, .rowo 87 33 es (gwC ky (.ow 2) c))], .r (.v (.bool true)), [(2, none), (0, some (.rowo 87 33 es (gwC ky (.ow 3) c')))], [.row 3 1 (nums .i64 (st ++ [x.ix]))]⟩) :: tr)) :
  wpA Tryz.prog ⟨3, 3⟩ N ops chk Q (⟨some d, .call { callee := .value (.func 37), args := #[a, b], argTypes := ats }, ty, pos, af, g⟩ :: l) ⟨E, H, 3⟩ tr := by
 have hm := zqt es ky st c c' x hst hc hx hm hk
 have hids : Blk.ids (.rowo 87 33 es (gwC ky (.ow 0) c)) = [0] := zkQ _ _ _
 have hids3 : Blk.ids (.rowo 87 33 es (gwC ky (.ow 3) c')) = [3] := zkQ _ _ _
 refine zmv [2, 0] _ _ [.row 3 1 (nums .i64 st), .rowo 87 33 es (gwC ky (.ow 2) c)] [none, some (.rowo 87 33 es (gwC ky (.ow 3) c'))] [.row 3 1 (nums .i64 (st ++ [x.ix]))] [none, some (.rowo 87 33 es (gwC ky (.ow 3) c'))] hm rfl ?_ ?_ ?_ (by kernel_rfl) ?_ ?_ ?_ ?_ hd hg h
 ·rw [zbD, zbD, zfE, zmq _ _ _ _ rfl, zbD]; rfl
 ·show [none, some (Blk.rowo 87 33 es (AV.rens (jren [2, 0]) (gwC ky (.ow 3) c')))] = _
  rw [zoV]; rfl
 ·show CfL _ _ _ [evA (get E) a, evA (get E) b] [_, _]
  rw [hE1, hE2]
  exact .cons _ _ _ _ (Cf.pe 1 33 es.length 0) (.cons _ _ _ _ (.ag _ _ (zaL _)) .nil)
 ·intro i b' h'
  simp only [rdOf, List.mem_cons, List.not_mem_nil, or_false, Prod.mk.injEq] at h'
  rcases h' with ⟨rfl, rfl⟩ | ⟨rfl, rfl⟩
  ·exact hH2
  ·exact hH0
 ·exact .cons _ _ _ _ (.row _ _ _) (.cons _ _ _ _ (.rowo _ _ _ _ _ (zg1 rfl)) .nil)
 ·unfold preX
  simp only [List.all_cons, List.all_nil, hids, hids3]
  have : AV.idss [AV.pe 1 33 es.length 0, pcA x] = [1] := by
   have h1 : (pcA x).ids = [] := zez _
   show [1] ++ ((pcA x).ids ++ []) = [1]
   rw [h1]; rfl
  rw [this]
  rfl
 ·rfl
theorem zsI {a b : Operand} {ats : Array TypeId} {es : List (List RV)} {ky : Int} {st : List Int} {c : Cn} {x : Pc} (hc : c.ok) (hx : x.c.ok) (hn : ∀ c', zco c x.c = some c' → ky ≠ x.ky)
  (hE1 : evA (get E) a = .pe 0 33 es.length 0) (hE2 : evA (get E) b = pcA x) (hH0 : getH H 0 = some (.rowo 87 33 es (gwC ky (.ow 2) c))) (hH2 : getH H 2 = some (.row 3 1 (nums .i64 st)))
  (hd : Nat.blt d N = true) (hg : zbo ops (get E) ⟨some d, .call { callee := .value (.func 37), args := #[a, b], argTypes := ats }, ty, pos, af, g⟩ true)
  (h : wpA Tryz.prog ⟨3, 3⟩ N ops chk Q l ⟨(d, .r (.v (.bool false))) :: E, (2, some (.row 3 1 (nums .i64 st))) :: (0, some (.rowo 87 33 es (gwC ky (.ow 2) c))) :: H, 3⟩
   ((3, ⟨true, [(2, .row 3 1 (nums .i64 st)), (0, .rowo 87 33 es (gwC ky (.ow 2) c))], .r (.v (.bool false)), [(2, some (.row 3 1 (nums .i64 st))), (0, some (.rowo 87 33 es (gwC ky (.ow 2) c)))], []⟩) :: tr)) :
  wpA Tryz.prog ⟨3, 3⟩ N ops chk Q (⟨some d, .call { callee := .value (.func 37), args := #[a, b], argTypes := ats }, ty, pos, af, g⟩ :: l) ⟨E, H, 3⟩ tr := by
 have hm : zgT Tryz.prog 37 [.pe 1 33 es.length 0, pcA x] [.row 3 1 (nums .i64 st), .rowo 87 33 es (gwC ky (.ow 0) c)] (.r (.v (.bool false)))
   [some (.row 3 1 (nums .i64 st)), some (.rowo 87 33 es (gwC ky (.ow 0) c))] := by
  cases hm : zco c x.c with
  | none => exact zm8 es ky st c x hc hx hm
  | some c' => exact zm9 es ky st c c' x hc hx hm (hn c' hm)
 have hids : Blk.ids (.rowo 87 33 es (gwC ky (.ow 0) c)) = [0] := zkQ _ _ _
 refine zmv [2, 0] _ _ [.row 3 1 (nums .i64 st), .rowo 87 33 es (gwC ky (.ow 2) c)] [some (.row 3 1 (nums .i64 st)), some (.rowo 87 33 es (gwC ky (.ow 0) c))] [] [some (.row 3 1 (nums .i64 st)), some (.rowo 87 33 es (gwC ky (.ow 2) c))] hm rfl ?_ ?_ ?_ (by kernel_rfl) ?_ ?_ ?_ ?_ hd hg h
 ·rw [zbD, zfE, zbD, zfE, zmq _ _ _ _ rfl, zbD]; rfl
 ·show [some (Blk.row 3 1 (nums .i64 st)), some (Blk.rowo 87 33 es (AV.rens (jren [2, 0]) (gwC ky (.ow 0) c)))] = _
  rw [zoV]; rfl
 ·show CfL _ _ _ [evA (get E) a, evA (get E) b] [_, _]
  rw [hE1, hE2]
  exact .cons _ _ _ _ (Cf.pe 1 33 es.length 0) (.cons _ _ _ _ (.ag _ _ (zaL _)) .nil)
 ·intro i b' h'
  simp only [rdOf, List.mem_cons, List.not_mem_nil, or_false, Prod.mk.injEq] at h'
  rcases h' with ⟨rfl, rfl⟩ | ⟨rfl, rfl⟩
  ·exact hH2
  ·exact hH0
 ·exact .cons _ _ _ _ (.row _ _ _) (.cons _ _ _ _ (.rowo _ _ _ _ _ (zg1 rfl)) .nil)
 ·unfold preX
  simp only [List.all_cons, List.all_nil, hids]
  have : AV.idss [AV.pe 1 33 es.length 0, pcA x] = [1] := by
   have h1 : (pcA x).ids = [] := zez _
   show [1] ++ ((pcA x).ids ++ []) = [1]
   rw [h1]; rfl
  rw [this]
  rfl
 ·rfl
end
end Go.Proofs.YtibedaeefnjjlaaGreat
