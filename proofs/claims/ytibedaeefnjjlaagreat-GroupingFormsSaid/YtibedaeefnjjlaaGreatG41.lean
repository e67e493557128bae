/- Texts of the second layer in one: Rj2 Ra4 Ac2 Gf1. -/
import Derived.Test.YtibedaeefnjjlaaGreatG34
import Derived.Test.YtibedaeefnjjlaaGreatG35
import Derived.Test.YtibedaeefnjjlaaGreatG40
import Derived.Test.YtibedaeefnjjlaaGreatG31
import Derived.Test.YtibedaeefnjjlaaGreatG20
set_option maxHeartbeats 16000000
set_option maxRecDepth 100000
set_option linter.unusedVariables false
set_option linter.unusedSimpArgs false
namespace Go.Ab
open Go.RowKit
theorem zo2 (ds : List RV) : rvs (.ag (ds.map .r)) = some ds := by
 unfold rvs
 dsimp only
 induction ds with
 | nil => rfl
 | cons d ds ih => rw [List.map_cons, List.mapM_cons, ih]; rfl
theorem zql {α : Type} (e ds : List α) (h : e.length = ds.length) : setA e 0 ds = ds := by
 unfold setA
 rw [List.take_zero, List.nil_append, Nat.zero_add, ← h, List.drop_length, List.append_nil]
theorem zsu (vs : List Value) : rvs (.ag (vs.map fun x => .r (.v x))) = some (vs.map RV.v) := by
 have := zo2 (vs.map RV.v)
 rwa [List.map_map] at this
theorem zhS {P : Program} {L : Ln} {N : Nat} {ops : Array Oper} {chk : List (Nat × Sp) → Bool} {Q : St → Prop} {l : List Oper} {E : List (Nat × AV)} {H : List (Nat × Option Blk)} {n : Nat} {tr : List (Nat × Sp)}
  {ty : TypeId} {pos : String} {af : Array Edge} {g : Option (Nat × Bool)} {t : TypeId} {x y : Operand} {i T sz k f m : Nat} {es es' : List (List RV)} {e ds : List RV} (hE : es.set k (setA e f ds) = es') (he : es[k]? = some e) (hx : evA (get E) x = .pe i sz k f) (hy : rvs (evA (get E) y) = some ds) (hok : ds.all rvOk = true) (hH : getH H i = some (.row T sz es)) (hs : (P.info? t).map (·.size) = some m) (hm : ds.length = m) (hf : Nat.ble (f + m) sz = true)
  (hg : zbo ops (get E) ⟨none, .store t x y, ty, pos, af, g⟩ true)
  (h : wpA P L N ops chk Q l ⟨E, (i, some (.row T sz es')) :: H, n⟩ ((n, ⟨true, [(i, .row T sz es)], .r (.v undef), [(i, some (.row T sz es'))], []⟩) :: tr)) :
  wpA P L N ops chk Q (⟨none, .store t x y, ty, pos, af, g⟩ :: l) ⟨E, H, n⟩ tr := by
 subst hE
 exact zcm hx hy hok hH he hs hm hf hg h
theorem zls {P : Program} {L : Ln} {N : Nat} {ops : Array Oper} {chk : List (Nat × Sp) → Bool} {Q : St → Prop} {l : List Oper} {E : List (Nat × AV)} {H : List (Nat × Option Blk)} {n : Nat} {tr : List (Nat × Sp)}
  {ty : TypeId} {pos : String} {af : Array Edge} {g : Option (Nat × Bool)} {t : TypeId} {x y : Operand} {i T sz k : Nat} {es : List (List RV)} {e ds : List RV} (hx : evA (get E) x = .pe i sz k 0) (hy : evA (get E) y = .ag (ds.map .r)) (hok : ds.all rvOk = true) (hH : getH H i = some (.row T sz es)) (he : es[k]? = some e) (hs : (P.info? t).map (·.size) = some sz) (hl : e.length = sz) (hm : ds.length = sz)
  (hg : zbo ops (get E) ⟨none, .store t x y, ty, pos, af, g⟩ true)
  (h : wpA P L N ops chk Q l ⟨E, (i, some (.row T sz (es.set k ds))) :: H, n⟩ ((n, ⟨true, [(i, .row T sz es)], .r (.v undef), [(i, some (.row T sz (es.set k ds)))], []⟩) :: tr)) :
  wpA P L N ops chk Q (⟨none, .store t x y, ty, pos, af, g⟩ :: l) ⟨E, H, n⟩ tr := by
 refine zcm (ds := ds) (f := 0) hx (by rw [hy]; exact zo2 ds) hok hH he hs hm (by rw [Nat.zero_add]; exact Nat.ble_self_eq_true sz) hg ?_
 rw [zql e ds (hl.trans hm.symm)]
 exact h
end Go.Ab
namespace Go.Proofs.YtibedaeefnjjlaaGreat
open Go.RowKit Go.Ab Go.Wd
theorem zm2 {c : Cn} (h : c.ok) : zan Tryz.prog 40 [c.A] [] (.r (.v (.bool true))) [] := by
 obtain ⟨o, p, q, r, s⟩ := c
 unfold Cn.A
 rcases h with ⟨h1, h2, h3, h4, h5⟩ | ⟨h1, h2, h3, h4⟩ <;> dsimp only at * <;> subst h1
 ·subst h2 h3 h4 h5; exact zdK
 ·exact zcH _ _ _ _ h2 h3 h4
def rpc (x : Pc) : List RV := (pcVs x).map RV.v
theorem zto {A B : List Pc} {x : Pc} : (pcs (A ++ x :: B))[A.length]? = some (rpc x) := zeh (by rw [List.getElem?_append_right (Nat.le_refl _), Nat.sub_self]; rfl)
theorem zr9 {A B : List Pc} {x y : Pc} : (pcs (A ++ y :: x :: B))[A.length + 1]? = some (rpc x) := zeh (by rw [List.getElem?_append_right (Nat.le_succ _), show A.length + 1 - A.length = 1 by omega]; rfl)
theorem zp4 {A B : List Pc} {x y : Pc} : ((pcs (A ++ y :: x :: B)).set (A.length + 1) (rpc y)).set A.length (rpc x) = pcs (A ++ x :: y :: B) := by
 unfold pcs rpc
 rw [List.map_append, List.map_append]
 simp only [List.map_cons]
 rw [List.set_append_right _ _ (by simp), List.set_append_right _ _ (by simp)]
 simp
def jsG (s : List Pc) (i : Nat) (gs : List Gr) (c : Cn) : St := ⟨[(0, .r (.sl 24 (pcs s))), (8, .ow 0), (9, .pt 1 0), (10, .r (.v (.int .i64 (i : Int))))], [(0, some (.row 51 12 (grOs gs))), (1, some (.var 40 (vsA (cnVs c.o c.p c.q c.r c.s))))], 2⟩
def jsO (S : List Pc) (i : Nat) : St := ⟨[(0, .ow 0), (6, .r (.v (.int .i64 (i : Int))))], [(0, some (.row 42 24 (pcs S)))], 1⟩
def jsI (S : List Pc) (i k : Nat) : St := ⟨[(0, .ow 0), (6, .r (.v (.int .i64 (i : Int)))), (7, .r (.v (.int .i64 (k : Int))))], [(0, some (.row 42 24 (pcs S)))], 1⟩
def leO (a b : Pc) : Prop := cmpP a b ≤ 0
def zRp (ix : Int) : Rp := ⟨ix, 0, 0, false, ⟨false, 0⟩, ⟨false, 0⟩, ⟨false, 0⟩, ⟨false, 0⟩⟩
theorem zoT : zan Tryz.prog 40 [cn false 0 0 0 0] [] (.r (.v (.bool false))) [] := by
 have h := ziq (zRp 0) ⟨B64p, B64p, B64p, B64p⟩
 have e : decide (zRp 0).cv = false := decide_eq_false fun h => by
  have h1 : VR (zb false 0) (zb false 0) := h.2.2.2.2.1
  exact absurd h1.1 (by decide)
 rw [e] at h
 exact h
theorem zsp (c : Cn) : zan Tryz.prog 59 [cn false 0 0 0 0, c.A] [] (.tu [cn false 0 0 0 0, .r (.v (.bool false))]) [] := by
 have cV := zoT
 obtain ⟨o, p, q, r, s⟩ := c
 unfold Cn.A
 dsimp only
 refine zap Tryz.func59 rfl (Nat.le_of_ble_eq_true rfl) rfl rfl ?_
 (repeat' (first | refine zai ?_ | (refine is_f 40 ?_; refine zah (cV) ?_) | (refine zac (fun hb => ?_) (fun hb => ?_) <;> (try (exfalso; omega))) | fail))
 all_goals (first | (exfalso; omega) | exact zbb [] (Rt.cn _ _ _ _ _) (.bool rfl) rfl rfl rfl rfl rfl (zak rfl) rfl)
theorem zkN (x : Pc) : (grO (newG x)).map AV.r = .r (.v (.int .i64 x.ky)) :: (vsA (rtVs (chC x.c).1 (chC x.c).2) ++ [.r (.sl 1 (nums .i64 [x.ix]))]) := by
 have h : zcJ [x.ix] = [x.ix] := List.mergeSort_of_pairwise (by simp)
 unfold grO newG vsA
 dsimp only
 rw [h]
 simp
theorem zlO {l S A B D : List Pc} {x : Pc} {i : Nat} (hok : ∀ y ∈ S, y.c.ok) (hS : S = (A ++ B) ++ x :: D) (hpm : S.Perm l) (hl : A.length + B.length = i) (hpw : (A ++ B).Pairwise leO) (hB : ∀ b ∈ B, cmpP x b < 0) (hA : ∀ a ∈ A, leO a x) :
  (A ++ x :: (B ++ D)).Perm l ∧ ((A ++ x :: (B ++ D)).take (i + 1)).Pairwise leO := by
 refine ⟨List.Perm.trans ?_ hpm, ?_⟩
 ·rw [hS, List.append_assoc]
  exact List.Perm.append_left A List.perm_middle.symm
 ·rw [show (A ++ x :: (B ++ D)).take (i + 1) = A ++ x :: B by
   rw [show A ++ x :: (B ++ D) = (A ++ x :: B) ++ D by simp]
   exact List.take_left' (by simp; omega)]
  obtain ⟨h1, h2, h3⟩ := List.pairwise_append.1 hpw
  refine List.pairwise_append.2 ⟨h1, List.pairwise_cons.2 ⟨fun b hb => by have := hB b hb; unfold leO; omega, h2⟩, fun a ha b hb => ?_⟩
  rcases List.mem_cons.1 hb with rfl | hb
  ·exact hA a ha
  ·exact h3 a ha b hb
theorem zs8 {A : List Pc} {x y : Pc} (hok : ∀ a ∈ A ++ [y], a.c.ok) (hx : x.c.ok) (hpw : (A ++ [y]).Pairwise leO) (hc : ¬ cmpP x y < 0) : ∀ a ∈ A ++ [y], leO a x := by
 have hy := hok y (by simp)
 have hyx : leO y x := (zcY.le hy hx).2 (by omega)
 intro a ha
 rcases List.mem_append.1 ha with h | h
 ·exact zcY.trans a y x (hok a ha) hy hx ((List.pairwise_append.1 hpw).2.2 a h y (by simp)) hyx
 ·rw [List.mem_singleton.1 h]; exact hyx
theorem zso (l : List Pc) (hl : l.length ≤ 1000000) (h : PcOk l) : zan Tryz.prog 32 [.r (.sl 24 (pcs l))] [] (.tu [.fr 51 12 (grOs (grs l)), .r (.v (.int .i64 0))]) [] := by
 have hlen : (pcs l).length = l.length := zcZ l
 refine zap Tryz.func32 rfl (Nat.le_of_ble_eq_true rfl) rfl rfl ?_
 (repeat' (first | refine zai ?_ | (refine zac (fun hb => ?_) (fun hb => ?_) <;> (try (exfalso; omega))) | fail))
 refine zas (fun i => ⟨[(0, .r (.sl 24 (pcs l))), (4, .r (.v (.int .i64 ((i : Nat) : Int))))], [], 0⟩) (fun i => i ≤ l.length) (fun i => l.length - i) 0 (Nat.zero_le _) (by (refine Le.mk [] [] zaj zaC zav zal)) fun i hi => ?_
 rcases Nat.lt_or_ge i l.length with hlt | hge
 ·obtain ⟨x, hx⟩ : ∃ x, l[i]? = some x := ⟨_, List.getElem?_eq_getElem hlt⟩
  have hg := zeh hx
  have hm := List.mem_of_getElem? hx
  have cV := zm2 (h.c x hm)
  have h0 := h.ix x hm
  have hw : IntKind.i64.wrap ((i : Int) + 1) = ((i + 1 : Nat) : Int) := zaT i (by omega)
  (repeat' (first | refine zai ?_ | (refine is_f 40 ?_; refine zah (cV) ?_) | (refine zac (fun hb => ?_) (fun hb => ?_) <;> (try (exfalso; omega))) | fail))
  all_goals (first | (exfalso; omega) | skip)
  refine zas (fun k => ⟨[(0, .r (.sl 24 (pcs l))), (4, .r (.v (.int .i64 (i : Int)))), (5, .r (.v (.int .i64 ((k : Nat) : Int))))], [], 0⟩) (fun k => k ≤ i) (fun k => i - k) 0 (Nat.zero_le _) (by (refine Le.mk [] [] zaj zaC zav zal)) fun k hk => ?_
  clear cV
  rcases Nat.lt_or_ge k i with hki | hki
  ·obtain ⟨y, hy⟩ : ∃ y, l[k]? = some y := ⟨_, List.getElem?_eq_getElem (by omega)⟩
   have hgy := zeh hy
   have hwk : IntKind.i64.wrap ((k : Int) + 1) = ((k + 1 : Nat) : Int) := zaT k (by omega)
   have hne : y.ix ≠ x.ix := fun e => by
    have e1 : (l.map Pc.ix)[k]? = some x.ix := by rw [List.getElem?_map, hy]; exact congrArg some e
    have e2 : (l.map Pc.ix)[i]? = some x.ix := by rw [List.getElem?_map, hx]; rfl
    have := (List.getElem?_inj (i := k) (j := i) (by rw [List.length_map]; omega) h.nd).1 (e1.trans e2.symm)
    omega
   (repeat' (first | refine zai ?_ | (refine zac (fun hb => ?_) (fun hb => ?_) <;> (try (exfalso; omega))) | fail))
   all_goals (first | (exfalso; omega) | exact absurd (by assumption) hne | exact ⟨k + 1, hki, by (refine Le.mk [] [] zaj zaC zav zal), by show i - (k + 1) < i - k; omega⟩)
  ·(repeat' (first | refine zai ?_ | (refine zac (fun hb => ?_) (fun hb => ?_) <;> (try (exfalso; omega))) | fail))
   all_goals (first | (exfalso; omega) | exact ⟨i + 1, hlt, by (refine Le.mk [] [] zaj zaC zav zal), by show l.length - (i + 1) < l.length - i; omega⟩)
 ·have hnl : ([] : List (List RV)) ++ pcs l = pcs l := List.nil_append _
  (repeat' (first | refine zai ?_ | (refine zac (fun hb => ?_) (fun hb => ?_) <;> (try (exfalso; omega))) | fail))
  all_goals (first | (exfalso; omega) | skip)
  refine zas (fun y : Nat × List Pc => jsO y.2 y.1) (fun y => y.1 ≤ l.length ∧ y.2.Perm l ∧ (y.2.take y.1).Pairwise leO) (fun y => l.length - y.1) (0, l) ⟨Nat.zero_le _, .refl _, .nil⟩ (by unfold jsO; dsimp only; (refine Le.mk [(0,1)] [] zaj zaC zav zal)) ?_
  clear hlen hnl hi hge
  rintro ⟨i, S⟩ ⟨hi2, hpm, hpw⟩
  dsimp only at hi2 hpm hpw ⊢
  unfold jsO
  have hSl : S.length = l.length := hpm.length_eq
  have hpl : (pcs S).length = S.length := zcZ S
  rcases Nat.lt_or_ge i l.length with hlt | hge2
  ·obtain ⟨x, hx⟩ : ∃ x, S[i]? = some x := ⟨_, List.getElem?_eq_getElem (by omega)⟩
   have hti : (S.take i).length = i := by rw [List.length_take]; omega
   have hS : S = S.take i ++ x :: ([] ++ S.drop (i + 1)) := by
    rw [List.nil_append]
    have h1 : S.drop i = x :: S.drop (i + 1) := by
     rw [List.drop_eq_getElem_cons (by omega)]
     rw [List.getElem?_eq_getElem (by omega)] at hx
     injection hx with hx
     rw [hx]
    rw [← h1, List.take_append_drop]
   have heq : pcs S = pcs (S.take i ++ x :: ([] ++ S.drop (i + 1))) := congrArg pcs hS
   have hok : ∀ y ∈ S, y.c.ok := fun y hy => h.c y (hpm.mem_iff.1 hy)
   have hxS := List.mem_of_getElem? hx
   have hw : IntKind.i64.wrap ((i : Int) + 1) = ((i + 1 : Nat) : Int) := zaT i (by omega)
   (repeat' (first | refine zai ?_ | (refine zac (fun hb => ?_) (fun hb => ?_) <;> (try (exfalso; omega))) | fail))
   all_goals (first | (exfalso; omega) | skip)
   refine zas (fun y : List Pc × List Pc => jsI (y.1 ++ x :: (y.2 ++ S.drop (i + 1))) i y.1.length) (fun y => y.1 ++ y.2 = S.take i ∧ ∀ b ∈ y.2, cmpP x b < 0) (fun y => y.1.length) (S.take i, []) ⟨by simp, by simp⟩ (by unfold jsI; dsimp only; (refine Le.mk [(0,0)] [] zaj zaC zav zal)) ?_
   rintro ⟨A, B⟩ ⟨hAB, hB⟩
   dsimp only at hAB hB ⊢
   unfold jsI
   have hALl : A.length + B.length = i := by rw [← List.length_append, hAB, hti]
   have hDl : (S.drop (i + 1)).length = l.length - (i + 1) := by rw [List.length_drop, hSl]
   have hxp : ∀ b, b ∈ S.take i → b ∈ S := fun b hb => List.mem_of_mem_take hb
   have hD : S = (A ++ B) ++ x :: S.drop (i + 1) := by rw [hAB]; rw [List.nil_append] at hS; exact hS
   have hpab : (A ++ B).Pairwise leO := by rw [hAB]; exact hpw
   rcases List.eq_nil_or_concat A with rfl | ⟨A', y, rfl⟩
   ·have hdone := zlO hok hD hpm hALl hpab hB (fun a ha => nomatch ha)
    (repeat' (first | refine zai ?_ | (refine zac (fun hb => ?_) (fun hb => ?_) <;> (try (exfalso; omega))) | fail))
    all_goals (first | (exfalso; omega) | exact absurd (by assumption) (by decide) | exact ⟨(i + 1, [] ++ x :: (B ++ S.drop (i + 1))), ⟨hlt, hdone.1, hdone.2⟩, by dsimp only; (refine Le.mk [(0,0)] [] zaj zaC zav zal), by show l.length - (i + 1) < l.length - i; omega⟩)
   ·rw [List.concat_eq_append] at *
    have hl' : (A' ++ [y]).length = A'.length + 1 := by simp
    have hassoc : A' ++ [y] ++ x :: (B ++ S.drop (i + 1)) = A' ++ y :: x :: (B ++ S.drop (i + 1)) := by simp
    rw [hl', hassoc]
    rw [hl'] at hALl
    have hyS : y ∈ S := hxp y (by rw [← hAB]; simp)
    have cB := zoK x y (hok x hxS) (hok y hyS)
    have g1 : (pcs (A' ++ y :: x :: (B ++ S.drop (i + 1))))[A'.length + 1]? = some (rpc x) := zr9
    have g0 : (pcs (A' ++ y :: x :: (B ++ S.drop (i + 1))))[A'.length]? = some (rpc y) := zto
    have gs : ((pcs (A' ++ y :: x :: (B ++ S.drop (i + 1)))).set (A'.length + 1) (rpc y)).set A'.length (rpc x) = pcs (A' ++ x :: (y :: B ++ S.drop (i + 1))) := zp4
    have hpn : (pcs (A' ++ y :: x :: (B ++ S.drop (i + 1)))).length = l.length := by rw [zcZ]; simp [hSl]; omega
    have hwk : IntKind.i64.wrap (((A'.length + 1 : Nat) : Int) - 1) = (A'.length : Int) := by rw [IntKind.wrap_i64]; omega
    by_cases hc : cmpP x y < 0
    ·rw [decide_eq_true hc] at cB
     generalize pcs (A' ++ y :: x :: (B ++ S.drop (i + 1))) = pw at *
     have g2 : (pw.set (A'.length + 1) (rpc y))[A'.length]? = some (rpc y) := by rw [List.getElem?_set_ne (by omega)]; exact g0
     have hpn2 : (pw.set (A'.length + 1) (rpc y)).length = l.length := by rw [List.length_set]; exact hpn
     (repeat' (first | (refine zc5 ?_; refine zls rfl rfl rfl rfl (by with_reducible assumption) AgT.size rfl rfl (.inl ⟨rfl, rfl⟩) ?_) | refine zme ?_ | (refine is_f 61 ?_; refine zah (cB) ?_) | (refine zac (fun hb => ?_) (fun hb => ?_) <;> (try (exfalso; omega))) | fail))
     all_goals (first | (exfalso; omega) | exact ⟨(A', y :: B), ⟨by rw [← hAB]; simp, fun b hb => by
      rcases List.mem_cons.1 hb with rfl | hb
      ·exact hc
      ·exact hB b hb⟩, by dsimp only; (refine Le.mk [(0,0)] [] zaj zaC zav zal), by show A'.length < A'.length + 1; omega⟩)
    ·rw [decide_eq_false hc] at cB
     have hdone := zlO (i := i) hok hD hpm (by rw [hl']; exact hALl) hpab hB (zs8 (fun a ha => hok a (hxp a (by rw [← hAB]; exact List.mem_append_left _ ha))) (hok x hxS) (List.pairwise_append.1 hpab).1 hc)
     rw [hassoc] at hdone
     clear gs
     (repeat' (first | refine zai ?_ | (refine is_f 61 ?_; refine zah (cB) ?_) | (refine zac (fun hb => ?_) (fun hb => ?_) <;> (try (exfalso; omega))) | fail))
     all_goals (first | (exfalso; omega) | exact ⟨(i + 1, A' ++ y :: x :: (B ++ S.drop (i + 1))), ⟨hlt, hdone.1, hdone.2⟩, by dsimp only; (refine Le.mk [(0,0)] [] zaj zaC zav zal), by show l.length - (i + 1) < l.length - i; omega⟩)
  ·have hSs : S = zdP l := zjq h.c h.nd hpm (by rwa [List.take_of_length_le (by omega)] at hpw)
   have hok := (h.perm (zca l)).c
   show awp _ _ _ _ _ _
   have hg0 : grs l = (zdP l).foldl jn [] := rfl
   rw [hg0]
   rw [← hSs] at hok ⊢
   clear hSs hpw hg0
   (repeat' (first | (first | refine zaH 21 ?_ | refine zaz 21 ?_) | refine za6 ?_ | refine zaG ?_ | (refine zac (fun hb => ?_) (fun hb => ?_) <;> (try (exfalso; omega))) | fail))
   all_goals (first | (exfalso; omega) | skip)
   refine halt ?_
   refine zh4 8 51 12 rfl rfl ?_
   refine zbp (T := ⟨[(0, .r (.sl 24 (pcs S))), (8, .ow 0), (9, .pt 1 0)], [(0, some (.row 51 12 [])), (1, some (.var 40 (vsA (cnVs false 0 0 0 0))))], 2⟩) (by (refine Le.mk [(0,2),(1,1)] [0] zaj zaC zav zal)) ?_
   (repeat' (first | refine zai ?_ | (refine zac (fun hb => ?_) (fun hb => ?_) <;> (try (exfalso; omega))) | fail))
   have h00 : ([] : List (List RV)) = grOs [] := rfl
   refine zas (fun y : Nat × List Gr × Cn => jsG S y.1 y.2.1 y.2.2) (fun y => y.1 ≤ S.length ∧ y.2.1 = (S.take y.1).foldl jn [] ∧ ((y.1 = 0 ∧ y.2.2 = ⟨false, 0, 0, 0, 0⟩) ∨ (0 < y.1 ∧ ∃ gs g, y.2.1 = gs ++ [g] ∧ y.2.2 = g.c))) (fun y => S.length - y.1) (0, [], ⟨false, 0, 0, 0, 0⟩) ⟨Nat.zero_le _, rfl, .inl ⟨rfl, rfl⟩⟩ (by unfold jsG; dsimp only; (refine Le.mk [(0,0),(1,1)] [] zaj zaC zav zal)) ?_
   rintro ⟨j, gs, c⟩ ⟨hj, hgs, hc⟩
   dsimp only at hj hgs hc ⊢
   unfold jsG
   rcases Nat.lt_or_ge j S.length with hlt3 | hge3
   ·obtain ⟨x, hx⟩ : ∃ x, S[j]? = some x := ⟨_, List.getElem?_eq_getElem hlt3⟩
    have hgx := zeh hx
    have hxok := hok x (List.mem_of_getElem? hx)
    have hstep : (S.take (j + 1)).foldl jn [] = jn gs x := by rw [List.take_add_one, hx, List.foldl_append, ← hgs]; rfl
    have hw : IntKind.i64.wrap ((j : Int) + 1) = ((j + 1 : Nat) : Int) := zaT j (by omega)
    have hgl : (grOs gs).length = gs.length := by simp [grOs]
    have hgb : gs.length ≤ j := by
     have := zic (S.take j) []
     rw [← hgs, List.length_take, List.length_nil] at this
     omega
    have cCh := zka hxok
    have hE3 : grOs (gs ++ [newG x]) = grOs gs ++ [grO (newG x)] := by simp [grOs]
    rcases hc with ⟨rfl, rfl⟩ | ⟨hj0, gs', g, hgs', rfl⟩
    ·have hnil : gs = [] := by rw [hgs]; rfl
     subst hnil
     have cM := zsp x.c
     (repeat' (first | refine zai ?_ | (refine is_f 59 ?_; refine zah (cM) ?_) | (refine is_f 63 ?_; refine zah (cCh) ?_) | (refine zac (fun hb => ?_) (fun hb => ?_) <;> (try (exfalso; omega))) | fail))
     all_goals (first | (exfalso; omega) | skip)
     refine zb8 ?_
     refine zag rfl (by first | exact .inl ⟨rfl, rfl⟩ | exact zb7 rfl rfl rfl rfl) (zef (cs := .r (.v (.int .i64 x.ky)) :: (vsA (rtVs (chC x.c).1 (chC x.c).2) ++ [.ow 3])) [(3, .row 3 1 [[.v (.int .i64 x.ix)]])] rfl rfl (fun i b h => by
      simp only [List.mem_cons, List.not_mem_nil, or_false, Prod.mk.injEq] at h
      obtain ⟨rfl, rfl⟩ := h
      rfl)) ?_
     (repeat' (first | refine zai ?_ | (refine zac (fun hb => ?_) (fun hb => ?_) <;> (try (exfalso; omega))) | fail))
     refine ⟨(0 + 1, [] ++ [newG x], x.c), ⟨hlt3, hstep.symm, .inr ⟨Nat.succ_pos _, [], newG x, rfl, rfl⟩⟩, ?_, by show S.length - (0 + 1) < S.length - 0; omega⟩
     dsimp only
     refine Le.mk [(0, 5), (1, 1)] [3] rfl (by (repeat' (first | exact zaX | refine zbQ ?_ | refine le_r ?_ rfl rfl | refine za9 ?_ (by omega) rfl | refine zbR ?_ rfl rfl | refine zbS ?_ rfl rfl | refine zbH ?_ rfl zaN rfl rfl | refine zbX ?_ rfl rfl | refine zbW ?_ rfl rfl | refine zbZ ?_ ?_ rfl | refine zb0 ?_ ?_ rfl | refine za4 ?_ rfl | refine zbt ?_ rfl | refine zbi ?_ rfl | exact CfL.nil))) ?_ (by simp only [List.mem_cons, List.not_mem_nil, or_false, forall_eq]; exact ⟨_, rfl⟩)
     exact zfl (e := grO (newG x)) (zc4 zbq (show CfL _ _ _ (vsA (cnVs x.c.o x.c.p x.c.q x.c.r x.c.s)) _ from zaL _) rfl) (by rw [zkN]; exact CfL.cons _ _ _ _ (.r _) (zdW _ (.cons _ _ _ _ (.fz 3 _ _ _ rfl (by simp)) .nil))) hE3 rfl
    ·subst hgs'
     have hgm : g ∈ (S.take j).foldl jn [] := by rw [← hgs]; simp
     obtain ⟨hgok, hgss⟩ := zjW (S.take j) (fun y hy => hok y (List.mem_of_mem_take hy)) [] 0 (fun _ h => nomatch h) g hgm
     rw [List.length_take] at hgss
     have hgl2 : (gs' ++ [g]).length = gs'.length + 1 := by simp
     have hwl : IntKind.i64.wrap (((grOs (gs' ++ [g])).length : Int) - 1) = (gs'.length : Int) := by rw [hgl, hgl2, IntKind.wrap_i64]; omega
     have hg1 : (grOs (gs' ++ [g]))[gs'.length]? = some (grO g) := by unfold grOs; rw [List.getElem?_map, List.getElem?_append_right (Nat.le_refl _), Nat.sub_self]; rfl
     rw [zgd] at hstep
     cases hm : zco g.c x.c with
     | none =>
      have hst : jnTo g x = none := by unfold jnTo; rw [hm]
      rw [hst] at hstep
      have cM := zis hgok hxok hm
      (repeat' (first | refine zai ?_ | (refine is_f 59 ?_; refine zah (cM) ?_) | (refine is_f 63 ?_; refine zah (cCh) ?_) | (refine zac (fun hb => ?_) (fun hb => ?_) <;> (try (exfalso; omega))) | fail))
      all_goals (first | (exfalso; omega) | skip)
      refine zb8 ?_
      refine zag rfl (by first | exact .inl ⟨rfl, rfl⟩ | exact zb7 rfl rfl rfl rfl) (zef (cs := .r (.v (.int .i64 x.ky)) :: (vsA (rtVs (chC x.c).1 (chC x.c).2) ++ [.ow 3])) [(3, .row 3 1 [[.v (.int .i64 x.ix)]])] rfl rfl (fun i b h => by
       simp only [List.mem_cons, List.not_mem_nil, or_false, Prod.mk.injEq] at h
       obtain ⟨rfl, rfl⟩ := h
       rfl)) ?_
      (repeat' (first | refine zai ?_ | (refine zac (fun hb => ?_) (fun hb => ?_) <;> (try (exfalso; omega))) | fail))
      refine ⟨(j + 1, (gs' ++ [g]) ++ [newG x], x.c), ⟨hlt3, hstep.symm, .inr ⟨Nat.succ_pos _, (gs' ++ [g]), newG x, rfl, rfl⟩⟩, ?_, by show S.length - (j + 1) < S.length - j; omega⟩
      dsimp only
      refine Le.mk [(0, 5), (1, 1)] [3] rfl (by (repeat' (first | exact zaX | refine zbQ ?_ | refine le_r ?_ rfl rfl | refine za9 ?_ (by omega) rfl | refine zbR ?_ rfl rfl | refine zbS ?_ rfl rfl | refine zbH ?_ rfl zaN rfl rfl | refine zbX ?_ rfl rfl | refine zbW ?_ rfl rfl | refine zbZ ?_ ?_ rfl | refine zb0 ?_ ?_ rfl | refine za4 ?_ rfl | refine zbt ?_ rfl | refine zbi ?_ rfl | exact CfL.nil))) ?_ (by simp only [List.mem_cons, List.not_mem_nil, or_false, forall_eq]; exact ⟨_, rfl⟩)
      exact zfl (e := grO (newG x)) (zc4 zbq (show CfL _ _ _ (vsA (cnVs x.c.o x.c.p x.c.q x.c.r x.c.s)) _ from zaL _) rfl) (by rw [zkN]; exact CfL.cons _ _ _ _ (.r _) (zdW _ (.cons _ _ _ _ (.fz 3 _ _ _ rfl (by simp)) .nil))) hE3 rfl
     | some c' =>
      have cM := zit hgok hxok hm
      by_cases hk : g.ky = x.ky
      ·have hst : jnTo g x = some ⟨g.ky, g.ss ++ [x.ix], c'⟩ := by unfold jnTo; rw [hm]; exact if_pos hk
       rw [hst] at hstep
       have cI : zan Tryz.prog 62 [.r (.sl 1 (nums .i64 (zcJ g.ss))), .r (.v (.int .i64 x.ix))] [] (.r (.sl 1 (nums .i64 (zcJ (g.ss ++ [x.ix]))))) [] := by
        rw [← zmK]
        exact (zoL _ _ (by unfold zcJ; rw [List.length_mergeSort]; omega)).freeze
       have cC2 := zka (zgK hgok hxok hm)
       obtain ⟨R1, hS1⟩ : ∃ R1, (grOs (gs' ++ [g])).set gs'.length (setA (grO g) (0 + 11) [.sl 1 (nums .i64 (zcJ (g.ss ++ [x.ix])))]) = R1 := ⟨_, rfl⟩
       have hlt' : gs'.length < (grOs (gs' ++ [g])).length := by rw [hgl, hgl2]; omega
       have hg2 : R1[gs'.length]? = some (setA (grO g) (0 + 11) [.sl 1 (nums .i64 (zcJ (g.ss ++ [x.ix])))]) := by rw [← hS1, List.getElem?_set_self hlt']
       have hS2 : R1.set gs'.length (setA (setA (grO g) (0 + 11) [.sl 1 (nums .i64 (zcJ (g.ss ++ [x.ix])))]) (0 + 1) ((rtVs (chC c').1 (chC c').2).map RV.v)) = grOs (gs' ++ [⟨g.ky, g.ss ++ [x.ix], c'⟩]) := by
        have e : setA (setA (grO g) (0 + 11) [.sl 1 (nums .i64 (zcJ (g.ss ++ [x.ix])))]) (0 + 1) ((rtVs (chC c').1 (chC c').2).map RV.v) = grO ⟨g.ky, g.ss ++ [x.ix], c'⟩ := rfl
        rw [e, ← hS1, List.set_set]
        unfold grOs
        rw [List.map_append, List.map_append, List.set_append_right _ _ (by simp)]
        simp
       have hR1l : R1.length = gs'.length + 1 := by rw [← hS1, List.length_set, hgl, hgl2]
       (repeat' (first | (first | refine zaH 28 ?_ | refine zaz 28 ?_) | refine za6 ?_ | refine zaG ?_ | (refine is_f 59 ?_; refine zah (cM) ?_) | (refine zac (fun hb => ?_) (fun hb => ?_) <;> (try (exfalso; omega))) | fail))
       all_goals (first | (exfalso; omega) | exact absurd hk (by assumption) | skip)
       refine halt ?_
       (repeat' (first | (refine zc5 ?_; refine zhS hS1 hg1 rfl rfl rfl rfl OnT.size rfl rfl (.inl ⟨rfl, rfl⟩) ?_) | (refine zc5 ?_; refine zhS hS2 hg2 rfl (zsu _) rfl rfl AgT.size rfl rfl (.inl ⟨rfl, rfl⟩) ?_) | refine zme ?_ | (refine is_f 62 ?_; refine zah (cI) ?_) | (refine is_f 63 ?_; refine zah (cC2) ?_) | (refine zac (fun hb => ?_) (fun hb => ?_) <;> (try (exfalso; omega))) | fail))
       all_goals (first | (exfalso; omega) | skip)
       refine ⟨(j + 1, gs' ++ [⟨g.ky, g.ss ++ [x.ix], c'⟩], c'), ⟨hlt3, hstep.symm, .inr ⟨Nat.succ_pos _, gs', ⟨g.ky, g.ss ++ [x.ix], c'⟩, rfl, rfl⟩⟩, ?_, by show S.length - (j + 1) < S.length - j; omega⟩
       dsimp only
       exact Le.mk [(0, 0), (1, 1)] [] rfl (by (repeat' (first | exact zaX | refine zbQ ?_ | refine le_r ?_ rfl rfl | refine za9 ?_ (by omega) rfl | refine zbR ?_ rfl rfl | refine zbS ?_ rfl rfl | refine zbH ?_ rfl zaN rfl rfl | refine zbX ?_ rfl rfl | refine zbW ?_ rfl rfl | refine zbZ ?_ ?_ rfl | refine zb0 ?_ ?_ rfl | refine za4 ?_ rfl | refine zbt ?_ rfl | refine zbi ?_ rfl | exact CfL.nil))) (zby (zc4 zbq (show CfL _ _ _ (vsA (cnVs c'.o c'.p c'.q c'.r c'.s)) _ from zaL _) rfl) rfl rfl) (by intro g h; cases h)
      ·have hst : jnTo g x = none := by unfold jnTo; rw [hm]; exact if_neg hk
       rw [hst] at hstep
       (repeat' (first | refine zai ?_ | (refine is_f 59 ?_; refine zah (cM) ?_) | (refine is_f 63 ?_; refine zah (cCh) ?_) | (refine zac (fun hb => ?_) (fun hb => ?_) <;> (try (exfalso; omega))) | fail))
       all_goals (first | (exfalso; omega) | exact absurd (by assumption) hk | skip)
       refine zb8 ?_
       refine zag rfl (by first | exact .inl ⟨rfl, rfl⟩ | exact zb7 rfl rfl rfl rfl) (zef (cs := .r (.v (.int .i64 x.ky)) :: (vsA (rtVs (chC x.c).1 (chC x.c).2) ++ [.ow 3])) [(3, .row 3 1 [[.v (.int .i64 x.ix)]])] rfl rfl (fun i b h => by
        simp only [List.mem_cons, List.not_mem_nil, or_false, Prod.mk.injEq] at h
        obtain ⟨rfl, rfl⟩ := h
        rfl)) ?_
       (repeat' (first | refine zai ?_ | (refine zac (fun hb => ?_) (fun hb => ?_) <;> (try (exfalso; omega))) | fail))
       refine ⟨(j + 1, (gs' ++ [g]) ++ [newG x], x.c), ⟨hlt3, hstep.symm, .inr ⟨Nat.succ_pos _, (gs' ++ [g]), newG x, rfl, rfl⟩⟩, ?_, by show S.length - (j + 1) < S.length - j; omega⟩
       dsimp only
       refine Le.mk [(0, 5), (1, 1)] [3] rfl (by (repeat' (first | exact zaX | refine zbQ ?_ | refine le_r ?_ rfl rfl | refine za9 ?_ (by omega) rfl | refine zbR ?_ rfl rfl | refine zbS ?_ rfl rfl | refine zbH ?_ rfl zaN rfl rfl | refine zbX ?_ rfl rfl | refine zbW ?_ rfl rfl | refine zbZ ?_ ?_ rfl | refine zb0 ?_ ?_ rfl | refine za4 ?_ rfl | refine zbt ?_ rfl | refine zbi ?_ rfl | exact CfL.nil))) ?_ (by simp only [List.mem_cons, List.not_mem_nil, or_false, forall_eq]; exact ⟨_, rfl⟩)
       exact zfl (e := grO (newG x)) (zc4 zbq (show CfL _ _ _ (vsA (cnVs x.c.o x.c.p x.c.q x.c.r x.c.s)) _ from zaL _) rfl) (by rw [zkN]; exact CfL.cons _ _ _ _ (.r _) (zdW _ (.cons _ _ _ _ (.fz 3 _ _ _ rfl (by simp)) .nil))) hE3 rfl
   ·have e : gs = S.foldl jn [] := by rw [hgs, List.take_of_length_le hge3]
    rw [← e]
    (repeat' (first | refine zai ?_ | (refine zac (fun hb => ?_) (fun hb => ?_) <;> (try (exfalso; omega))) | fail))
    all_goals (first | (exfalso; omega) | exact ret2 [] (.fr 0 _ _ _ rfl) (.int rfl) rfl rfl rfl rfl)
def sdR (l : List Rp) (i : Nat) : St := ⟨[(2, .r (.v (.bool false))), (3, .ow 0), (7, .r (.sl 24 (rps l))), (8, .r (.v (.int .i64 (l.length : Int)))), (9, .r (.v (.int .i64 (i : Int))))], [(0, some (.mp ((l.take i).map Rp.ix)))], 1⟩
theorem zpM {l : List Rp} {i : Nat} (hi : i ≤ l.length) (hge : l.length ≤ i) (h : Good (l.take i)) : Good l := by
 rwa [List.take_of_length_le (by omega)] at h
theorem zqs (l : List Rp) (hl : l.length ≤ 1000000) (hL : ∀ x ∈ l, x.lim) (h : ¬ Good l) : zan Tryz.prog 33 [.r (.sl 24 (rps l))] [] (.r (.v (.bool false))) [] := by
 have hlen : (rps l).length = l.length := zhG l
 refine zap Tryz.func33 rfl (Nat.le_of_ble_eq_true rfl) rfl rfl ?_
 have h00 : ([] : List Int) = (l.take 0).map Rp.ix := rfl
 (repeat' (first | refine zai ?_ | (refine zac (fun hb => ?_) (fun hb => ?_) <;> (try (exfalso; omega))) | fail))
 refine zas (sdR l) (fun i => i ≤ l.length ∧ Good (l.take i)) (fun i => l.length - i) 0 ⟨Nat.zero_le _, zlI⟩ (by (refine Le.mk [] [] zaj zaC zav zal)) fun i hi => ?_
 obtain ⟨hi, hg0⟩ := hi
 rcases Nat.lt_or_ge i l.length with hlt | hge
 ·obtain ⟨x, hx⟩ : ∃ x, l[i]? = some x := ⟨_, List.getElem?_eq_getElem hlt⟩
  have hg := zln hx
  have hm := List.mem_of_getElem? hx
  have cV := zjL x (hL x hm)
  have hE : (l.take i).map Rp.ix ++ [x.ix] = (l.take (i + 1)).map Rp.ix := by
   rw [List.take_add_one, hx, List.map_append]; rfl
  have hw : IntKind.i64.wrap ((i : Int) + 1) = ((i + 1 : Nat) : Int) := zaT i (by omega)
  rcases zjT hx hg0 with h1 | h1 | ⟨h1, h2⟩ | ⟨h1, h2, h3⟩
  ·have h2 : x.cv ∧ 0 ≤ x.ix := h1.1 x (by rw [List.take_add_one, hx]; simp)
   have h0 := h2.2
   rw [decide_eq_true h2.1] at cV
   have hn : x.ix ∉ (l.take i).map Rp.ix := by
    have hsub := h1.2
    rw [← hE, List.nodup_append] at hsub
    exact fun hc => hsub.2.2 _ hc _ (by simp) rfl
   (repeat' (first | refine zai ?_ | (refine is_f 64 ?_; refine zah (cV) ?_) | (refine zac (fun hb => ?_) (fun hb => ?_) <;> (try (exfalso; omega))) | fail))
   all_goals (first | (exfalso; omega) | exact absurd hb hn | exact ⟨i + 1, ⟨hlt, h1⟩, by (refine Le.mk [] [] zaj zaC zav zal), by show l.length - (i + 1) < l.length - i; omega⟩)
  ·rw [decide_eq_false h1] at cV
   (repeat' (first | refine zai ?_ | (refine is_f 64 ?_; refine zah (cV) ?_) | (refine zac (fun hb => ?_) (fun hb => ?_) <;> (try (exfalso; omega))) | fail))
   all_goals (first | (exfalso; omega) | exact ret1 [] (.bool rfl) rfl rfl rfl)
  ·rw [decide_eq_true h1] at cV
   (repeat' (first | refine zai ?_ | (refine is_f 64 ?_; refine zah (cV) ?_) | (refine zac (fun hb => ?_) (fun hb => ?_) <;> (try (exfalso; omega))) | fail))
   all_goals (first | (exfalso; omega) | exact ret1 [] (.bool rfl) rfl rfl rfl)
  ·rw [decide_eq_true h1] at cV
   (repeat' (first | refine zai ?_ | (refine is_f 64 ?_; refine zah (cV) ?_) | (refine zac (fun hb => ?_) (fun hb => ?_) <;> (try (exfalso; omega))) | fail))
   all_goals (first | (exfalso; omega) | exact absurd h3 hb | exact ret1 [] (.bool rfl) rfl rfl rfl)
 ·exact absurd (zpM hi hge hg0) h
theorem zrG (l : List Rp) (hl : l.length ≤ 1000000) (hL : ∀ x ∈ l, x.lim) (h : ¬ Good l) : zan Tryz.prog 15 [.r (.sl 24 (rps l))] [] (.tu [.r (.v (.slice none 0 0)), .r (.v (.int .i64 1))]) [] := by
 have c1 := zqs l hl hL h
 refine zap Tryz.func15 rfl (Nat.le_of_ble_eq_true rfl) rfl rfl ?_
 (repeat' (first | refine zai ?_ | (refine is_f 33 ?_; refine zah (c1) ?_) | (refine zac (fun hb => ?_) (fun hb => ?_) <;> (try (exfalso; omega))) | fail))
 all_goals (first | (exfalso; omega) | exact ret2 [] (.r _) (.int rfl) rfl rfl rfl rfl)
theorem zsT {c : Cn} (h : c.ok) : VR (chC c).1 (chC c).2 ∧ (c.o = false → fle c.lo (chC c) ∧ fle (chC c) c.hi) := by
 rcases h with ⟨h1, _⟩ | ⟨h1, h2, h3, h4⟩
 ·refine ⟨?_, fun h => by rw [h1] at h; cases h⟩
  unfold chC
  rw [h1]
  exact ztQ.1
 ·unfold chC
  rw [h1]
  simp only [Bool.false_eq_true, if_false]
  obtain ⟨b1, b2, b3, b4, b5, b6, b7⟩ := zsP c.p c.q c.r c.s h2.1 h3.1 h4
  have n1 : (btw c.p c.q c.r c.s).1.natAbs < N127 := by
   have e1 := h2.2.1
   have e2 := h3.2.1
   omega
  have n2 : (btw c.p c.q c.r c.s).2.natAbs < N127 := by
   have e1 := h2.2.2.1
   omega
  exact ⟨⟨b3, n1, n2, b4⟩, fun _ => ⟨b1, b2⟩⟩
theorem zpL (l : List Rp) : Good l ∨ ¬ Good l := Classical.em _
theorem zgV (l : List Rp) (hl : l.length ≤ 1000000) (hL : ∀ x ∈ l, x.lim) : zan Tryz.prog 14 [.r (.sl 24 (rps l))] [] (.r (.v (.bool true))) [] := by
 rcases zpL l with h | h
 ·have hp := h.pc
  have e := h.vs
  have hll : (l.map Rp.pc).length ≤ 1000000 := by rw [List.length_map]; exact hl
  rw [e]
  generalize l.map Rp.pc = L at *
  have cJ := (zqM L hll hp).freeze2
  have cR := (zso L hll hp).freeze2
  have cS := zq0 (grs L) (Nat.le_trans zrA hll) (fun g hg => by
   have h1 := zjW (zdP L) (fun x hx => (hp.perm (zca L)).c x hx) [] 0 (fun _ h => nomatch h) g hg
   have h2 := (zsT h1.1).1
   refine ⟨?_, h2.w4n, h2.w4d⟩
   have := h1.2
   rw [(zca L).length_eq] at this
   omega)
  change zan Tryz.prog 15 [.r (.sl 24 (pcs L))] [] (.tu [.r (.sl 12 (grOs (grs L))), .r (.v (.int .i64 0))]) [] at cJ
  generalize grOs (grs L) = gs at *
  clear e hL h
  refine zap Tryz.func14 rfl (Nat.le_of_ble_eq_true rfl) rfl rfl ?_
  (repeat' (first | refine zai ?_ | (refine is_f 15 ?_; refine zah (cJ) ?_) | (refine is_f 32 ?_; refine zah (cR) ?_) | (refine is_f 17 ?_; refine zah (cS) ?_) | (refine zac (fun hb => ?_) (fun hb => ?_) <;> (try (exfalso; omega))) | fail))
  all_goals (first | (exfalso; omega) | exact absurd rfl hb | exact ret1 [] (.bool rfl) rfl rfl rfl)
 ·have cJ := zrG l hl hL h
  have cR := zp8 l hl hL h
  have cS : zan Tryz.prog 17 [.r (.sl 12 []), .r (.sl 12 [])] [] (.r (.v (.bool true))) [] := zq0 [] (Nat.zero_le _) (fun _ h => nomatch h)
  refine zap Tryz.func14 rfl (Nat.le_of_ble_eq_true rfl) rfl rfl ?_
  (repeat' (first | refine zai ?_ | (refine is_f 15 ?_; refine zah (cJ) ?_) | (refine is_f 32 ?_; refine zah (cR) ?_) | (refine is_f 17 ?_; refine zah (cS) ?_) | (refine zac (fun hb => ?_) (fun hb => ?_) <;> (try (exfalso; omega))) | fail))
  all_goals (first | (exfalso; omega) | exact absurd rfl hb | exact ret1 [] (.bool rfl) rfl rfl rfl)
end Go.Proofs.YtibedaeefnjjlaaGreat
