/- Texts of the second layer in one: Pi6 Pi7 Kn1. -/
import Derived.Test.YtibedaeefnjjlaaGreatG43
import Derived.Test.YtibedaeefnjjlaaGreatG40
import Derived.Test.YtibedaeefnjjlaaGreatG39
set_option maxHeartbeats 16000000
set_option maxRecDepth 100000
set_option linter.unusedVariables false
set_option linter.unusedSimpArgs false
namespace Go.Proofs.YtibedaeefnjjlaaGreat
open Go.RowKit Go.Ab Go.Wd
def zdJ (x : Ps) (e : Int × Int) : Ps × List Pc := if x.ct = 0 then (zcu x e.1 e.2, []) else match zco x.c (thC x e.1 e.2) with | some m => (zj8 x e.1 m, []) | none => (zcu x e.1 e.2, [x.pc])
def psGo : List (Int × Int) → Ps × List Pc → Ps × List Pc
 | [], y => y
 | e :: l, y => psGo l ((zdJ y.1 e).1, y.2 ++ (zdJ y.1 e).2)
theorem zeF : ∀ (l : List (Int × Int)) (e : Int × Int) (y : Ps × List Pc), psGo (l ++ [e]) y = ((zdJ (psGo l y).1 e).1, (psGo l y).2 ++ (zdJ (psGo l y).1 e).2)
 | [], e, y => rfl
 | a :: l, e, y => by rw [List.cons_append, psGo, psGo, zeF l e]
def zcv (eps : Int) : Ps := ⟨eps, 0, 0, 0, 0, 0, 0, ⟨false, 0, 0, 0, 0⟩⟩
def zi7 (l : List (Int × Int)) (eps : Int) : List Pc := (psGo l (zcv eps, [])).2 ++ (if l = [] then [] else [(psGo l (zcv eps, [])).1.pc])
structure PsI (eps : Int) (n : Nat) (la : Int) (x : Ps) (out : List Pc) : Prop where
 st : (n = 0 ∧ x = zcv eps) ∨ (0 < n ∧ (x.ok1 ∨ x.ok2))
 sum : x.ix + x.ct = (n : Int)
 tol : x.tol = eps
 last : 0 < n → x.last = la ∧ x.fT ≤ x.last ∧ I64 x.fT
 ok : ∀ p ∈ out, p.c.ok
 ix : ∀ p ∈ out, 0 ≤ p.ix ∧ p.ix < x.ix
 nd : (out.map Pc.ix).Nodup
 len : out.length ≤ n
theorem zgl {eps : Int} (h : 0 ≤ eps ∧ eps ≤ 4611686018427387904) : (zcv eps).ok0 := ⟨⟨h.1, h.2, Int.le_refl _, by show (0 : Int) ≤ 1073741824; omega⟩, rfl, rfl, rfl, rfl, rfl, rfl⟩
theorem psI0 (eps la : Int) : PsI eps 0 la (zcv eps) [] := ⟨.inl ⟨rfl, rfl⟩, rfl, rfl, fun h => absurd h (by omega), fun _ h => (nomatch h), fun _ h => (nomatch h), .nil, Nat.le_refl _⟩
theorem PsI.tolOk {eps : Int} {n : Nat} {la : Int} {x : Ps} {out : List Pc} (h : PsI eps n la x out) (he : 0 ≤ eps ∧ eps ≤ 4611686018427387904) (hn : n ≤ 1073741823) : x.tolOk ∧ 0 ≤ x.ct := by
 rcases h.st with ⟨_, rfl⟩ | ⟨_, h1 | h1⟩
 ·exact ⟨(zgl he).1, Int.le_refl _⟩
 ·exact ⟨h1.1, by have := h1.2.1; omega⟩
 ·exact ⟨h1.1, by have := h1.2.1; omega⟩
theorem znp {x : Ps} {tm v : Int} (ht : x.tolOk) (hi : 0 ≤ x.ix + x.ct ∧ x.ix + x.ct ≤ 1073741824) (hv : I64 v) : (zcu x tm v).ok1 := ⟨⟨ht.1, ht.2.1, hi.1, hi.2⟩, rfl, hv, rfl, rfl, rfl⟩
theorem zhr {eps : Int} {n : Nat} {la : Int} {x : Ps} {out : List Pc} {tm v : Int} (h : PsI eps n la x out) (he : 0 ≤ eps ∧ eps ≤ 4611686018427387904) (hn : n ≤ 1073741823) (hv : I64 v) (ht : I64 tm) (add : List Pc) (ha : add = [] ∧ n = 0 ∨ add = [x.pc] ∧ 0 < n) : PsI eps (n + 1) tm (zcu x tm v) (out ++ add) := by
 obtain ⟨t1, t2⟩ := h.tolOk he hn
 have hs := h.sum
 have h0 := t1.2.2.1
 have hct : 0 < n → 0 < x.ct := fun hp => by
  rcases h.st with ⟨h1, _⟩ | ⟨_, h1 | h1⟩
  ·omega
  ·have := h1.2.1; omega
  ·have := h1.2.1; omega
 refine ⟨.inr ⟨by omega, .inl (znp t1 (by omega) hv)⟩, ?_, h.tol, fun _ => ⟨rfl, Int.le_refl _, ht⟩, ?_, ?_, ?_, ?_⟩
 ·show x.ix + x.ct + 1 = ((n + 1 : Nat) : Int); omega
 ·intro p hp
  rcases List.mem_append.1 hp with hp | hp
  ·exact h.ok p hp
  ·rcases ha with ⟨rfl, _⟩ | ⟨rfl, hpos⟩
   ·exact nomatch hp
   ·rw [List.mem_singleton] at hp; subst hp
    rcases h.st with ⟨h1, _⟩ | ⟨_, h1 | h1⟩
    ·omega
    ·show x.c.ok; rw [h1.2.2.2.2.2]; exact .inl ⟨rfl, rfl, rfl, rfl, rfl⟩
    ·exact .inr ⟨h1.2.2.2.2.2.2.1, h1.2.2.2.2.2.2.2⟩
 ·intro p hp
  show 0 ≤ p.ix ∧ p.ix < x.ix + x.ct
  rcases List.mem_append.1 hp with hp | hp
  ·have := h.ix p hp; omega
  ·rcases ha with ⟨rfl, _⟩ | ⟨rfl, hpos⟩
   ·exact nomatch hp
   ·rw [List.mem_singleton] at hp; subst hp
    have := hct hpos
    show 0 ≤ x.ix ∧ x.ix < x.ix + x.ct
    omega
 ·rcases ha with ⟨rfl, _⟩ | ⟨rfl, hpos⟩
  ·rw [List.append_nil]; exact h.nd
  ·rw [List.map_append, List.nodup_append]
   refine ⟨h.nd, by simp, fun a ha b hb => ?_⟩
   simp at hb
   subst hb
   obtain ⟨y, hy, rfl⟩ := List.mem_map.1 ha
   have := (h.ix y hy).2
   show y.ix ≠ x.ix
   omega
 ·have := h.len
  rcases ha with ⟨rfl, _⟩ | ⟨rfl, _⟩ <;> simp <;> omega
theorem zp6 {eps : Int} {n : Nat} {la : Int} {x : Ps} {out : List Pc} {tm v : Int} (h : PsI eps n la x out) (he : 0 ≤ eps ∧ eps ≤ 4611686018427387904) (hn : n ≤ 1073741823) (hv : I64 v) (ht : I64 tm) (hl : 0 < n → la < tm) : PsI eps (n + 1) tm (zdJ x (tm, v)).1 (out ++ (zdJ x (tm, v)).2) := by
 unfold zdJ
 rcases h.st with ⟨h1, h2⟩ | ⟨h1, h2⟩
 ·have hz : x.ct = 0 := by rw [h2]; rfl
  rw [if_pos hz]
  exact zhr h he hn hv ht [] (.inl ⟨rfl, h1⟩)
 ·have hnz : x.ct ≠ 0 := by rcases h2 with h2 | h2 <;> (have := h2.2.1; omega)
  rw [if_neg hnz]
  obtain ⟨l1, l2, l3⟩ := h.last h1
  have hlt := hl h1
  split
  ·rename_i m hm
   have hs := h.sum
   have hT : x.tolOk := h2.elim (fun h => h.1) (fun h => h.1)
   have hfV : I64 x.fV := h2.elim (fun h => h.2.2.1) (fun h => h.2.2.2.1)
   have hk : x.ky = keyE x.fV x.tol := h2.elim (fun h => h.2.2.2.1) (fun h => h.2.2.2.2.1)
   have hth := zq3 x tm v hT hfV hk hv ht l3 (by omega)
   have hc : x.c.ok := by
    rcases h2 with h | h
    ·rw [h.2.2.2.2.2]; exact .inl ⟨rfl, rfl, rfl, rfl, rfl⟩
    ·exact .inr ⟨h.2.2.2.2.2.2.1, h.2.2.2.2.2.2.2⟩
   have hmo := zgK hc hth hm
   have hmf : m.o = false := by
    rcases zlY hc hth hm with ⟨_, h⟩ | ⟨_, h, _⟩ | ⟨_, _, h, _⟩
    ·rw [h]; rfl
    ·cases h
    ·exact h
   have hVC : VC m.p m.q m.r m.s := by
    rcases hmo with ⟨h, _⟩ | ⟨_, h⟩
    ·rw [hmf] at h; cases h
    ·exact h
   have h0 := hT.2.2.1
   have hcp : 0 < x.ct := by rcases h2 with h2 | h2 <;> (have := h2.2.1; omega)
   rw [List.append_nil]
   refine ⟨.inr ⟨by omega, .inr ⟨hT, ?_, ?_, hfV, hk, ?_, hmf, hVC⟩⟩, ?_, h.tol, fun _ => ⟨rfl, ?_, l3⟩, h.ok, h.ix, h.nd, by have := h.len; omega⟩
   ·show 1 < x.ct + 1; omega
   ·show x.ct + 1 ≤ 1073741824; omega
   ·show x.fT < tm; omega
   ·show x.ix + (x.ct + 1) = ((n + 1 : Nat) : Int); omega
   ·show x.fT ≤ tm; omega
  ·exact zhr h he hn hv ht [x.pc] (.inr ⟨rfl, h1⟩)
theorem zf0 {α : Type} (l : List α) (k : Nat) (d : α) (h : k < l.length) : l.take (k + 1) = l.take k ++ [l.getD k d] := by
 rw [List.take_add_one, List.getElem?_eq_getElem h, List.getD_eq_getElem?_getD, List.getElem?_eq_getElem h]; rfl
theorem zi8 {l : List (Int × Int)} {eps : Int} (he : 0 ≤ eps ∧ eps ≤ 4611686018427387904) (hs : (l.map Prod.fst).Pairwise (· < ·)) (hI : ∀ i, i < l.length → I64 (l.getD i (0, 0)).1 ∧ I64 (l.getD i (0, 0)).2) (hn : l.length ≤ 1000000) : ∀ k, k ≤ l.length → PsI eps k (l.getD (k - 1) (0, 0)).1 (psGo (l.take k) (zcv eps, [])).1 (psGo (l.take k) (zcv eps, [])).2
 | 0, _ => psI0 eps _
 | k + 1, hk => by
  have ih := zi8 he hs hI hn k (by omega)
  have hkl : k < l.length := by omega
  rw [zf0 l k (0, 0) hkl, zeF]
  obtain ⟨h1, h2⟩ := hI k hkl
  refine zp6 ih he (by omega) h2 h1 (fun hp => ?_)
  rw [List.pairwise_iff_getElem] at hs
  have := hs (k - 1) k (by rw [List.length_map]; omega) (by rw [List.length_map]; omega) (by omega)
  rw [List.getElem_map, List.getElem_map] at this
  rw [Nat.add_sub_cancel, List.getD_eq_getElem?_getD, List.getElem?_eq_getElem (show k - 1 < l.length by omega), List.getD_eq_getElem?_getD, List.getElem?_eq_getElem hkl]
  exact this
theorem zp5 {l : List (Int × Int)} {eps : Int} (he : 0 ≤ eps ∧ eps ≤ 4611686018427387904) (hs : (l.map Prod.fst).Pairwise (· < ·)) (hI : ∀ i, i < l.length → I64 (l.getD i (0, 0)).1 ∧ I64 (l.getD i (0, 0)).2) (hn : l.length ≤ 1000000) : PcOk (zi7 l eps) ∧ (zi7 l eps).length ≤ l.length + 1 := by
 have h := zi8 he hs hI hn l.length (Nat.le_refl _)
 rw [List.take_length] at h
 unfold zi7
 by_cases hl : l = []
 ·rw [if_pos hl, List.append_nil]
  exact ⟨⟨h.ok, fun p hp => (h.ix p hp).1, h.nd⟩, by have := h.len; omega⟩
 ·rw [if_neg hl]
  have hpos : 0 < l.length := List.length_pos_iff.2 hl
  have hb := zhr (tm := 0) (v := 0) h he (by omega) (by unfold I64; omega) (by unfold I64; omega) [(psGo l (zcv eps, [])).1.pc] (.inr ⟨rfl, hpos⟩)
  exact ⟨⟨hb.ok, fun p hp => (hb.ix p hp).1, hb.nd⟩, hb.len⟩
end Go.Proofs.YtibedaeefnjjlaaGreat
namespace Go.Ab
open Go.RowKit Go.Proofs.YtibedaeefnjjlaaGreat
section
variable {P : Program} {L : Ln} {N : Nat} {ops : Array Oper} {chk : List (Nat × Sp) → Bool} {Q : St → Prop} {l : List Oper} {E : List (Nat × AV)} {H : List (Nat × Option Blk)} {n : Nat} {tr : List (Nat × Sp)}
variable {d : Nat} {ty : TypeId} {pos : String} {af : Array Edge} {g : Option (Nat × Bool)}
theorem zsG {f : FuncId} {xs : Array Operand} {ats : Array TypeId} {ds : List AV} {r : AV} (r' : AV) (UB : List Blk) (hm : zan P f ds [] r []) (hargs : CfL (getH H) (fun i => i) [] (xs.toList.map (evA (get E))) ds) (hf : ziL P f = true)
  (hu : r.unfr n = (r', UB)) (hds : AV.idss ds = []) (hrng : rngB r' n UB.length = true) (hd : Nat.blt d N = true) (hg : zbo ops (get E) ⟨some d, .call { callee := .value (.func f), args := xs, argTypes := ats }, ty, pos, af, g⟩ true)
  (h : wpA P L N ops chk Q l ⟨(d, r') :: E, frsL n UB ++ H, n + UB.length⟩ ((n, ⟨true, [], r', [], UB⟩) :: tr)) :
  wpA P L N ops chk Q (⟨some d, .call { callee := .value (.func f), args := xs, argTypes := ats }, ty, pos, af, g⟩ :: l) ⟨E, H, n⟩ tr :=
 zeO [] [] hm hargs hf (fun g h => by cases h) (fun i b h => by cases h) (.inl rfl) hds (by rw [hu]; exact hrng) hd hg (by rw [hu]; exact h)
end
theorem zpl (vs : List Value) (T sz : Nat) (es : List (List RV)) (v : Value) (n : Nat) : (AV.tu [.ag (vsA vs), .fr T sz es, .r (.v v)]).unfr n = (.tu [.ag (vsA vs), .ow n, .r (.v v)], [.row T sz es]) := by
 simp [AV.unfr, AV.unfrs, zix]
theorem zn6 (vs : List Value) (a b : Value) : AV.idss [.ag (vsA vs), .ag [.r (.v a), .r (.v b)]] = [] := by
 simp [AV.idss, AV.ids, zez]
theorem zqf (vs : List Value) (n : Nat) (v : Value) (b : Blk) : rngB (.tu [.ag (vsA vs), .ow n, .r (.v v)]) n [b].length = true := by
 simp [rngB, AV.ids, AV.idss, zez]
end Go.Ab
namespace Go.Proofs.YtibedaeefnjjlaaGreat
open Go.RowKit Go.Ab Go.Wd
theorem zqc (l : List Int) (hl : l.length ≤ 140737488355328) : zan Tryz.prog 52 [.r (.sl 1 (nums .i64 l))] [] (.r (.v (.bool (inc l)))) [] := by
 refine zap Tryz.func52 rfl (Nat.le_of_ble_eq_true rfl) rfl rfl ?_
 have hlen : (nums .i64 l).length = l.length := zbz .i64 l
 (repeat' (first | refine zai ?_ | (refine zac (fun hb => ?_) (fun hb => ?_) <;> (try (exfalso; omega))) | fail))
 refine zas (fun k => ⟨[(0, .r (.sl 1 (nums .i64 l))), (3, .r (.v (.int .i64 ((k + 1 : Nat) : Int))))], [], 0⟩) (fun k => (k = 0 ∨ k + 1 ≤ l.length) ∧ ∀ i, i < k → decide (l.getD i 0 < l.getD (i + 1) 0) = true) (fun k => l.length - k) 0 ⟨.inl rfl, fun i h => by omega⟩ (by (refine Le.mk [] [] zaj zaC zav zal)) fun k hk => ?_
 obtain ⟨hk, hall⟩ := hk
 have hkk : l.getD (k + 1 - 1) 0 = l.getD k 0 := rfl
 rcases Nat.lt_or_ge (k + 1) l.length with h | h
 ·by_cases hlt : l.getD k 0 < l.getD (k + 1) 0
  ·(repeat' (first | refine zai ?_ | (refine zac (fun hb => ?_) (fun hb => ?_) <;> (try (exfalso; omega))) | fail))
   all_goals exact ⟨k + 1, ⟨.inr (by omega), fun i hi => if h2 : i < k then hall i h2 else (show i = k by omega) ▸ decide_eq_true hlt⟩, by (refine Le.mk [] [] zaj zaC zav zal), by omega⟩
  ·(repeat' (first | refine zai ?_ | (refine zac (fun hb => ?_) (fun hb => ?_) <;> (try (exfalso; omega))) | fail))
   all_goals exact ret1 [] (.bool (zmB k (by omega) (decide_eq_false hlt))) rfl rfl rfl
 ·(repeat' (first | refine zai ?_ | (refine zac (fun hb => ?_) (fun hb => ?_) <;> (try (exfalso; omega))) | fail))
  all_goals exact ret1 [] (.bool (zjx fun i hi => hall i (by omega))) rfl rfl rfl
theorem zir (l : List (Int × Int)) (hl : l.length ≤ 8796093022000) : zan Tryz.prog 53 [.r (.sl 2 (smps l))] [] (.fr 2 1 (nums .i64 (l.map Prod.fst))) [] := by
 refine zap Tryz.func53 rfl (Nat.le_of_ble_eq_true rfl) rfl rfl ?_
 have hlen : (smps l).length = l.length := zjp l
 (repeat' (first | refine zai ?_ | (refine zac (fun hb => ?_) (fun hb => ?_) <;> (try (exfalso; omega))) | fail))
 refine zdd 3 2 1 rfl rfl ?_
 have h00 : ([] : List (List RV)) = nums .i64 ((l.take 0).map Prod.fst) := rfl
 refine zas (fun k => ⟨[(0, .r (.sl 2 (smps l))), (3, .ow 0), (4, .r (.v (.int .i64 (k : Nat))))], [(0, some (.row 2 1 (nums .i64 ((l.take k).map Prod.fst))))], 1⟩) (fun k => k ≤ l.length) (fun k => l.length - k) 0 (Nat.zero_le _) (by (refine Le.mk [(0,0)] [] zaj zaC zav zal)) fun k hk => ?_
 have hr1 : (nums .i64 ((l.take k).map Prod.fst)).length = k := by rw [zbz, List.length_map, List.length_take]; omega
 have hr2 : ((l.take k).map Prod.fst).length = k := by rw [List.length_map, List.length_take]; omega
 by_cases hkl : k < l.length
 ·have hE : nums .i64 ((l.take k).map Prod.fst) ++ [[.v (.int .i64 (l.getD k (0, 0)).1)]] = nums .i64 ((l.take (k + 1)).map Prod.fst) := by rw [zhZ l k (0, 0) hkl, List.map_append, zcG]; rfl
  (repeat' (first | refine zai ?_ | (refine zac (fun hb => ?_) (fun hb => ?_) <;> (try (exfalso; omega))) | fail))
  all_goals exact ⟨k + 1, by show k + 1 ≤ l.length; omega, by (refine Le.mk [(0,2)] [] zaj zaC zav zal), by show l.length - (k + 1) < l.length - k; omega⟩
 ·have e : nums .i64 ((l.take k).map Prod.fst) = nums .i64 (l.map Prod.fst) := by rw [List.take_of_length_le (by omega)]
  (repeat' (first | refine zai ?_ | (refine zac (fun hb => ?_) (fun hb => ?_) <;> (try (exfalso; omega))) | fail))
  all_goals (rw [← e]; exact ret1 [] (.fr 0 _ _ _ rfl) rfl rfl rfl)
theorem zkh (l : List (Int × Int)) (hl : l.length ≤ 8796093022000) : zan Tryz.prog 24 [.r (.sl 2 (smps l))] [] (.r (.v (.int .i64 (chkS l)))) [] := by
 refine zap Tryz.func24 rfl (Nat.le_of_ble_eq_true rfl) rfl rfl ?_
 have hc := zqc (l.map Prod.fst) (by rw [List.length_map]; omega)
 cases hi : inc (l.map Prod.fst) with
 | true =>
  rw [hi] at hc
  have hr : (0 : Int) = chkS l := by unfold chkS; rw [hi]; rfl
  (repeat' (first | refine zai ?_ | (refine is_f 53 ?_; refine zah (zir l hl) ?_) | (refine is_f 52 ?_; refine zmg (hc) ?_) | (refine zac (fun hb => ?_) (fun hb => ?_) <;> (try (exfalso; omega))) | fail))
  all_goals exact ret1 [] (.int hr) rfl rfl rfl
 | false =>
  rw [hi] at hc
  have hr : (7 : Int) = chkS l := by unfold chkS; rw [hi]; rfl
  (repeat' (first | refine zai ?_ | (refine is_f 53 ?_; refine zah (zir l hl) ?_) | (refine is_f 52 ?_; refine zmg (hc) ?_) | (refine zac (fun hb => ?_) (fun hb => ?_) <;> (try (exfalso; omega))) | fail))
  all_goals exact ret1 [] (.int hr) rfl rfl rfl
theorem zoB (eps : Int) (he : 0 ≤ eps ∧ eps ≤ 4611686018427387904) : zan Tryz.prog 23 [.r (.v (.int .i64 eps))] [] (.tu [.ag (vsA (psV eps 0 0 0 0 0 0 false 0 0 0 0)), .r (.v (.int .i64 0))]) [] := by
 have cT := zhB eps he
 refine zap Tryz.func23 rfl (Nat.le_of_ble_eq_true rfl) rfl rfl ?_
 (repeat' (first | (first | refine zaH 3 ?_ | refine zaz 3 ?_) | refine za6 ?_ | refine zaG ?_ | (refine is_f 51 ?_; refine zah (cT) ?_) | (refine zac (fun hb => ?_) (fun hb => ?_) <;> (try (exfalso; omega))) | fail))
 refine halt ?_
 (repeat' (first | (refine zeb ?_; refine zag rfl zab (zbB (out := .r (.v (.int .i64 eps))) rfl) ?_) | (refine zb8 ?_; refine zag rfl zab (zef (cs := vsA (psV eps 0 0 0 0 0 0 false 0 0 0 0)) [] (by kernel_rfl) (by kernel_rfl) (fun i b h => nomatch h)) ?_) | refine zai ?_ | (refine zac (fun hb => ?_) (fun hb => ?_) <;> (try (exfalso; omega))) | fail))
 all_goals exact zbb [] (Rt.psV _ _ _ _ _ _ _ _ _ _ _ _) (.int rfl) rfl rfl rfl rfl rfl (zak rfl) rfl
theorem zs6 {l : List Int} (h : l.Pairwise (· < ·)) : inc l = true := by
 rw [List.pairwise_iff_getElem] at h
 refine (zjx fun i hi => decide_eq_true ?_).symm
 have := h i (i + 1) (by omega) (by omega) (by omega)
 rw [List.getD_eq_getElem?_getD, List.getElem?_eq_getElem (show i < l.length by omega), List.getD_eq_getElem?_getD, List.getElem?_eq_getElem (show i + 1 < l.length by omega)]
 exact this
def paS (l : List (Int × Int)) (x : Ps) (out : List Pc) (i : Nat) : St := ⟨[(0, .r (.sl 2 (smps l))), (6, .pt 0 0), (8, .ow 1), (9, .r (.v (.int .i64 (i : Int))))], [(0, some (.var 67 (vsA (psV x.tol x.ix x.ct x.fT x.fV x.last x.ky x.c.o x.c.p x.c.q x.c.r x.c.s)))), (1, some (.row 42 24 (pcs out)))], 2⟩
theorem zhq (a b : List Pc) : pcs a ++ pcs b = pcs (a ++ b) := by simp [pcs]
theorem zsa (l : List (Int × Int)) (eps : Int) (he : 0 ≤ eps ∧ eps ≤ 4611686018427387904) (hs : (l.map Prod.fst).Pairwise (· < ·)) (hI : ∀ i, i < l.length → I64 (l.getD i (0, 0)).1 ∧ I64 (l.getD i (0, 0)).2) (hn : l.length ≤ 1000000) : zan Tryz.prog 9 [.r (.sl 2 (smps l)), .r (.v (.int .i64 eps))] [] (.tu [.fr 42 24 (pcs (zi7 l eps)), .r (.v (.int .i64 0))]) [] := by
 have cS := zoB eps he
 have cC := zkh l (by omega)
 rw [show chkS l = 0 by unfold chkS; rw [zs6 hs]; rfl] at cC
 have hpsi := zi8 he hs hI hn
 have hlen : (smps l).length = l.length := zjp l
 refine zap Tryz.func9 rfl (Nat.le_of_ble_eq_true rfl) rfl rfl ?_
 (repeat' (first | (first | refine zaH 9 ?_ | refine zaz 9 ?_) | refine za6 ?_ | refine zaG ?_ | (refine is_f 23 ?_; refine zah (cS) ?_) | (refine is_f 24 ?_; refine zah (cC) ?_) | (refine zac (fun hb => ?_) (fun hb => ?_) <;> (try (exfalso; omega))) | fail))
 all_goals (first | (exfalso; omega) | skip)
 refine halt ?_
 refine zdd 8 42 24 rfl rfl ?_
 (repeat' (first | refine zai ?_ | (refine zac (fun hb => ?_) (fun hb => ?_) <;> (try (exfalso; omega))) | fail))
 refine zas (fun y : Nat × Ps × List Pc => paS l y.2.1 y.2.2 y.1) (fun y => y.1 ≤ l.length ∧ (y.2.1, y.2.2) = psGo (l.take y.1) (zcv eps, [])) (fun y => l.length - y.1) (0, zcv eps, []) ⟨Nat.zero_le _, rfl⟩ (by
  show Le _ _ (paS l (zcv eps) [] 0)
  unfold paS
  refine Le.mk [(0, 0), (1, 1)] [] rfl (by (repeat' (first | exact zaX | refine zbQ ?_ | refine le_r ?_ rfl rfl | refine za9 ?_ (by omega) rfl | refine zbR ?_ rfl rfl | refine zbS ?_ rfl rfl | refine zbH ?_ rfl zaN rfl rfl | refine zbX ?_ rfl rfl | refine zbW ?_ rfl rfl | refine zbZ ?_ ?_ rfl | refine zb0 ?_ ?_ rfl | refine za4 ?_ rfl | refine zbt ?_ rfl | refine zbi ?_ rfl | exact CfL.nil))) ?_ (fun g h => nomatch h)
  exact ⟨⟨_, rfl, .var _ _ _ (show CfL _ _ _ (vsA (psV eps 0 0 0 0 0 0 false 0 0 0 0)) (vsA (psV eps 0 0 0 0 0 0 false 0 0 0 0)) from zaL _)⟩, ⟨_, rfl, .row _ _ _⟩, trivial⟩) fun y hy => ?_
 obtain ⟨i, x, out⟩ := y
 obtain ⟨hi, hgo⟩ := hy
 dsimp only at hi hgo
 have hps := hpsi i hi
 rw [← hgo] at hps
 dsimp only at hps
 show awp _ _ _ _ _ (paS l x out i)
 clear cS cC
 rcases Nat.lt_or_ge i l.length with hlt | hge
 ·have hgs := zjo hlt
  obtain ⟨hIt, hIv⟩ := hI i hlt
  have hwi : IntKind.i64.wrap ((i : Int) + 1) = ((i + 1 : Nat) : Int) := zaT i (by omega)
  obtain ⟨tm, htm⟩ : ∃ z, (l.getD i (0, 0)).1 = z := ⟨_, rfl⟩
  obtain ⟨v, hv⟩ : ∃ z, (l.getD i (0, 0)).2 = z := ⟨_, rfl⟩
  have hsum := hps.sum
  have hpl : (pcs out).length ≤ 1000000 := by rw [zcZ]; have := hps.len; omega
  have hlast : 0 < i → (l.getD (i - 1) (0, 0)).1 < tm := fun hp => by
   have hs2 := hs
   rw [List.pairwise_iff_getElem] at hs2
   have := hs2 (i - 1) i (by rw [List.length_map]; omega) (by rw [List.length_map]; omega) (by omega)
   rw [List.getElem_map, List.getElem_map] at this
   rw [← htm, List.getD_eq_getElem?_getD, List.getElem?_eq_getElem (show i - 1 < l.length by omega), List.getD_eq_getElem?_getD, List.getElem?_eq_getElem hlt]
   exact this
  have hpair : l.getD i (0, 0) = (tm, v) := by rw [← htm, ← hv]
  rw [htm, hv] at hgs
  rw [htm] at hIt
  rw [hv] at hIv
  rcases hps.st with ⟨h1, h2⟩ | ⟨h1, h2⟩
  ·have hz : x.ct = 0 := by rw [h2]; rfl
   have h0 : x.ok0 := by rw [h2]; exact zgl he
   have hstep : zdJ x (l.getD i (0, 0)) = (zcu x tm v, []) := by unfold zdJ; rw [if_pos hz, hpair]
   have cP := zoC x tm v h0 hIv (by omega)
   clear h2
   generalize zcu x tm v = Y at cP hstep
   unfold stA psVs at cP
   (repeat' (first | refine zai ?_ | (refine is_f 25 ?_; refine zah (cP) ?_) | (refine zac (fun hb => ?_) (fun hb => ?_) <;> (try (exfalso; omega))) | fail))
   all_goals (first | (exfalso; omega) | skip)
   refine ⟨(i + 1, Y, out ++ []), ⟨hlt, ?_⟩, ?_, by show l.length - (i + 1) < l.length - i; omega⟩
   ·show (Y, out ++ []) = psGo (l.take (i + 1)) (zcv eps, [])
    rw [zf0 l i (0, 0) hlt, zeF, ← hgo, hstep]
   show Le _ _ (paS l Y (out ++ []) (i + 1))
   unfold paS
   refine Le.mk [(0, 0), (1, 2)] [] rfl (by (repeat' (first | exact zaX | refine zbQ ?_ | refine le_r ?_ rfl rfl | refine za9 ?_ (by omega) rfl | refine zbR ?_ rfl rfl | refine zbS ?_ rfl rfl | refine zbH ?_ rfl zaN rfl rfl | refine zbX ?_ rfl rfl | refine zbW ?_ rfl rfl | refine zbZ ?_ ?_ rfl | refine zb0 ?_ ?_ rfl | refine za4 ?_ rfl | refine zbt ?_ rfl | refine zbi ?_ rfl | exact CfL.nil))) ?_ (fun g h => nomatch h)
   exact ⟨⟨_, rfl, .var _ _ _ (show CfL _ _ _ (vsA (psVs Y)) (vsA (psVs Y)) from zaL _)⟩, ⟨_, rfl, by rw [← zhq]; exact .row _ _ _⟩, trivial⟩
  ·have hnz : x.ct ≠ 0 := by rcases h2 with h2 | h2 <;> (have := h2.2.1; omega)
   obtain ⟨l1, l2, l3⟩ := hps.last h1
   have hl2 := hlast h1
   cases hm : zco x.c (thC x tm v) with
   | some m =>
    have hstep : zdJ x (l.getD i (0, 0)) = (zj8 x tm m, []) := by unfold zdJ; rw [if_neg hnz, hpair, hm]
    have cP := zoD x tm v h2 hIv hIt l3 (by omega) l2 (by omega) m hm
    clear h2
    generalize zj8 x tm m = Y at cP hstep
    unfold stA psVs at cP
    (repeat' (first | refine zai ?_ | (refine is_f 25 ?_; refine zah (cP) ?_) | (refine zac (fun hb => ?_) (fun hb => ?_) <;> (try (exfalso; omega))) | fail))
    all_goals (first | (exfalso; omega) | skip)
    refine ⟨(i + 1, Y, out ++ []), ⟨hlt, ?_⟩, ?_, by show l.length - (i + 1) < l.length - i; omega⟩
    ·show (Y, out ++ []) = psGo (l.take (i + 1)) (zcv eps, [])
     rw [zf0 l i (0, 0) hlt, zeF, ← hgo, hstep]
    show Le _ _ (paS l Y (out ++ []) (i + 1))
    unfold paS
    refine Le.mk [(0, 0), (1, 2)] [] rfl (by (repeat' (first | exact zaX | refine zbQ ?_ | refine le_r ?_ rfl rfl | refine za9 ?_ (by omega) rfl | refine zbR ?_ rfl rfl | refine zbS ?_ rfl rfl | refine zbH ?_ rfl zaN rfl rfl | refine zbX ?_ rfl rfl | refine zbW ?_ rfl rfl | refine zbZ ?_ ?_ rfl | refine zb0 ?_ ?_ rfl | refine za4 ?_ rfl | refine zbt ?_ rfl | refine zbi ?_ rfl | exact CfL.nil))) ?_ (fun g h => nomatch h)
    exact ⟨⟨_, rfl, .var _ _ _ (show CfL _ _ _ (vsA (psVs Y)) (vsA (psVs Y)) from zaL _)⟩, ⟨_, rfl, by rw [← zhq]; exact .row _ _ _⟩, trivial⟩
   | none =>
    have hstep : zdJ x (l.getD i (0, 0)) = (zcu x tm v, [x.pc]) := by unfold zdJ; rw [if_neg hnz, hpair, hm]
    have cP := zoE x tm v h2 hIv hIt l3 (by omega) l2 (by omega) hm
    clear h2
    generalize zcu x tm v = Y at cP hstep
    unfold stA psVs at cP
    have hp1 : (pcs [x.pc]).length = 1 := rfl
    obtain ⟨pl, hpl2⟩ : ∃ pl, pcs [x.pc] = pl := ⟨_, rfl⟩
    rw [hpl2] at cP hp1
    subst htm hv
    (repeat' (first | refine zai ?_ | (refine zac (fun hb => ?_) (fun hb => ?_) <;> (try (exfalso; omega))) | fail))
    all_goals (first | (exfalso; omega) | skip)
    refine is_f 25 ?_
    refine zsG (.tu [.ag (vsA (psVs Y)), .ow 2, .r (.v (.int .i64 0))]) [.row 42 24 pl] cP ?_ (by kernel_rfl) (zpl _ _ _ _ _ _) (zn6 _ _ _) (zqf _ _ _ _) rfl (.inl ⟨rfl, rfl⟩) ?_
    ·exact .cons _ _ _ _ (.ag _ _ (show CfL _ _ _ (vsA (psVs x)) (vsA (psVs x)) from zaL _)) (.cons _ _ _ _ (.ag _ _ (.cons _ _ _ _ (.r _) (.cons _ _ _ _ (.r _) .nil))) .nil)
    (repeat' (first | refine zai ?_ | (refine zac (fun hb => ?_) (fun hb => ?_) <;> (try (exfalso; omega))) | fail))
    all_goals (first | (exfalso; omega) | skip)
    refine ⟨(i + 1, Y, out ++ [x.pc]), ⟨hlt, ?_⟩, ?_, by show l.length - (i + 1) < l.length - i; omega⟩
    ·show (Y, out ++ [x.pc]) = psGo (l.take (i + 1)) (zcv eps, [])
     rw [zf0 l i (0, 0) hlt, zeF, ← hgo, hstep]
    show Le _ _ (paS l Y (out ++ [x.pc]) (i + 1))
    unfold paS
    refine Le.mk [(0, 0), (1, 3)] [] rfl (by (repeat' (first | exact zaX | refine zbQ ?_ | refine le_r ?_ rfl rfl | refine za9 ?_ (by omega) rfl | refine zbR ?_ rfl rfl | refine zbS ?_ rfl rfl | refine zbH ?_ rfl zaN rfl rfl | refine zbX ?_ rfl rfl | refine zbW ?_ rfl rfl | refine zbZ ?_ ?_ rfl | refine zb0 ?_ ?_ rfl | refine za4 ?_ rfl | refine zbt ?_ rfl | refine zbi ?_ rfl | exact CfL.nil))) ?_ (fun g h => nomatch h)
    exact ⟨⟨_, rfl, .var _ _ _ (show CfL _ _ _ (vsA (psVs Y)) (vsA (psVs Y)) from zaL _)⟩, ⟨_, rfl, by rw [← zhq, hpl2]; exact .row _ _ _⟩, trivial⟩
 ·have hie : i = l.length := by omega
  subst hie
  rw [List.take_length] at hgo
  have hpl : (pcs out).length ≤ 1000000 := by rw [zcZ]; have := hps.len; omega
  have hp1 : (pcs [x.pc]).length = 1 := rfl
  rcases hps.st with ⟨h1, h2⟩ | ⟨h1, h2⟩
  ·have hl0 : l = [] := List.length_eq_zero_iff.1 h1
   have hall : zi7 l eps = out ++ [] := by unfold zi7; rw [if_pos hl0, ← hgo]
   have h0 : x.ok0 := by rw [h2]; exact zgl he
   have cF := zk8 x h0
   clear h2
   unfold stA psVs at cF
   rw [hall, ← zhq]
   (repeat' (first | refine zai ?_ | (refine is_f 26 ?_; refine zah (cF) ?_) | (refine zac (fun hb => ?_) (fun hb => ?_) <;> (try (exfalso; omega))) | fail))
   all_goals (first | (exfalso; omega) | exact ret2 [] (.fr 2 _ _ _ rfl) (.int rfl) rfl rfl rfl rfl)
  ·have hl0 : l ≠ [] := List.length_pos_iff.1 h1
   have hall : zi7 l eps = out ++ [x.pc] := by unfold zi7; rw [if_neg hl0, ← hgo]
   have cF := zil x h2
   clear h2
   unfold stA psVs at cF
   rw [hall, ← zhq]
   (repeat' (first | refine zai ?_ | (refine is_f 26 ?_; refine zah (cF) ?_) | (refine zac (fun hb => ?_) (fun hb => ?_) <;> (try (exfalso; omega))) | fail))
   all_goals (first | (exfalso; omega) | exact ret2 [] (.fr 3 _ _ _ rfl) (.int rfl) rfl rfl rfl rfl)
def kn1 : Pc := ⟨5, 0, 0, ⟨false, 2, 1, 4, 1⟩⟩
def kn0 : Pc := ⟨0, 0, 0, ⟨false, 1, 1, 3, 1⟩⟩
theorem zrM : zdP [kn1, kn0] = [kn0, kn1] := by
 have hv : ∀ n : Int, 0 < n → n < 10 → VR n 1 := fun n h1 h2 => ⟨by omega, by unfold N127; omega, by decide, by simp⟩
 refine (zjq (fun x hx => ?_) (by decide) (List.Perm.swap _ _ _) ?_).symm
 ·simp only [List.mem_cons, List.not_mem_nil, or_false] at hx
  rcases hx with rfl | rfl
  ·exact .inr ⟨rfl, hv 2 (by omega) (by omega), hv 4 (by omega) (by omega), by decide⟩
  ·exact .inr ⟨rfl, hv 1 (by omega) (by omega), hv 3 (by omega) (by omega), by decide⟩
 ·refine .cons (fun y hy => ?_) (.cons (fun y hy => nomatch hy) .nil)
  rw [List.mem_singleton] at hy
  subst hy
  decide
def knG : Gr := ⟨0, [0, 5], ⟨false, 2, 1, 3, 1⟩⟩
theorem zrJ : [kn0, kn1].foldl jn [] = [knG] := by rfl
theorem ztV : chC knG.c = (2, 1) := by
 show btw 2 1 3 1 = (2, 1)
 unfold btw
 rw [if_neg (by decide), if_neg (by decide)]
 show (((posF 2 1 3 1).1 : Int), ((posF 2 1 3 1).2 : Int)) = _
 rw [posF, dif_pos (by simp)]
 rfl
theorem kn_z : zcJ knG.ss = [0, 5] := List.mergeSort_of_pairwise (by decide)
theorem ztW : PcOk [kn1, kn0] := by
 have hv : ∀ n : Int, 0 < n → n < 10 → VR n 1 := fun n h1 h2 => ⟨by omega, by unfold N127; omega, by decide, by simp⟩
 refine ⟨fun x hx => ?_, fun x hx => ?_, by decide⟩
 ·simp only [List.mem_cons, List.not_mem_nil, or_false] at hx
  rcases hx with rfl | rfl
  ·exact .inr ⟨rfl, hv 2 (by omega) (by omega), hv 4 (by omega) (by omega), by decide⟩
  ·exact .inr ⟨rfl, hv 1 (by omega) (by omega), hv 3 (by omega) (by omega), by decide⟩
 ·simp only [List.mem_cons, List.not_mem_nil, or_false] at hx
  rcases hx with rfl | rfl <;> decide
def knO : List RV := .v (.int .i64 0) :: ((rtVs 2 1).map RV.v ++ [.sl 1 (nums .i64 [0, 5])])
theorem zrK : zan Tryz.prog 15 [.r (.sl 24 [(pcVs kn1).map RV.v, (pcVs kn0).map RV.v])] [] (.tu [.fr 51 12 [knO], .r (.v (.int .i64 0))]) [] := by
 have h := zqM [kn1, kn0] (by decide) ztW
 rw [zrM, zrJ] at h
 have e : grO knG = knO := by
  unfold grO knO
  rw [ztV, kn_z]; rfl
 rw [List.map_cons, List.map_nil, e] at h
 exact h
section
variable {env : Nat → AV} {H : Nat → Option Blk} {d : Option Tmp} {ty : TypeId} {pos : String} {af : Array Edge} {g : Option (Nat × Bool)} {u : TypeId} {x y : Operand}
theorem ztm (p q : Int) (h1 : W4 p) (h2 : W4 q) (hx : evA env x = rt p q) (hy : evA env y = rt p q) : zax Tryz.prog ⟨d, .binOp .eql 38 x y u, ty, pos, af, g⟩ env H [] (.r (.v (.bool true))) := by
 have h := zou (H := H) (d := d) (ty := ty) (pos := pos) (af := af) (g := g) (u := u) (x := x) (y := y) (vs := rtVs p q) (us := rtVs p q) (by kernel_rfl) (zlF (d := 9996) h1 h2 h1 h2) hx hy
 simpa using h
end
theorem zoe : zan Tryz.prog 13 [] [] (.r (.v (.bool true))) [] := by
 have o2 := zio 2 (by unfold I64; omega)
 have o4 := zio 4 (by unfold I64; omega)
 have o1 := zio 1 (by unfold I64; omega)
 have o3 := zio 3 (by unfold I64; omega)
 have cJ := zrK
 refine zap Tryz.func13 rfl (Nat.le_of_ble_eq_true rfl) rfl rfl ?_
 (repeat' (first | (first | refine zaH 1 ?_ | refine zaz 1 ?_) | refine za6 ?_ | refine zaG ?_ | (refine zac (fun hb => ?_) (fun hb => ?_) <;> (try (exfalso; omega))) | fail))
 refine halt ?_
 refine zdU ?_
 refine zno ⟨[(12, .r (.sl 24 [(pcVs kn1).map RV.v, (pcVs kn0).map RV.v]))], [], 0⟩ (l1 := [_, _, _, _, _, _, _, _, _]) (l2 := [_, _, _, _, _, _]) ?_ ?_
 ·(repeat' (first | refine zai ?_ | (refine is_f 31 ?_; refine zah (o2) ?_) | (refine is_f 31 ?_; refine zah (o4) ?_) | (refine is_f 31 ?_; refine zah (o1) ?_) | (refine is_f 31 ?_; refine zah (o3) ?_) | (refine zac (fun hb => ?_) (fun hb => ?_) <;> (try (exfalso; omega))) | fail))
  refine Le.mk [] [0] rfl ⟨?_, trivial⟩ zbq (fun g h => by
   rw [List.mem_singleton] at h
   subst h
   exact ⟨_, rfl⟩)
  first
   | exact .fzf 0 42 24 [(pcVs kn1).map RV.v, (pcVs kn0).map RV.v] rfl (by simp)
   | exact .fz 0 42 24 [(pcVs kn1).map RV.v, (pcVs kn0).map RV.v] rfl (by simp)
 ·(repeat' (first | (first | refine zaH 2 ?_ | refine zaz 2 ?_) | refine za6 ?_ | refine zaG ?_ | (refine is_f 15 ?_; refine zah (cJ) ?_) | (refine zac (fun hb => ?_) (fun hb => ?_) <;> (try (exfalso; omega))) | fail))
  refine halt ?_
  refine zbp (T := ⟨[(1, .r (.sl 12 [knO])), (2, .r (.v (.int .i64 0)))], [], 0⟩) (by (refine Le.mk [] [0] zaj zaC zav zal)) ?_
  have w2 : W4 2 := by unfold W4; decide
  have w1 : W4 1 := by unfold W4; decide
  have hk1 : (((nums .i64 [0, 5]).length : Nat) : Int) = 2 := rfl
  have hk2 : ((([knO] : List (List RV)).length : Nat) : Int) = 1 := rfl
  have hk0 : ([knO] : List (List RV))[0]? = some knO := rfl
  (repeat' (first | (refine zbP ?_; refine zbl ?_; refine zag rfl zab (ztm 2 1 w2 w1 rfl rfl) ?_) | (refine zea ?_; refine zag rfl zab (zl4 rfl (Nat.le_of_ble_eq_true rfl)) ?_) | refine zai ?_ | (refine is_f 31 ?_; refine zah (o2) ?_) | (refine zac (fun hb => ?_) (fun hb => ?_) <;> (try (exfalso; omega))) | fail))
  all_goals (first | (exfalso; omega) | exact ret1 [] (.bool rfl) rfl rfl rfl)
end Go.Proofs.YtibedaeefnjjlaaGreat
