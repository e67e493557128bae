/- Texts of the second layer in one: Gp1 Gp2 Gp3 Gq1 So2 Ra1 Sv Ra2. -/
import Derived.Test.YtibedaeefnjjlaaGreatG19
import Derived.Test.YtibedaeefnjjlaaGreatG6
import Derived.Test.YtibedaeefnjjlaaGreatG17
import Derived.Sort.Statements
import Derived.Test.YtibedaeefnjjlaaGreatG8
import Derived.Deep.Slices
import Derived.ChangeSame
import Derived.OpenShut
set_option maxHeartbeats 8000000
set_option maxRecDepth 100000
set_option linter.unusedVariables false
set_option linter.unusedSimpArgs false
namespace Go.Proofs.YtibedaeefnjjlaaGreat
open Go.RowKit Go.Ab Go.Wd
theorem zlP (x : Int) : zan Tryz.prog 99 [.r (.v (.int .i64 x))] [] (.r (.v (.bool false))) [] := by
 refine zap Tryz.func99 rfl (Nat.le_of_ble_eq_true rfl) rfl rfl ?_
 (repeat' (first | refine zad ?_ | (refine zac (fun hb => ?_) (fun hb => ?_) <;> (try (exfalso; omega))) | fail))
 all_goals (first | (exfalso; omega) | exact ret1 [] (.bool rfl) rfl rfl rfl)
theorem zlQ (x : Int) : zan Tryz.prog 98 [.r (.v (.int .i64 x))] [] (.r (.v (.bool false))) [] := by
 refine zap Tryz.func98 rfl (Nat.le_of_ble_eq_true rfl) rfl rfl ?_
 (repeat' (first | refine zad ?_ | (refine zac (fun hb => ?_) (fun hb => ?_) <;> (try (exfalso; omega))) | fail))
 all_goals (first | (exfalso; omega) | exact ret1 [] (.bool rfl) rfl rfl rfl)
theorem zsX (x y : Int) : zan Tryz.prog 71 [.r (.v (.int .i64 x)), .r (.v (.int .i64 y))] [] (.r (.v (.int .i64 (cmpZ x y)))) [] := by
 have c1 : x < y → (-1 : Int) = cmpZ x y := fun h => by unfold cmpZ; rw [if_pos h]
 have c2 : y < x → (1 : Int) = cmpZ x y := fun h => by unfold cmpZ; rw [if_neg (by omega), if_pos h]
 have c3 : ¬ x < y → ¬ y < x → (0 : Int) = cmpZ x y := fun h g => by unfold cmpZ; rw [if_neg h, if_neg g]
 generalize cmpZ x y = z at *
 refine zap Tryz.func71 rfl (Nat.le_of_ble_eq_true rfl) rfl rfl ?_
 (repeat' (first | refine zad ?_ | (refine is_f 99 ?_; refine zaa (zlP x) ?_) | (refine is_f 99 ?_; refine zaa (zlP y) ?_) | (refine zac (fun hb => ?_) (fun hb => ?_) <;> (try (exfalso; omega))) | fail))
 all_goals (first | (exfalso; omega) | exact ret1 [] (.int (c1 (by omega))) rfl rfl rfl | exact ret1 [] (.int (c2 (by omega))) rfl rfl rfl | exact ret1 [] (.int (c3 (by omega) (by omega))) rfl rfl rfl)
theorem zsY (x y : Int) : zan Tryz.prog 69 [.r (.v (.int .i64 x)), .r (.v (.int .i64 y))] [] (.r (.v (.int .i64 (cmpZ x y)))) [] := by
 have c1 : x < y → (-1 : Int) = cmpZ x y := fun h => by unfold cmpZ; rw [if_pos h]
 have c2 : y < x → (1 : Int) = cmpZ x y := fun h => by unfold cmpZ; rw [if_neg (by omega), if_pos h]
 have c3 : ¬ x < y → ¬ y < x → (0 : Int) = cmpZ x y := fun h g => by unfold cmpZ; rw [if_neg h, if_neg g]
 generalize cmpZ x y = z at *
 refine zap Tryz.func69 rfl (Nat.le_of_ble_eq_true rfl) rfl rfl ?_
 (repeat' (first | refine zad ?_ | (refine is_f 98 ?_; refine zaa (zlQ x) ?_) | (refine is_f 98 ?_; refine zaa (zlQ y) ?_) | (refine zac (fun hb => ?_) (fun hb => ?_) <;> (try (exfalso; omega))) | fail))
 all_goals (first | (exfalso; omega) | exact ret1 [] (.int (c1 (by omega))) rfl rfl rfl | exact ret1 [] (.int (c2 (by omega))) rfl rfl rfl | exact ret1 [] (.int (c3 (by omega) (by omega))) rfl rfl rfl)
structure Cn where
 o : Bool
 p : Int
 q : Int
 r : Int
 s : Int
 deriving DecidableEq, Inhabited
structure Pc where
 ix : Int
 ct : Int
 ky : Int
 c : Cn
 deriving DecidableEq, Inhabited
def Cn.A (c : Cn) : AV := cn c.o c.p c.q c.r c.s
def Cn.ok (c : Cn) : Prop := (c.o = true ∧ c.p = 0 ∧ c.q = 0 ∧ c.r = 0 ∧ c.s = 0) ∨ (c.o = false ∧ VC c.p c.q c.r c.s)
def pcVs (x : Pc) : List Value := .int .i64 x.ix :: .int .i64 x.ct :: .int .i64 x.ky :: cnVs x.c.o x.c.p x.c.q x.c.r x.c.s
def pcA (x : Pc) : AV := .ag (vsA (pcVs x))
def cmpC (a b : Cn) : Int := if a.o then (if b.o then 0 else -1) else if b.o then 1 else orL [cmpZ (a.p * b.q) (b.p * a.q), cmpZ (a.r * b.s) (b.r * a.s)]
def cmpP (a b : Pc) : Int := orL [cmpZ a.ky b.ky, cmpC a.c b.c, cmpZ a.ix b.ix]
theorem znR (p q r s p' q' r' s' : Int) : zan Tryz.prog 70 [cn true p q r s, cn true p' q' r' s'] [] (.r (.v (.int .i64 0))) [] := by
 refine zap Tryz.func70 rfl (Nat.le_of_ble_eq_true rfl) rfl rfl ?_
 (repeat' (first | refine zad ?_ | (refine zac (fun hb => ?_) (fun hb => ?_) <;> (try (exfalso; omega))) | fail))
 all_goals (first | (exfalso; omega) | exact absurd rfl hb | exact ret1 [] (.int rfl) rfl rfl rfl)
theorem znQ (p q r s p' q' r' s' : Int) : zan Tryz.prog 70 [cn true p q r s, cn false p' q' r' s'] [] (.r (.v (.int .i64 (-1)))) [] := by
 refine zap Tryz.func70 rfl (Nat.le_of_ble_eq_true rfl) rfl rfl ?_
 (repeat' (first | refine zad ?_ | (refine zac (fun hb => ?_) (fun hb => ?_) <;> (try (exfalso; omega))) | fail))
 all_goals (first | (exfalso; omega) | exact absurd rfl hb | exact ret1 [] (.int rfl) rfl rfl rfl)
theorem znP (p q r s p' q' r' s' : Int) : zan Tryz.prog 70 [cn false p q r s, cn true p' q' r' s'] [] (.r (.v (.int .i64 1))) [] := by
 refine zap Tryz.func70 rfl (Nat.le_of_ble_eq_true rfl) rfl rfl ?_
 (repeat' (first | refine zad ?_ | (refine zac (fun hb => ?_) (fun hb => ?_) <;> (try (exfalso; omega))) | fail))
 all_goals (first | (exfalso; omega) | exact absurd rfl hb | exact ret1 [] (.int rfl) rfl rfl rfl)
theorem znO (p q r s p' q' r' s' : Int) (h : VC p q r s) (h' : VC p' q' r' s') : zan Tryz.prog 70 [cn false p q r s, cn false p' q' r' s'] [] (.r (.v (.int .i64 (orL [cmpZ (p * q') (p' * q), cmpZ (r * s') (r' * s)])))) [] := by
 have c1 := zgv p q p' q' h.1 h'.1
 have c2 := zgv r s r' s' h.2.1 h'.2.1
 generalize cmpZ (p * q') (p' * q) = z1 at *
 generalize cmpZ (r * s') (r' * s) = z2 at *
 have cO := zkH [z1, z2] (by simp)
 generalize orL [z1, z2] = r at *
 have hE : [[.v (.int .i64 z1)], [.v (.int .i64 z2)]] = nums .i64 [z1, z2] := rfl
 refine zap Tryz.func70 rfl (Nat.le_of_ble_eq_true rfl) rfl rfl ?_
 (repeat' (first | refine zad ?_ | (refine is_f 95 ?_; refine zaa (c1) ?_) | (refine is_f 95 ?_; refine zaa (c2) ?_) | (refine is_f 68 ?_; refine zjd (cO) ?_) | (refine zac (fun hb => ?_) (fun hb => ?_) <;> (try (exfalso; omega))) | fail))
 all_goals (first | (exfalso; omega) | exact absurd rfl hb | exact ret1 [] (.int rfl) rfl rfl rfl)
theorem zrq (a b : Cn) (ha : a.ok) (hb : b.ok) : zan Tryz.prog 70 [a.A, b.A] [] (.r (.v (.int .i64 (cmpC a b)))) [] := by
 obtain ⟨o, p, q, r, s⟩ := a
 obtain ⟨o', p', q', r', s'⟩ := b
 unfold cmpC Cn.A
 rcases ha with ⟨h1, h2, h3, h4, h5⟩ | ⟨h1, h2⟩ <;> rcases hb with ⟨g1, g2, g3, g4, g5⟩ | ⟨g1, g2⟩ <;> dsimp only at * <;> subst h1 g1
 ·exact znR p q r s p' q' r' s'
 ·exact znQ p q r s p' q' r' s'
 ·exact znP p q r s p' q' r' s'
 ·exact znO p q r s p' q' r' s' h2 g2
theorem zmE (a b : Pc) (ha : a.c.ok) (hb : b.c.ok) : zan Tryz.prog 36 [pcA a, pcA b] [] (.r (.v (.int .i64 (cmpP a b)))) [] := by
 have c1 := zsY a.ky b.ky
 have c2 := zrq a.c b.c ha hb
 have c3 := zsX a.ix b.ix
 unfold cmpP
 generalize cmpZ a.ky b.ky = z1 at *
 generalize cmpC a.c b.c = z2 at *
 generalize cmpZ a.ix b.ix = z3 at *
 have cO := zkH [z1, z2, z3] (by simp)
 generalize orL [z1, z2, z3] = r at *
 have hE : [[.v (.int .i64 z1)], [.v (.int .i64 z2)], [.v (.int .i64 z3)]] = nums .i64 [z1, z2, z3] := rfl
 clear ha hb
 refine zap Tryz.func36 rfl (Nat.le_of_ble_eq_true rfl) rfl rfl ?_
 (repeat' (first | refine zad ?_ | (refine is_f 69 ?_; refine zaa (c1) ?_) | (refine is_f 70 ?_; refine zaa (c2) ?_) | (refine is_f 71 ?_; refine zaa (c3) ?_) | (refine is_f 68 ?_; refine zjd (cO) ?_) | (refine zac (fun hb => ?_) (fun hb => ?_) <;> (try (exfalso; omega))) | fail))
 all_goals (first | (exfalso; omega) | exact ret1 [] (.int rfl) rfl rfl rfl)
def zco (a b : Cn) : Option Cn :=
 if a.o then some b else if b.o then some a else
 if (mLo a.p a.q b.p b.q).1 * (mHi a.r a.s b.r b.s).2 ≤ (mHi a.r a.s b.r b.s).1 * (mLo a.p a.q b.p b.q).2 then some ⟨false, (mLo a.p a.q b.p b.q).1, (mLo a.p a.q b.p b.q).2, (mHi a.r a.s b.r b.s).1, (mHi a.r a.s b.r b.s).2⟩ else none
theorem zgK {a b c : Cn} (ha : a.ok) (hb : b.ok) (h : zco a b = some c) : c.ok := by
 unfold zco at h
 split at h
 ·injection h with h; subst h; exact hb
 ·split at h
  ·injection h with h; subst h; exact ha
  ·split at h
   ·rename_i h1 h2 h3
    injection h with h
    subst h
    rcases ha with ⟨g, _⟩ | ⟨g, ha⟩
    ·exact absurd g h1
    ·rcases hb with ⟨g', _⟩ | ⟨g', hb⟩
     ·exact absurd g' h2
     ·exact .inr ⟨rfl, zoh ha.1 hb.1, zof ha.2.1 hb.2.1, h3⟩
   ·cases h
theorem zjX {a b c : Cn} (ha : a.ok) (hb : b.ok) (h : zco a b = some c) : zan Tryz.prog 72 [a.A, b.A] [] (.tu [c.A, .r (.v (.bool true))]) [] := by
 obtain ⟨o, p, q, r, s⟩ := a
 obtain ⟨o', p', q', r', s'⟩ := b
 unfold zco at h
 unfold Cn.A
 rcases ha with ⟨h1, h2, h3, h4, h5⟩ | ⟨h1, h2⟩ <;> dsimp only at * <;> subst h1
 ·subst h2 h3 h4 h5
  rw [if_pos rfl] at h
  injection h with h
  subst h
  refine zjJ _ _ _ _ _ ?_
  rcases hb with ⟨g1, g2, g3, g4, g5⟩ | ⟨g1, g2⟩ <;> dsimp only at * <;> subst g1
  ·subst g2 g3 g4 g5; exact zcT
  ·exact zcD _ _ _ _ g2
 ·rw [if_neg (by simp)] at h
  rcases hb with ⟨g1, g2, g3, g4, g5⟩ | ⟨g1, g2⟩ <;> dsimp only at * <;> subst g1
  ·rw [if_pos rfl] at h
   injection h with h
   subst h g2 g3 g4 g5
   exact zjK _ _ _ _ h2
  ·rw [if_neg (by simp)] at h
   have := zh7 p q r s p' q' r' s' h2 g2
   split at h
   ·rename_i h3
    rw [if_pos h3] at this
    injection h with h
    subst h
    exact this
   ·cases h
theorem zok {a b : Cn} (ha : a.ok) (hb : b.ok) (h : zco a b = none) : zan Tryz.prog 72 [a.A, b.A] [] (.tu [cn false 0 0 0 0, .r (.v (.bool false))]) [] := by
 obtain ⟨o, p, q, r, s⟩ := a
 obtain ⟨o', p', q', r', s'⟩ := b
 unfold zco at h
 unfold Cn.A
 rcases ha with ⟨h1, h2, h3, h4, h5⟩ | ⟨h1, h2⟩ <;> dsimp only at * <;> subst h1
 ·rw [if_pos rfl] at h; cases h
 ·rw [if_neg (by simp)] at h
  rcases hb with ⟨g1, g2, g3, g4, g5⟩ | ⟨g1, g2⟩ <;> dsimp only at * <;> subst g1
  ·rw [if_pos rfl] at h; cases h
  ·rw [if_neg (by simp)] at h
   have := zh7 p q r s p' q' r' s' h2 g2
   split at h
   ·cases h
   ·rename_i h3
    rw [if_neg h3] at this
    exact this
def gwC (ky : Int) (s : AV) (c : Cn) : List AV := .r (.v (.int .i64 ky)) :: (vsA (rtVs 0 0) ++ s :: vsA (cnVs c.o c.p c.q c.r c.s))
theorem zqt (es : List (List RV)) (ky : Int) (st : List Int) (c c' : Cn) (x : Pc) (hst : st.length ≤ 1000000) (hc : c.ok) (hx : x.c.ok) (hm : zco c x.c = some c') (hk : ky = x.ky) :
  zgT Tryz.prog 37 [.pe 1 33 es.length 0, pcA x] [.row 3 1 (nums .i64 st), .rowo 87 33 es (gwC ky (.ow 0) c)] (.r (.v (.bool true)))
   [none, some (.rowo 87 33 es (gwC ky (.fr 3 1 (nums .i64 (st ++ [x.ix]))) c'))] := by
 have cM := zjX hc hx hm
 subst hk
 have hsl : (nums .i64 st).length = st.length := zbz _ st
 have hE : nums .i64 st ++ [[.v (.int .i64 x.ix)]] = nums .i64 (st ++ [x.ix]) := by rw [zcG]; rfl
 clear hm hc hx
 refine zn1 Tryz.func37 rfl (Nat.le_of_ble_eq_true rfl) rfl rfl ?_
 (repeat' (first | refine zai ?_ | (refine is_f 72 ?_; refine zgM (cM) ?_) | (refine zac (fun hb => ?_) (fun hb => ?_) <;> (try (exfalso; omega))) | fail))
 all_goals (first | (exfalso; omega) | exact zsq [] (.r _) rfl rfl zla (by rfl))
theorem zm8 (es : List (List RV)) (ky : Int) (st : List Int) (c : Cn) (x : Pc) (hc : c.ok) (hx : x.c.ok) (hm : zco c x.c = none) :
  zgT Tryz.prog 37 [.pe 1 33 es.length 0, pcA x] [.row 3 1 (nums .i64 st), .rowo 87 33 es (gwC ky (.ow 0) c)] (.r (.v (.bool false)))
   [some (.row 3 1 (nums .i64 st)), some (.rowo 87 33 es (gwC ky (.ow 0) c))] := by
 have cM := zok hc hx hm
 clear hm hc hx
 refine zn1 Tryz.func37 rfl (Nat.le_of_ble_eq_true rfl) rfl rfl ?_
 (repeat' (first | refine zai ?_ | (refine is_f 72 ?_; refine zgM (cM) ?_) | (refine zac (fun hb => ?_) (fun hb => ?_) <;> (try (exfalso; omega))) | fail))
 all_goals (first | (exfalso; omega) | exact absurd rfl hb | exact zsq [] (.r _) rfl rfl zla (by rfl))
theorem zm9 (es : List (List RV)) (ky : Int) (st : List Int) (c c' : Cn) (x : Pc) (hc : c.ok) (hx : x.c.ok) (hm : zco c x.c = some c') (hk : ky ≠ x.ky) :
  zgT Tryz.prog 37 [.pe 1 33 es.length 0, pcA x] [.row 3 1 (nums .i64 st), .rowo 87 33 es (gwC ky (.ow 0) c)] (.r (.v (.bool false)))
   [some (.row 3 1 (nums .i64 st)), some (.rowo 87 33 es (gwC ky (.ow 0) c))] := by
 have cM := zjX hc hx hm
 clear hm hc hx
 refine zn1 Tryz.func37 rfl (Nat.le_of_ble_eq_true rfl) rfl rfl ?_
 (repeat' (first | refine zai ?_ | (refine is_f 72 ?_; refine zgM (cM) ?_) | (refine zac (fun hb => ?_) (fun hb => ?_) <;> (try (exfalso; omega))) | fail))
 all_goals (first | (exfalso; omega) | exact absurd rfl hb | exact zsq [] (.r _) rfl rfl zla (by rfl))
def pcs (l : List Pc) : List (List RV) := l.map fun x => (pcVs x).map RV.v
theorem zcZ (l : List Pc) : (pcs l).length = l.length := by simp [pcs]
theorem zeh {l : List Pc} {i : Nat} {x : Pc} (h : l[i]? = some x) : (pcs l)[i]? = some ((pcVs x).map RV.v) := by simp [pcs, h]
theorem zjM {c : Cn} (h : c.ok) : zan Tryz.prog 64 [c.A] [] (.r (.v (.bool true))) [] := by
 obtain ⟨o, p, q, r, s⟩ := c
 unfold Cn.A
 rcases h with ⟨h1, h2, h3, h4, h5⟩ | ⟨h1, h2⟩ <;> dsimp only at * <;> subst h1
 ·subst h2 h3 h4 h5; exact zcT
 ·exact zcD _ _ _ _ h2
structure PcOk (l : List Pc) : Prop where
 c : ∀ x ∈ l, x.c.ok
 ix : ∀ x ∈ l, 0 ≤ x.ix
 nd : (l.map Pc.ix).Nodup
def sdS (l : List Pc) (i : Nat) : St := ⟨[(2, .r (.v (.bool false))), (3, .ow 0), (7, .r (.sl 24 (pcs l))), (8, .r (.v (.int .i64 (l.length : Int)))), (9, .r (.v (.int .i64 (i : Int))))], [(0, some (.mp ((l.take i).map Pc.ix)))], 1⟩
theorem zsB (l : List Pc) (hl : l.length ≤ 1000000) (h : PcOk l) : zan Tryz.prog 33 [.r (.sl 24 (pcs l))] [] (.r (.v (.bool true))) [] := by
 have hlen : (pcs l).length = l.length := zcZ l
 refine zap Tryz.func33 rfl (Nat.le_of_ble_eq_true rfl) rfl rfl ?_
 have h00 : ([] : List Int) = (l.take 0).map Pc.ix := rfl
 (repeat' (first | refine zai ?_ | (refine zac (fun hb => ?_) (fun hb => ?_) <;> (try (exfalso; omega))) | fail))
 refine zas (sdS l) (fun i => i ≤ l.length) (fun i => l.length - i) 0 (Nat.zero_le _) (by (refine Le.mk [] [] zaj zao zav zal)) fun i hi => ?_
 rcases Nat.lt_or_ge i l.length with hlt | hge
 ·obtain ⟨x, hx⟩ : ∃ x, l[i]? = some x := ⟨_, List.getElem?_eq_getElem hlt⟩
  have hg := zeh hx
  have hm := List.mem_of_getElem? hx
  have cV := zjM (h.c x hm)
  have h0 := h.ix x hm
  have hE : (l.take i).map Pc.ix ++ [x.ix] = (l.take (i + 1)).map Pc.ix := by
   rw [List.take_add_one, hx, List.map_append]; rfl
  have hn : x.ix ∉ (l.take i).map Pc.ix := by
   have hsub : ((l.take (i + 1)).map Pc.ix).Nodup := (List.Sublist.map _ (List.take_sublist _ _)).nodup h.nd
   rw [← hE, List.nodup_append] at hsub
   exact fun hc => hsub.2.2 _ hc _ (by simp) rfl
  have hw : IntKind.i64.wrap ((i : Int) + 1) = ((i + 1 : Nat) : Int) := zaT i (by omega)
  (repeat' (first | refine zai ?_ | (refine is_f 64 ?_; refine zgM (cV) ?_) | (refine zac (fun hb => ?_) (fun hb => ?_) <;> (try (exfalso; omega))) | fail))
  all_goals (first | (exfalso; omega) | exact absurd hb hn | exact ⟨i + 1, hlt, by (refine Le.mk [] [] zaj zao zav zal), by show l.length - (i + 1) < l.length - i; omega⟩)
 ·(repeat' (first | refine zai ?_ | (refine zac (fun hb => ?_) (fun hb => ?_) <;> (try (exfalso; omega))) | fail))
  all_goals (first | (exfalso; omega) | exact ret1 [] (.bool rfl) rfl rfl rfl)
theorem zk7 : ∀ (N a b c d : Nat), b + d ≤ N → 0 < b → 0 < d → a * d ≤ c * b → a * (posF a b c d).2 ≤ (posF a b c d).1 * b ∧ (posF a b c d).1 * d ≤ c * (posF a b c d).2 ∧ 0 < (posF a b c d).2 ∧ Nat.gcd (posF a b c d).1 (posF a b c d).2 = 1
 | 0, a, b, c, d, hN, hb, hd, _ => by omega
 | N + 1, a, b, c, d, hN, hb, hd, hle => by
  have ea := Nat.mod_add_div a b
  have ec := Nat.mod_add_div c d
  have hra := Nat.mod_lt a hb
  have hrc := Nat.mod_lt c hd
  rw [posF]
  split
  ·rename_i h
   have hr : a % b = 0 := by omega
   rw [hr, Nat.zero_add] at ea
   refine ⟨?_, ?_, Nat.one_pos, Nat.gcd_one_right _⟩
   ·show a * 1 ≤ a / b * b
    rw [Nat.mul_one, Nat.mul_comm (a / b) b]; omega
   ·show a / b * d ≤ c * 1
    rw [Nat.mul_one]
    refine Nat.le_of_mul_le_mul_left (c := b) ?_ hb
    rw [← Nat.mul_assoc, ea, Nat.mul_comm b c]; exact hle
  ·rename_i h
   split
   ·rename_i hq
    refine ⟨?_, ?_, Nat.one_pos, Nat.gcd_one_right _⟩
    ·show a * 1 ≤ (a / b + 1) * b
     rw [Nat.mul_one, Nat.add_mul, Nat.one_mul, Nat.mul_comm (a / b) b]; omega
    ·show (a / b + 1) * d ≤ c * 1
     have h1 : (a / b + 1) * d ≤ c / d * d := Nat.mul_le_mul hq (Nat.le_refl d)
     have h2 := Nat.div_mul_le_self c d
     omega
   ·rename_i hq
    obtain ⟨he, hi, hs⟩ := zfR hb hd hle (by omega) hq
    obtain ⟨i1, i2, i3, i4⟩ := zk7 N d (c % d) b (a % b) (by omega) hs (by omega) hi
    generalize posF d (c % d) b (a % b) = R at *
    obtain ⟨n, m⟩ := R
    simp only at *
    have hn : 0 < n := by
     rcases Nat.eq_zero_or_pos n with h | h
     ·subst h
      have : 0 < d * m := Nat.mul_pos hd i3
      omega
     ·exact h
    generalize a % b = r at *
    generalize c % d = s at *
    rw [he] at ea ⊢
    generalize c / d = q at *
    refine ⟨?_, ?_, hn, ?_⟩
    ·rw [← ea, Nat.add_mul, Nat.add_mul]
     have e1 : b * q * n = q * n * b := by simp only [Nat.mul_assoc, Nat.mul_comm, Nat.mul_left_comm]
     have e2 : n * r = r * n := Nat.mul_comm _ _
     have e3 : b * m = m * b := Nat.mul_comm _ _
     omega
    ·rw [← ec, Nat.add_mul, Nat.add_mul]
     have e1 : q * n * d = d * q * n := by simp only [Nat.mul_assoc, Nat.mul_comm, Nat.mul_left_comm]
     have e2 : n * s = s * n := Nat.mul_comm _ _
     have e3 : d * m = m * d := Nat.mul_comm _ _
     omega
    ·rw [Nat.mul_comm q n, Nat.gcd_comm, Nat.add_comm, Nat.gcd_add_mul_left_right]; exact i4
theorem zsP (a b c d : Int) (hb : 0 < b) (hd : 0 < d) (hle : a * d ≤ c * b) :
  a * (btw a b c d).2 ≤ (btw a b c d).1 * b ∧ (btw a b c d).1 * d ≤ c * (btw a b c d).2 ∧ 0 < (btw a b c d).2 ∧ Nat.gcd (btw a b c d).1.natAbs (btw a b c d).2.natAbs = 1 ∧ (btw a b c d).1.natAbs ≤ a.natAbs + c.natAbs ∧ ((btw a b c d).1.natAbs ≤ a.natAbs ∨ (btw a b c d).1.natAbs ≤ c.natAbs) ∧ (btw a b c d).2.natAbs ≤ b.natAbs := by
 obtain ⟨b, rfl⟩ : ∃ n : Nat, b = (n : Int) := ⟨b.toNat, by omega⟩
 obtain ⟨d, rfl⟩ : ∃ n : Nat, d = (n : Int) := ⟨d.toNat, by omega⟩
 unfold btw
 split
 ·rename_i hc
  obtain ⟨c', rfl⟩ : ∃ n : Nat, c = -(n : Int) := ⟨c.natAbs, by omega⟩
  have ha : a < 0 := by
   rcases Int.lt_or_le a 0 with h | h
   ·exact h
   ·have h1 : 0 ≤ a * (d : Int) := Int.mul_nonneg h (by omega)
    have h2 : -(c' : Int) * (b : Int) < 0 := Int.mul_neg_of_neg_of_pos hc (by omega)
    omega
  obtain ⟨a', rfl⟩ : ∃ n : Nat, a = -(n : Int) := ⟨a.natAbs, by omega⟩
  simp only [Int.natAbs_neg, Int.natAbs_natCast]
  have hle' : c' * b ≤ a' * d := by
   rw [Int.neg_mul, Int.neg_mul] at hle
   have : ((c' * b : Nat) : Int) ≤ ((a' * d : Nat) : Int) := by rw [Int.natCast_mul, Int.natCast_mul]; omega
   omega
  obtain ⟨p1, p2, p3, p4⟩ := zk7 _ c' d a' b (Nat.le_refl _) (by omega) (by omega) hle'
  obtain ⟨q1, q2, q3, q4⟩ := zei _ c' d a' b (Nat.le_refl _) (by omega) (by omega) hle'
  generalize posF c' d a' b = R at *
  obtain ⟨n, m⟩ := R
  simp only at *
  refine ⟨?_, ?_, by omega, p4, by omega, .inl q2, q4⟩
  ·rw [Int.neg_mul, Int.neg_mul, ← Int.natCast_mul, ← Int.natCast_mul]; omega
  ·rw [Int.neg_mul, Int.neg_mul, ← Int.natCast_mul, ← Int.natCast_mul]; omega
 ·rename_i hc
  split
  ·rename_i ha
   refine ⟨by simp; omega, by simp; omega, by simp, by simp, by simp, by simp, by simp; omega⟩
  ·rename_i ha
   obtain ⟨a, rfl⟩ : ∃ n : Nat, a = (n : Int) := ⟨a.toNat, by omega⟩
   obtain ⟨c, rfl⟩ : ∃ n : Nat, c = (n : Int) := ⟨c.toNat, by omega⟩
   simp only [Int.natAbs_natCast]
   rw [← Int.natCast_mul, ← Int.natCast_mul] at hle
   have hle' : a * d ≤ c * b := by omega
   obtain ⟨p1, p2, p3, p4⟩ := zk7 _ a b c d (Nat.le_refl _) (by omega) (by omega) hle'
   obtain ⟨q1, q2, q3, q4⟩ := zei _ a b c d (Nat.le_refl _) (by omega) (by omega) hle'
   generalize posF a b c d = R at *
   obtain ⟨n, m⟩ := R
   simp only at *
   refine ⟨?_, ?_, by omega, p4, by omega, .inl q1, q3⟩
   ·rw [← Int.natCast_mul, ← Int.natCast_mul]; omega
   ·rw [← Int.natCast_mul, ← Int.natCast_mul]; omega
end Go.Proofs.YtibedaeefnjjlaaGreat
namespace Go.Proofs.YtibedaeefnjjlaaGreat
open Go.RowKit Go.Ab
structure zdw {α : Type} (D : α → Prop) (c : α → α → Int) : Prop where
 refl : ∀ x, D x → c x x = 0
 anti : ∀ x y, D x → D y → (c x y < 0 ↔ 0 < c y x)
 trans : ∀ x y z, D x → D y → D z → c x y ≤ 0 → c y z ≤ 0 → c x z ≤ 0
section
variable {α β : Type} {D : α → Prop} {c d : α → α → Int}
theorem zdw.le (h : zdw D c) {x y : α} (hx : D x) (hy : D y) : c x y ≤ 0 ↔ 0 ≤ c y x := by
 have := h.anti y x hy hx; omega
theorem zdw.lt (h : zdw D c) {x y z : α} (hx : D x) (hy : D y) (hz : D z) (h1 : c x y < 0) (h2 : c y z ≤ 0) : c x z < 0 := by
 have h3 := h.trans x y z hx hy hz (by omega) h2
 rcases Int.lt_or_eq_of_le h3 with h4 | h4
 ·exact h4
 ·have h5 : c z x ≤ 0 := (h.le hz hx).2 (by omega)
  have h6 := h.trans y z x hy hz hx h2 h5
  have := (h.anti x y hx hy).1 h1
  omega
theorem zdw.lt' (h : zdw D c) {x y z : α} (hx : D x) (hy : D y) (hz : D z) (h1 : c x y ≤ 0) (h2 : c y z < 0) : c x z < 0 := by
 have h3 := h.trans x y z hx hy hz h1 (by omega)
 rcases Int.lt_or_eq_of_le h3 with h4 | h4
 ·exact h4
 ·have h5 : c z x ≤ 0 := (h.le hz hx).2 (by omega)
  have h6 := h.trans z x y hz hx hy h5 h1
  have := (h.anti y z hy hz).1 h2
  omega
theorem zdw.or (h : zdw D c) (k : zdw D d) : zdw D fun x y => if c x y ≠ 0 then c x y else d x y := by
 have z : ∀ x y, D x → D y → (c x y = 0 ↔ c y x = 0) := fun x y hx hy => by
  have h1 := h.anti x y hx hy
  have h2 := h.anti y x hy hx
  omega
 refine ⟨fun x hx => by rw [if_neg (by simp [h.refl x hx])]; exact k.refl x hx, fun x y hx hy => ?_, fun x y w hx hy hw h1 h2 => ?_⟩
 ·have h1 := h.anti x y hx hy
  have h2 := k.anti x y hx hy
  have h3 := z x y hx hy
  split <;> split <;> omega
 ·by_cases e1 : c x y = 0
  ·rw [if_neg (by simp [e1])] at h1
   by_cases e2 : c y w = 0
   ·rw [if_neg (by simp [e2])] at h2
    have h3 := h.trans x y w hx hy hw (by omega) (by omega)
    have h4 := h.trans w y x hw hy hx (by rw [(z y w hy hw).1 e2]; exact Int.le_refl _) (by rw [(z x y hx hy).1 e1]; exact Int.le_refl _)
    have h5 := (h.le hw hx).1 h4
    rw [if_neg (by simp; omega)]
    exact k.trans x y w hx hy hw h1 h2
   ·rw [if_pos e2] at h2
    have h3 := h.lt' hx hy hw (by omega) (by omega)
    rw [if_pos (by omega)]; omega
  ·rw [if_pos e1] at h1
   have h4 : c y w ≤ 0 := by
    split at h2
    ·exact h2
    ·omega
   have h3 := h.lt hx hy hw (by omega) h4
   rw [if_pos (by omega)]; omega
theorem zdw.pull {D' : β → Prop} (f : β → α) (hf : ∀ x, D' x → D (f x)) (h : zdw D c) : zdw D' fun x y => c (f x) (f y) :=
 ⟨fun x hx => h.refl _ (hf x hx), fun x y hx hy => h.anti _ _ (hf x hx) (hf y hy), fun x y z hx hy hz => h.trans _ _ _ (hf x hx) (hf y hy) (hf z hz)⟩
theorem zdw.congr {c' : α → α → Int} (h : zdw D c) (e : ∀ x y, D x → D y → c' x y = c x y) : zdw D c' :=
 ⟨fun x hx => by rw [e x x hx hx]; exact h.refl x hx, fun x y hx hy => by rw [e x y hx hy, e y x hy hx]; exact h.anti x y hx hy, fun x y z hx hy hz => by rw [e x y hx hy, e y z hy hz, e x z hx hz]; exact h.trans x y z hx hy hz⟩
end
theorem ziP : zdw (fun _ : Int => True) cmpZ := by
 refine ⟨fun x _ => ?_, fun x y _ _ => ?_, fun x y z _ _ _ h1 h2 => ?_⟩
 ·unfold cmpZ; simp
 ·unfold cmpZ; split <;> split <;> (try split) <;> (try split) <;> omega
 ·unfold cmpZ at *
  split at h1 <;> split at h2 <;> split <;> (try split at h1) <;> (try split at h2) <;> (try split) <;> omega
theorem orL2 (a b : Int) : orL [a, b] = if a ≠ 0 then a else b := by
 rw [orL, orL, orL]
 by_cases h : a ≠ 0
 ·rw [if_pos h, if_pos h]
 ·rw [if_neg h, if_neg h]
  by_cases k : b ≠ 0
  ·rw [if_pos k]
  ·rw [if_neg k]; simp at k; exact k.symm
theorem orL3 (a b c : Int) : orL [a, b, c] = if a ≠ 0 then a else if b ≠ 0 then b else c := by
 rw [orL]
 by_cases h : a ≠ 0
 ·rw [if_pos h, if_pos h]
 ·rw [if_neg h, if_neg h]; exact orL2 b c
theorem zgw {α β : Type} {f : α → β} : ∀ {l : List α}, (l.map f).Nodup → ∀ a ∈ l, ∀ b ∈ l, f a = f b → a = b
 | x :: l, h, a, ha, b, hb, e => by
  rw [List.map_cons, List.nodup_cons] at h
  rcases List.mem_cons.1 ha with e1 | ha' <;> rcases List.mem_cons.1 hb with e2 | hb'
  ·rw [e1, e2]
  ·subst e1; exact absurd (e ▸ List.mem_map_of_mem hb') h.1
  ·subst e2; exact absurd (e ▸ List.mem_map_of_mem ha') h.1
  ·exact zgw h.2 a ha' b hb' e
def cmpF (a b : Int × Int) : Int := cmpZ (a.1 * b.2) (b.1 * a.2)
theorem zeU {x y : Int} : cmpZ x y ≤ 0 ↔ x ≤ y := by
 unfold cmpZ; split <;> (try split) <;> constructor <;> omega
theorem znJ : zdw (fun a : Int × Int => 0 < a.2) cmpF := by
 refine ⟨fun x _ => ziP.refl _ trivial, fun x y _ _ => ziP.anti _ _ trivial trivial, fun x y z hx hy hz h1 h2 => ?_⟩
 unfold cmpF at *
 rw [zeU] at *
 have e1 := Int.mul_le_mul_of_nonneg_right h1 (Int.le_of_lt hz)
 have e2 := Int.mul_le_mul_of_nonneg_right h2 (Int.le_of_lt hx)
 refine Int.le_of_mul_le_mul_right (a := y.2) ?_ hy
 calc x.1 * z.2 * y.2 = x.1 * y.2 * z.2 := by rw [Int.mul_right_comm]
  _ ≤ y.1 * x.2 * z.2 := e1
  _ = y.1 * z.2 * x.2 := by rw [Int.mul_right_comm]
  _ ≤ z.1 * y.2 * x.2 := e2
  _ = z.1 * x.2 * y.2 := by rw [Int.mul_right_comm]
theorem zrn : zdw Cn.ok cmpC := by
 have hP : ∀ c : Cn, c.ok → c.o = false → 0 < c.q ∧ 0 < c.s := by
  rintro c (⟨h1, _⟩ | ⟨_, h2⟩) h
  ·rw [h1] at h; cases h
  ·exact ⟨h2.1.1, h2.2.1.1⟩
 have k : zdw (fun c : Cn => c.ok ∧ c.o = false) fun a b => if cmpF (a.p, a.q) (b.p, b.q) ≠ 0 then cmpF (a.p, a.q) (b.p, b.q) else cmpF (a.r, a.s) (b.r, b.s) :=
  (znJ.pull (fun c : Cn => (c.p, c.q)) fun c h => (hP c h.1 h.2).1).or (znJ.pull (fun c : Cn => (c.r, c.s)) fun c h => (hP c h.1 h.2).2)
 have e : ∀ a b : Cn, a.o = false → b.o = false → cmpC a b = if cmpF (a.p, a.q) (b.p, b.q) ≠ 0 then cmpF (a.p, a.q) (b.p, b.q) else cmpF (a.r, a.s) (b.r, b.s) := by
  intro a b ha hb
  unfold cmpC
  rw [ha, hb]
  simp only [Bool.false_eq_true, if_false]
  exact orL2 _ _
 have t : ∀ a b : Cn, a.o = true → cmpC a b = if b.o then 0 else -1 := fun a b h => by unfold cmpC; rw [h]; rfl
 have f : ∀ a b : Cn, a.o = false → b.o = true → cmpC a b = 1 := fun a b h g => by unfold cmpC; rw [h, g]; rfl
 refine ⟨fun x hx => ?_, fun x y hx hy => ?_, fun x y z hx hy hz h1 h2 => ?_⟩
 ·cases ho : x.o with
  | true => rw [t x x ho, ho]; rfl
  | false => rw [e x x ho ho]; exact k.refl x ⟨hx, ho⟩
 ·cases ho : x.o with
  | true =>
   rw [t x y ho]
   cases hp : y.o with
   | true => rw [t y x hp, ho]; simp
   | false => rw [f y x hp ho]; simp
  | false =>
   cases hp : y.o with
   | true => rw [f x y ho hp, t y x hp, ho]; simp
   | false => rw [e x y ho hp, e y x hp ho]; exact k.anti x y ⟨hx, ho⟩ ⟨hy, hp⟩
 ·cases ho : x.o with
  | true => rw [t x z ho]; split <;> omega
  | false =>
   cases hp : y.o with
   | true => rw [f x y ho hp] at h1; omega
   | false =>
    cases hq : z.o with
    | true => rw [f y z hp hq] at h2; omega
    | false =>
     rw [e x y ho hp] at h1
     rw [e y z hp hq] at h2
     rw [e x z ho hq]
     exact k.trans x y z ⟨hx, ho⟩ ⟨hy, hp⟩ ⟨hz, hq⟩ h1 h2
theorem ziN (a b : Pc) : cmpP a b = if cmpZ a.ky b.ky ≠ 0 then cmpZ a.ky b.ky else if cmpC a.c b.c ≠ 0 then cmpC a.c b.c else cmpZ a.ix b.ix := by
 exact orL3 _ _ _
theorem zcY : zdw (fun x : Pc => x.c.ok) cmpP :=
 ((ziP.pull Pc.ky fun _ _ => trivial).or ((zrn.pull Pc.c fun _ h => h).or (ziP.pull Pc.ix fun _ _ => trivial))).congr fun x y _ _ => ziN x y
theorem zrp {a b : Pc} (h : cmpP a b = 0) : a.ix = b.ix ∧ a.ky = b.ky := by
 rw [ziN] at h
 have z : ∀ x y : Int, cmpZ x y = 0 → x = y := fun x y h => by
  unfold cmpZ at h; split at h <;> (try split at h) <;> omega
 split at h
 ·contradiction
 ·rename_i h1
  split at h
  ·contradiction
  ·exact ⟨z _ _ h, z _ _ (by simpa using h1)⟩
def leP (a b : Pc) : Bool := decide (cmpP a b ≤ 0)
def zdP (l : List Pc) : List Pc := l.mergeSort leP
theorem zca (l : List Pc) : (zdP l).Perm l := List.mergeSort_perm _ _
theorem swoP : Go.Sort.SWO (fun x y : { x : Pc // x.c.ok } => decide (cmpP x.1 y.1 < 0)) := by
 refine ⟨fun x => ?_, fun x y z h1 h2 => ?_, fun x y z h1 h2 => ?_⟩
 ·simp [zcY.refl x.1 x.2]
 ·simp only [decide_eq_true_eq] at *
  exact zcY.lt x.2 y.2 z.2 h1 (by omega)
 ·simp only [decide_eq_false_iff_not, Int.not_lt] at *
  have h3 := (zcY.le y.2 x.2).2 h1
  have h4 := (zcY.le z.2 y.2).2 h2
  exact (zcY.le z.2 x.2).1 (zcY.trans _ _ _ z.2 y.2 x.2 h4 h3)
theorem zjq {l l' : List Pc} (hc : ∀ x ∈ l, x.c.ok) (hn : (l.map Pc.ix).Nodup) (hp : l'.Perm l) (hs : l'.Pairwise fun a b => cmpP a b ≤ 0) : l' = zdP l := by
 have inj := zgw hn
 have hm : (zdP l).Pairwise fun a b => cmpP a b ≤ 0 := by
  have key : ∀ (m : List { x : Pc // x.c.ok }), ((m.map (·.1)).mergeSort leP).Pairwise fun a b => cmpP a b ≤ 0 := by
   intro m
   have h1 := List.pairwise_mergeSort (le := fun x y : { x : Pc // x.c.ok } => leP x.1 y.1) (fun a b c h1 h2 => by
    simp only [leP, decide_eq_true_eq] at *
    exact zcY.trans _ _ _ a.2 b.2 c.2 h1 h2) (fun a b => by
    simp only [leP, Bool.or_eq_true, decide_eq_true_eq]
    have := zcY.le b.2 a.2
    omega) m
   have h2 : (m.map (·.1)).mergeSort leP = (m.mergeSort fun x y => leP x.1 y.1).map (·.1) := (List.map_mergeSort (f := fun x : { x : Pc // x.c.ok } => x.1) (fun a _ b _ => rfl)).symm
   rw [h2]
   refine List.pairwise_map.2 (h1.imp fun {a b} h => ?_)
   simpa [leP] using h
  have := key (l.attach.map fun x => ⟨x.1, hc x.1 x.2⟩)
  unfold zdP
  simpa [List.map_map, Function.comp_def] using this
 refine List.Perm.eq_of_pairwise (le := fun a b => cmpP a b ≤ 0) (fun a b ha hb h1 h2 => ?_) hs hm (hp.trans (zca l).symm)
 have ha' : a ∈ l := hp.mem_iff.1 ha
 have hb' : b ∈ l := (zca l).mem_iff.1 hb
 have h3 := (zcY.le (hc b hb') (hc a ha')).1 h2
 exact inj a ha' b hb' (zrp (by omega)).1
theorem PcOk.perm {l l' : List Pc} (h : PcOk l) (hp : l'.Perm l) : PcOk l' :=
 ⟨fun x hx => h.c x (hp.mem_iff.1 hx), fun x hx => h.ix x (hp.mem_iff.1 hx), (hp.map _).nodup_iff.2 h.nd⟩
end Go.Proofs.YtibedaeefnjjlaaGreat
namespace Go.Proofs.YtibedaeefnjjlaaGreat
open Go.RowKit Go.Ab Go.Wd
structure Rw where
 b : Bool
 n : Nat
def Rw.vs (x : Rw) : List Value := wdVs x.b x.n
def Rw.z (x : Rw) : Int := zb x.b x.n
def Rw.lim (x : Rw) : Prop := x.n < B64 ^ 4
def Rw.ok (x : Rw) : Prop := vW x.b x.n = true
instance (x : Rw) : Decidable x.ok := inferInstanceAs (Decidable (_ = _))
def Rw.of (z : Int) : Rw := ⟨decide (z < 0), z.natAbs⟩
structure Rp where
 ix : Int
 ct : Int
 ky : Int
 o : Bool
 a : Rw
 b : Rw
 c : Rw
 d : Rw
def Rp.cVs (x : Rp) : List Value := .bool x.o :: ((x.a.vs ++ x.b.vs) ++ (x.c.vs ++ x.d.vs))
def Rp.cA (x : Rp) : AV := .ag (vsA x.cVs)
def rpVs (x : Rp) : List Value := .int .i64 x.ix :: .int .i64 x.ct :: .int .i64 x.ky :: x.cVs
def rps (l : List Rp) : List (List RV) := l.map fun x => (rpVs x).map RV.v
def Rp.lim (x : Rp) : Prop := x.a.lim ∧ x.b.lim ∧ x.c.lim ∧ x.d.lim
def Rp.pc (x : Rp) : Pc := ⟨x.ix, x.ct, x.ky, ⟨x.o, x.a.z, x.b.z, x.c.z, x.d.z⟩⟩
def Rp.nul (x : Rp) : Prop := (x.a.b = false ∧ x.a.n = 0) ∧ (x.b.b = false ∧ x.b.n = 0) ∧ (x.c.b = false ∧ x.c.n = 0) ∧ (x.d.b = false ∧ x.d.n = 0)
instance (x : Rp) : Decidable x.nul := inferInstanceAs (Decidable (_ ∧ _))
instance (p q r s : Int) : Decidable (VC p q r s) := inferInstanceAs (Decidable (VR p q ∧ VR r s ∧ _))
def Rp.cv (x : Rp) : Prop := if x.o = true then x.nul else x.a.ok ∧ x.b.ok ∧ x.c.ok ∧ x.d.ok ∧ VC x.a.z x.b.z x.c.z x.d.z
instance (x : Rp) : Decidable x.cv := by unfold Rp.cv; exact inferInstance
def Pc.rp (x : Pc) : Rp := ⟨x.ix, x.ct, x.ky, x.c.o, .of x.c.p, .of x.c.q, .of x.c.r, .of x.c.s⟩
theorem zqX (l : List Pc) : pcs l = rps (l.map Pc.rp) := by unfold pcs rps; rw [List.map_map]; rfl
theorem Rw.ok_vs {x : Rw} (h : x.ok) : x.vs = wzVs x.z := by
 obtain ⟨b, n⟩ := x
 unfold Rw.ok vW at h
 unfold Rw.vs Rw.z wzVs
 dsimp only at *
 cases b
 ·rw [zb_f, decide_eq_false (by omega), Int.natAbs_natCast]
 ·simp at h
  rw [zb_t, decide_eq_true (by omega), Int.natAbs_neg, Int.natAbs_natCast]
theorem Rw.z_abs (x : Rw) : x.z.natAbs = x.n := by
 obtain ⟨b, n⟩ := x
 cases b
 ·exact Int.natAbs_natCast n
 ·show (-(n : Int)).natAbs = n
  rw [Int.natAbs_neg, Int.natAbs_natCast]
theorem Rw.no {x : Rw} (h : ¬ x.ok) : x = ⟨true, 0⟩ := by
 obtain ⟨b, n⟩ := x
 unfold Rw.ok vW at h
 cases b
 ·exact absurd rfl h
 ·simp at h; rw [h]
theorem Rp.cv_vs {x : Rp} (h : x.cv) : x.cVs = cnVs x.o x.a.z x.b.z x.c.z x.d.z ∧ x.pc.c.ok := by
 obtain ⟨ix, ct, ky, o, a, b, c, d⟩ := x
 unfold Rp.cv at h
 unfold Rp.cVs cnVs rtVs
 dsimp only at *
 split at h
 ·rename_i ho
  obtain ⟨⟨h1, h2⟩, ⟨h3, h4⟩, ⟨h5, h6⟩, ⟨h7, h8⟩⟩ := h
  obtain ⟨a1, a2⟩ := a; obtain ⟨b1, b2⟩ := b; obtain ⟨c1, c2⟩ := c; obtain ⟨d1, d2⟩ := d
  dsimp only at *
  subst h1 h2 h3 h4 h5 h6 h7 h8 ho
  exact ⟨rfl, .inl ⟨rfl, rfl, rfl, rfl, rfl⟩⟩
 ·rename_i ho
  obtain ⟨h1, h2, h3, h4, h5⟩ := h
  rw [Rw.ok_vs (x := a) h1, Rw.ok_vs (x := b) h2, Rw.ok_vs (x := c) h3, Rw.ok_vs (x := d) h4]
  exact ⟨rfl, .inr ⟨Bool.eq_false_iff.2 ho, h5⟩⟩
theorem Rp.cv_pc {x : Rp} (h : x.cv) : rpVs x = pcVs x.pc ∧ x.pc.c.ok := ⟨by unfold rpVs pcVs; rw [(Rp.cv_vs h).1]; rfl, (Rp.cv_vs h).2⟩
def Good (l : List Rp) : Prop := (∀ x ∈ l, x.cv ∧ 0 ≤ x.ix) ∧ (l.map Rp.ix).Nodup
theorem Good.vs {l : List Rp} (h : Good l) : rps l = pcs (l.map Rp.pc) := by
 unfold rps pcs
 rw [List.map_map]
 refine List.map_congr_left fun x hx => ?_
 show (rpVs x).map RV.v = (pcVs x.pc).map RV.v
 rw [(Rp.cv_pc (h.1 x hx).1).1]
theorem Good.pc {l : List Rp} (h : Good l) : PcOk (l.map Rp.pc) := by
 refine ⟨fun y hy => ?_, fun y hy => ?_, ?_⟩
 ·obtain ⟨x, hx, rfl⟩ := List.mem_map.1 hy; exact (Rp.cv_pc (h.1 x hx).1).2
 ·obtain ⟨x, hx, rfl⟩ := List.mem_map.1 hy; exact (h.1 x hx).2
 ·rw [List.map_map]; exact h.2
theorem zhG (l : List Rp) : (rps l).length = l.length := by simp [rps]
theorem zln {l : List Rp} {i : Nat} {x : Rp} (h : l[i]? = some x) : (rps l)[i]? = some ((rpVs x).map RV.v) := by simp [rps, h]
theorem zjT {l : List Rp} {i : Nat} {x : Rp} (hx : l[i]? = some x) (h : Good (l.take i)) : Good (l.take (i + 1)) ∨ ¬ x.cv ∨ (x.cv ∧ x.ix < 0) ∨ (x.cv ∧ 0 ≤ x.ix ∧ x.ix ∈ (l.take i).map Rp.ix) := by
 by_cases h1 : x.cv
 ·rcases Int.lt_or_le x.ix 0 with h2 | h2
  ·exact .inr (.inr (.inl ⟨h1, h2⟩))
  ·by_cases h3 : x.ix ∈ (l.take i).map Rp.ix
   ·exact .inr (.inr (.inr ⟨h1, h2, h3⟩))
   ·refine .inl ⟨fun y hy => ?_, ?_⟩
    ·rw [List.take_add_one, hx, List.mem_append] at hy
     rcases hy with hy | hy
     ·exact h.1 y hy
     ·simp at hy; subst hy; exact ⟨h1, h2⟩
    ·rw [List.take_add_one, hx, List.map_append, List.nodup_append]
     refine ⟨h.2, by simp, fun u hu v hv => ?_⟩
     simp at hv
     subst hv
     exact fun e => h3 (e ▸ hu)
 ·exact .inr (.inl h1)
theorem zlI : Good [] := ⟨fun _ h => (nomatch h), List.Pairwise.nil⟩
theorem zqJ {d : Nat} {b b' : Bool} {m n : Nat} (hm : m < B64 ^ 4) (hn : n < B64 ^ 4) : EqR Tryz.prog (d + 3) 36 (.agg (wdVs b m).toArray) (.agg (wdVs b' n).toArray) (decide (b = b' ∧ m = n)) := by
 have h := zlG (d := d) (s := b) (s' := b') (a := ((m % B64 : Nat) : Int)) (b := ((m / B64 % B64 : Nat) : Int)) (c := ((m / B64 / B64 % B64 : Nat) : Int)) (e := ((m / B64 / B64 / B64 % B64 : Nat) : Int)) (a' := ((n % B64 : Nat) : Int)) (b' := ((n / B64 % B64 : Nat) : Int)) (c' := ((n / B64 / B64 % B64 : Nat) : Int)) (e' := ((n / B64 / B64 / B64 % B64 : Nat) : Int))
 have e : ((b == b') && (((((m % B64 : Nat) : Int) == ((n % B64 : Nat) : Int)) && ((((m / B64 % B64 : Nat) : Int) == ((n / B64 % B64 : Nat) : Int)) && ((((m / B64 / B64 % B64 : Nat) : Int) == ((n / B64 / B64 % B64 : Nat) : Int)) && ((((m / B64 / B64 / B64 % B64 : Nat) : Int) == ((n / B64 / B64 / B64 % B64 : Nat) : Int)) && true)))) && true)) = decide (b = b' ∧ m = n) := by
  by_cases hxy : b = b' ∧ m = n
  ·obtain ⟨h1, h2⟩ := hxy; subst h1 h2; simp
  ·rw [decide_eq_false hxy, Bool.eq_false_iff]
   intro hall
   simp only [Bool.and_eq_true, beq_iff_eq, Bool.and_true] at hall
   obtain ⟨k0, k1, k2, k3, k4⟩ := hall
   exact hxy ⟨k0, zmy hm hn (by omega) (by omega) (by omega) (by omega)⟩
 rw [e] at h
 exact h
theorem B64p : (0 : Nat) < B64 ^ 4 := by rw [zfg]; decide
theorem znX {d : Nat} {x y : Rw} (hx : x.lim) (hy : y.lim) : EqR Tryz.prog (d + 4) 38 (.agg (x.vs ++ y.vs).toArray) (.agg (rtVs 0 0).toArray) (decide ((x.b = false ∧ x.n = 0) ∧ (y.b = false ∧ y.n = 0))) := by
 have hu : Tryz.prog.underlying 36 = some (.struct (Tryz.prog.fieldsOf 36)) := by kernel_rfl
 have h : EqR Tryz.prog (d + 3 + 1) 38 (.agg (x.vs ++ y.vs).toArray) (.agg (rtVs 0 0).toArray) (decide (x.b = false ∧ x.n = 0) && (decide (y.b = false ∧ y.n = 0) && true)) := by
  refine zcE (l := [(36, 0), (36, 5)]) (fun _ o => if o = 0 then decide (x.b = false ∧ x.n = 0) else decide (y.b = false ∧ y.n = 0)) (by kernel_rfl) (by kernel_rfl) (by kernel_rfl) (by kernel_rfl) fun w k hk => ?_
  simp only [List.mem_cons, List.not_mem_nil, or_false] at hk
  rcases hk with rfl | rfl
  ·exact ⟨_, _, zaA (n := 5) hu rfl (by kernel_rfl) w, zaA (n := 5) hu rfl (by kernel_rfl) w, zqJ hx B64p⟩
  ·exact ⟨_, _, zaA (n := 5) hu rfl (by kernel_rfl) w, zaA (n := 5) hu rfl (by kernel_rfl) w, zqJ hy B64p⟩
 rwa [show (decide (x.b = false ∧ x.n = 0) && (decide (y.b = false ∧ y.n = 0) && true)) = decide ((x.b = false ∧ x.n = 0) ∧ (y.b = false ∧ y.n = 0)) by simp [Bool.decide_and]] at h
theorem zrx {d : Nat} {x : Rp} (hx : x.lim) (ho : x.o = true) : EqR Tryz.prog (d + 5) 40 (.agg x.cVs.toArray) (.agg (cnVs true 0 0 0 0).toArray) (decide x.nul) := by
 obtain ⟨h1, h2, h3, h4⟩ := hx
 have hb : Tryz.prog.underlying 4 = some .bool := by kernel_rfl
 have hu : Tryz.prog.underlying 38 = some (.struct (Tryz.prog.fieldsOf 38)) := by kernel_rfl
 have h : EqR Tryz.prog (d + 4 + 1) 40 (.agg x.cVs.toArray) (.agg (cnVs true 0 0 0 0).toArray) ((x.o == true) && (decide ((x.a.b = false ∧ x.a.n = 0) ∧ (x.b.b = false ∧ x.b.n = 0)) && (decide ((x.c.b = false ∧ x.c.n = 0) ∧ (x.d.b = false ∧ x.d.n = 0)) && true))) := by
  refine zcE (l := [(4, 0), (38, 1), (38, 11)]) (fun _ i => if i = 0 then (x.o == true) else if i = 1 then decide ((x.a.b = false ∧ x.a.n = 0) ∧ (x.b.b = false ∧ x.b.n = 0)) else decide ((x.c.b = false ∧ x.c.n = 0) ∧ (x.d.b = false ∧ x.d.n = 0))) (by kernel_rfl) (by kernel_rfl) (by kernel_rfl) (by kernel_rfl) fun w k hk => ?_
  simp only [List.mem_cons, List.not_mem_nil, or_false] at hk
  rcases hk with rfl | rfl | rfl
  ·exact ⟨.bool x.o, .bool true, zay hb rfl rfl w, zay hb rfl rfl w, ziS hb⟩
  ·exact ⟨_, _, zaA (n := 10) hu rfl (by kernel_rfl) w, zaA (n := 10) hu rfl (by kernel_rfl) w, znX h1 h2⟩
  ·exact ⟨_, _, zaA (n := 10) hu rfl (by kernel_rfl) w, zaA (n := 10) hu rfl (by kernel_rfl) w, znX h3 h4⟩
 have e : ((x.o == true) && (decide ((x.a.b = false ∧ x.a.n = 0) ∧ (x.b.b = false ∧ x.b.n = 0)) && (decide ((x.c.b = false ∧ x.c.n = 0) ∧ (x.d.b = false ∧ x.d.n = 0)) && true))) = decide x.nul := by
  rw [Bool.eq_iff_iff]
  simp only [Bool.and_eq_true, decide_eq_true_eq, beq_iff_eq]
  unfold Rp.nul
  exact ⟨fun h => ⟨h.2.1.1, h.2.1.2, h.2.2.1.1, h.2.2.1.2⟩, fun h => ⟨ho, ⟨h.1, h.2.1⟩, ⟨h.2.2.1, h.2.2.2⟩, trivial⟩⟩
 rwa [e] at h
section
variable {env : Nat → AV} {H : Nat → Option Blk} {d : Option Tmp} {ty : TypeId} {pos : String} {af : Array Edge} {g : Option (Nat × Bool)} {u : TypeId} {x y : Operand}
theorem zov {k : Rp} {b : Bool} (hl : k.lim) (ho : k.o = true) (hb : decide k.nul = b) (hx : evA env x = k.cA) (hy : evA env y = cn true 0 0 0 0) : zax Tryz.prog ⟨d, .binOp .eql 40 x y u, ty, pos, af, g⟩ env H [] (.r (.v (.bool b))) :=
 hb ▸ zou (vs := k.cVs) (us := cnVs true 0 0 0 0) (by kernel_rfl) (zrx (d := 9995) hl ho) hx hy
end
end Go.Proofs.YtibedaeefnjjlaaGreat
namespace Go.Proofs.YtibedaeefnjjlaaGreat
open Go.RowKit Go.Ab Go.Deep Go.ChangeShapes Go.Wd
def r00 : Rp := ⟨0, 0, 0, false, ⟨false, 0⟩, ⟨false, 0⟩, ⟨false, 0⟩, ⟨false, 0⟩⟩
instance : Inhabited Rp := ⟨r00⟩
def zkJ (l : List Rp) : List Value := l.flatMap rpVs
def IsPcs (w : World) (a : Option Addr) (len cap : Nat) (zs : List Rp) : Prop :=
 (a = none ∧ len = 0 ∧ cap = 0 ∧ zs = []) ∨
 ∃ x, a = some x ∧ len ≤ cap ∧ cap ≤ maxLen ∧ zs.length = cap ∧ (∀ i, i < cap → ∀ f v, (rpVs (zs.getD i r00))[f]? = some v → w.cell? (x.add (i * 24 + f)) = some v) ∧ ∀ z ∈ zs, z.lim
theorem znw : Tryz.prog.cellsOf 42 = 24 := by kernel_rfl
theorem znv : Tryz.prog.cellsOf 40 = 21 := by kernel_rfl
theorem znx : Tryz.prog.cellsOf 38 = 10 := by kernel_rfl
theorem zny : Tryz.prog.cellsOf 36 = 5 := by kernel_rfl
theorem zrk : Tryz.prog.cellsOf 34 = 4 := by kernel_rfl
theorem zsS : Tryz.prog.cellsOf 33 = 1 := by kernel_rfl
theorem zrj : Tryz.prog.cellsOf 3 = 1 := by kernel_rfl
theorem zsR : Tryz.prog.cellsOf 2 = 1 := by kernel_rfl
theorem zqF : Tryz.prog.cellsOf 4 = 1 := by kernel_rfl
theorem zmp {a : Int} (h : (Lit.int .u64 a).wf = true) : 0 ≤ a ∧ a < 18446744073709551616 := by
 have h' : IntKind.u64.min ≤ a ∧ a ≤ IntKind.u64.max := by simpa [Lit.wf] using h
 rw [show IntKind.u64.min = 0 from rfl, show IntKind.u64.max = 18446744073709551615 from rfl] at h'
 omega
section
variable {H : Type} {enc : TypeId × Value → H} {w : World} {fuel : Nat} {held : Bool} {cs : List Value} {x : DataW H × List MemPlace}
theorem zjZ (h : DataW.trod enc Tryz.prog w 0 (fun _ => true) held fuel 36 cs = some x) : ∃ r : Rw, r.lim ∧ cs = r.vs := by
 obtain ⟨xs, n, _, _, hl, hxl, hf⟩ := DataW.trod_struct Tryz.underlying36 h
 rw [zny] at hl
 match xs, hxl, cs, hl with
 | [y0, y1], _, [v0, v1, v2, v3, v4], _ =>
  have f0 := hf 0 _ rfl
  have f1 := hf 1 _ rfl
  simp [zqF, zrk] at f0 f1
  obtain ⟨b, e0, _⟩ := DataW.trod_bool Tryz.underlying4 f0
  obtain ⟨zs, m, _, _, _, hzl, hg⟩ := DataW.trod_array Tryz.underlying34 f1
  match zs, hzl with
  | [z0, z1, z2, z3], _ =>
   have g0 := hg 0 (by omega)
   have g1 := hg 1 (by omega)
   have g2 := hg 2 (by omega)
   have g3 := hg 3 (by omega)
   simp [zsS] at g0 g1 g2 g3
   obtain ⟨a0, e1, _, w0⟩ := DataW.trod_int Tryz.underlying33 g0
   obtain ⟨a1, e2, _, w1⟩ := DataW.trod_int Tryz.underlying33 g1
   obtain ⟨a2, e3, _, w2⟩ := DataW.trod_int Tryz.underlying33 g2
   obtain ⟨a3, e4, _, w3⟩ := DataW.trod_int Tryz.underlying33 g3
   simp at e0 e1 e2 e3 e4
   subst e0 e1 e2 e3 e4
   have k0 := zmp w0
   have k1 := zmp w1
   have k2 := zmp w2
   have k3 := zmp w3
   obtain ⟨c0, rfl⟩ : ∃ c : Nat, a0 = c := ⟨a0.toNat, by omega⟩
   obtain ⟨c1, rfl⟩ : ∃ c : Nat, a1 = c := ⟨a1.toNat, by omega⟩
   obtain ⟨c2, rfl⟩ : ∃ c : Nat, a2 = c := ⟨a2.toNat, by omega⟩
   obtain ⟨c3, rfl⟩ : ∃ c : Nat, a3 = c := ⟨a3.toNat, by omega⟩
   have q0 : (c0 + 18446744073709551616 * (c1 + 18446744073709551616 * (c2 + 18446744073709551616 * c3))) % 18446744073709551616 = c0 := by omega
   have r0 : (c0 + 18446744073709551616 * (c1 + 18446744073709551616 * (c2 + 18446744073709551616 * c3))) / 18446744073709551616 = c1 + 18446744073709551616 * (c2 + 18446744073709551616 * c3) := by omega
   have q1 : (c1 + 18446744073709551616 * (c2 + 18446744073709551616 * c3)) % 18446744073709551616 = c1 := by omega
   have r1 : (c1 + 18446744073709551616 * (c2 + 18446744073709551616 * c3)) / 18446744073709551616 = c2 + 18446744073709551616 * c3 := by omega
   have q2 : (c2 + 18446744073709551616 * c3) % 18446744073709551616 = c2 := by omega
   have r2 : (c2 + 18446744073709551616 * c3) / 18446744073709551616 = c3 := by omega
   have q3 : c3 % 18446744073709551616 = c3 := by omega
   refine ⟨⟨b, c0 + B64 * (c1 + B64 * (c2 + B64 * c3))⟩, ?_, ?_⟩
   ·unfold Rw.lim
    rw [zfg]
    dsimp only
    unfold B64
    omega
   ·unfold Rw.vs wdVs
    dsimp only
    unfold B64
    rw [q0, r0, q1, r1, q2, r2, q3]
theorem zih (h : DataW.trod enc Tryz.prog w 0 (fun _ => true) held fuel 38 cs = some x) : ∃ a b : Rw, a.lim ∧ b.lim ∧ cs = a.vs ++ b.vs := by
 obtain ⟨xs, n, _, _, hl, hxl, hf⟩ := DataW.trod_struct Tryz.underlying38 h
 rw [znx] at hl
 match xs, hxl with
 | [y0, y1], _ =>
  have f0 : DataW.trod enc Tryz.prog w 0 (fun _ => true) held n 36 ((cs.drop 0).take (Tryz.prog.cellsOf 36)) = some y0 := hf 0 _ rfl
  have f1 : DataW.trod enc Tryz.prog w 0 (fun _ => true) held n 36 ((cs.drop 5).take (Tryz.prog.cellsOf 36)) = some y1 := hf 1 _ rfl
  rw [zny] at f0 f1
  rw [List.drop_zero] at f0
  obtain ⟨a, h1, e1⟩ := zjZ f0
  obtain ⟨b, h2, e2⟩ := zjZ f1
  refine ⟨a, b, h1, h2, ?_⟩
  rw [List.take_of_length_le (by rw [List.length_drop]; omega)] at e2
  rw [← e1, ← e2, List.take_append_drop]
theorem zos (h : DataW.trod enc Tryz.prog w 0 (fun _ => true) held fuel 40 cs = some x) : ∃ (o : Bool) (a b c d : Rw), (a.lim ∧ b.lim ∧ c.lim ∧ d.lim) ∧ cs = .bool o :: ((a.vs ++ b.vs) ++ (c.vs ++ d.vs)) := by
 obtain ⟨xs, n, _, _, hl, hxl, hf⟩ := DataW.trod_struct Tryz.underlying40 h
 rw [znv] at hl
 match xs, hxl, cs, hl with
 | [y0, y1, y2], _, v0 :: cs, hl =>
  have hl : cs.length = 20 := by simpa using hl
  have f0 : DataW.trod enc Tryz.prog w 0 (fun _ => true) held n 4 (((v0 :: cs).drop 0).take (Tryz.prog.cellsOf 4)) = some y0 := hf 0 _ rfl
  have f1 : DataW.trod enc Tryz.prog w 0 (fun _ => true) held n 38 (((v0 :: cs).drop 1).take (Tryz.prog.cellsOf 38)) = some y1 := hf 1 _ rfl
  have f2 : DataW.trod enc Tryz.prog w 0 (fun _ => true) held n 38 (((v0 :: cs).drop 11).take (Tryz.prog.cellsOf 38)) = some y2 := hf 2 _ rfl
  rw [zqF] at f0
  rw [znx] at f1 f2
  simp only [List.drop_zero, List.drop_succ_cons, List.take_succ_cons, List.take_zero] at f0 f1 f2
  obtain ⟨o, e0, _⟩ := DataW.trod_bool Tryz.underlying4 f0
  obtain ⟨a, b, h1, h2, e1⟩ := zih f1
  obtain ⟨c, d, h3, h4, e2⟩ := zih f2
  simp at e0
  refine ⟨o, a, b, c, d, ⟨h1, h2, h3, h4⟩, ?_⟩
  rw [List.take_of_length_le (by rw [List.length_drop]; omega)] at e2
  rw [e0, ← e1, ← e2, List.take_append_drop]
theorem zmM (h : DataW.trod enc Tryz.prog w 0 (fun _ => true) held fuel 42 cs = some x) : ∃ r : Rp, r.lim ∧ cs = rpVs r := by
 obtain ⟨xs, n, _, _, hl, hxl, hf⟩ := DataW.trod_struct Tryz.underlying42 h
 rw [znw] at hl
 match xs, hxl, cs, hl with
 | [y0, y1, y2, y3], _, v0 :: v1 :: v2 :: cs, hl =>
  have hl : cs.length = 21 := by simpa using hl
  have f0 : DataW.trod enc Tryz.prog w 0 (fun _ => true) held n 3 (((v0 :: v1 :: v2 :: cs).drop 0).take (Tryz.prog.cellsOf 3)) = some y0 := hf 0 _ rfl
  have f1 : DataW.trod enc Tryz.prog w 0 (fun _ => true) held n 3 (((v0 :: v1 :: v2 :: cs).drop 1).take (Tryz.prog.cellsOf 3)) = some y1 := hf 1 _ rfl
  have f2 : DataW.trod enc Tryz.prog w 0 (fun _ => true) held n 2 (((v0 :: v1 :: v2 :: cs).drop 2).take (Tryz.prog.cellsOf 2)) = some y2 := hf 2 _ rfl
  have f3 : DataW.trod enc Tryz.prog w 0 (fun _ => true) held n 40 (((v0 :: v1 :: v2 :: cs).drop 3).take (Tryz.prog.cellsOf 40)) = some y3 := hf 3 _ rfl
  rw [zrj] at f0 f1
  rw [zsR] at f2
  rw [znv] at f3
  simp only [List.drop_zero, List.drop_succ_cons, List.take_succ_cons, List.take_zero] at f0 f1 f2 f3
  obtain ⟨a0, e0, _, _⟩ := DataW.trod_int Tryz.underlying3 f0
  obtain ⟨a1, e1, _, _⟩ := DataW.trod_int Tryz.underlying3 f1
  obtain ⟨a2, e2, _, _⟩ := DataW.trod_int Tryz.underlying2 f2
  obtain ⟨o, a, b, c, d, h1, e3⟩ := zos f3
  simp at e0 e1 e2
  rw [List.take_of_length_le (by omega)] at e3
  refine ⟨⟨a0, a1, a2, o, a, b, c, d⟩, h1, ?_⟩
  rw [e0, e1, e2, e3]
  rfl
end
theorem open_pcs {H : Type} {enc : TypeId × Value → H} {w : World} {fuel : Nat} {held : Bool} {a : Option Addr} {len cap : Nat} {x : DataW H × List MemPlace} (h : DataW.trod enc Tryz.prog w 0 (fun _ => true) held fuel 22 [.slice a len cap] = some x) :
  ∃ zs, IsPcs w a len cap zs ∧ (cap = 0 ∨ ∃ el sp, x.1 = .slice el sp ∧ el.length = len ∧ sp.length = cap - len) := by
 rcases open_slice Tryz.underlying22 h with ⟨hcs, _⟩ | ⟨ad, n, c, m, fu, D, Pl, hcs, _, hl, hm, hmm, hx, hc⟩
 ·simp at hcs
  obtain ⟨rfl, rfl, rfl⟩ := hcs
  exact ⟨[], .inl ⟨rfl, rfl, rfl, rfl⟩, .inl rfl⟩
 ·simp at hcs
  obtain ⟨rfl, rfl, rfl⟩ := hcs
  have hmc : m = cap := by simpa using hmm
  subst hmc
  have each : ∀ i, i < m → ∃ z : Rp, z.lim ∧ ∀ f v, (rpVs z)[f]? = some v → w.cell? (ad.add (i * 24 + f)) = some v := fun i hi => by
   obtain ⟨cs', g1, g2⟩ := hc i hi
   rw [znw] at g1
   obtain ⟨_, hlen, hcell⟩ := World.cells?_some g1
   obtain ⟨z, h1, h2⟩ := zmM g2
   subst h2
   refine ⟨z, h1, fun f v hv => ?_⟩
   have hf : f < 24 := by have := (List.getElem?_eq_some_iff.1 hv).1; rwa [hlen] at this
   have := hcell f (by simpa using hf)
   rw [Go.Deep.add_add] at this
   rw [this]
   exact hv
  obtain ⟨q, hq⟩ := choose_lt each
  have hg : ∀ i, i < m → ((List.range m).map q).getD i r00 = q i := fun i hi => by simp [hi]
  refine ⟨(List.range m).map q, .inr ⟨ad, rfl, hl, hm, by simp, fun i hi => ?_, fun s hs => ?_⟩, .inr ⟨_, _, congrArg Prod.fst hx, by simp, by simp⟩⟩
  ·rw [hg i hi]; exact (hq i hi).2
  ·simp only [List.mem_map, List.mem_range] at hs
   obtain ⟨i, hi, rfl⟩ := hs
   exact (hq i hi).1
theorem zji (x : Rp) : (rpVs x).length = 24 := rfl
theorem znZ (l : List Rp) (j : Nat) (u : Value) (h : (zkJ l)[j]? = some u) : ∃ i f, i < l.length ∧ j = i * 24 + f ∧ (rpVs (l.getD i r00))[f]? = some u := by
 induction l generalizing j with
 | nil => simp [zkJ] at h
 | cons s l ih =>
  rw [zkJ, List.flatMap_cons, ← zkJ] at h
  rcases Nat.lt_or_ge j 24 with hj | hj
  ·rw [List.getElem?_append_left (by rw [zji]; exact hj)] at h
   exact ⟨0, j, by simp, by omega, by simpa using h⟩
  ·rw [List.getElem?_append_right (by rw [zji]; exact hj), zji] at h
   obtain ⟨i, f, hi, hd, hf⟩ := ih (j - 24) h
   exact ⟨i + 1, f, by simpa using hi, by omega, by simpa using hf⟩
theorem zqi (l : List Rp) : (rps l).flatten = (zkJ l).map RV.v := by
 induction l with
 | nil => rfl
 | cons a l ih =>
  rw [show rps (a :: l) = (rpVs a).map RV.v :: rps l from rfl, List.flatten_cons, ih]
  unfold zkJ
  rw [List.flatMap_cons, List.map_append]
theorem zqh (x : Rp) : (rpVs x).all (·.oneCell') = true := rfl
theorem zn0 (l : List Rp) : ∀ u ∈ zkJ l, u.oneCell' = true := by
 intro u hu
 obtain ⟨s, _, hs⟩ := List.mem_flatMap.1 hu
 exact List.all_eq_true.1 (zqh s) u hs
theorem zts (l : List Rp) : ∀ e ∈ rps l, e.length = 24 := by
 intro e he
 unfold rps at he
 rw [List.mem_map] at he
 obtain ⟨s, _, rfl⟩ := he
 rfl
theorem IsPcs.take {w : World} {a : Option Addr} {len cap : Nat} {zs : List Rp} (h : IsPcs w a len cap zs) : len ≤ cap ∧ cap ≤ maxLen ∧ (zs.take len).length = len ∧ ∀ z ∈ zs.take len, z.lim := by
 rcases h with ⟨rfl, rfl, rfl, rfl⟩ | ⟨x, rfl, h1, h2, h3, h4, h5⟩
 ·exact ⟨Nat.le_refl _, Nat.zero_le _, rfl, fun s hs => by simp at hs⟩
 ·exact ⟨h1, h2, by rw [List.length_take]; omega, fun s hs => h5 s (List.mem_of_mem_take hs)⟩
theorem zkE {B : Nat → Prop} {w : World} {es : List (List RV)} {ad : Addr} {vs : List Value} (he : es.flatten = vs.map RV.v) (h1 : ∀ u ∈ vs, u.oneCell' = true) (h : ∀ j u, vs[j]? = some u → w.cell? (ad.add j) = some u) : RV.rows B w es ad 0 := by
 rw [RV.rows_flat, RV.row_iff]
 intro k c hk
 rw [he, List.getElem?_map, Option.map_eq_some_iff] at hk
 obtain ⟨u, hu, rfl⟩ := hk
 exact ⟨u, by rw [Nat.zero_add]; exact h k u hu, h1 u (List.mem_of_getElem? hu), by rw [RV.rep]⟩
theorem zsW {B : Nat → Prop} {w : World} {a : Option Addr} {len cap : Nat} {zs : List Rp} (h : IsPcs w a len cap zs) (hB : ∀ q, q < w.heap.size → ¬ B q) : RV.rep B w (.sl 24 (rps (zs.take len))) (.slice a len cap) := by
 obtain ⟨g1, g2, g3, g4⟩ := h.take
 rw [RV.rep, zhG, g3]
 refine ⟨a, cap, rfl, g1, g2, zts _, fun hne => ?_⟩
 have hpos : 0 < len := by
  rcases Nat.eq_zero_or_pos len with h0 | h0
  ·exact absurd (List.eq_nil_of_length_eq_zero (by rw [zhG]; omega)) hne
  ·exact h0
 rcases h with ⟨rfl, rfl, rfl, rfl⟩ | ⟨x, rfl, h1, h2, h3, h4, h5⟩
 ·omega
 ·have hlt : x.block < w.heap.size := by
   have := block_lt_of_cell (h4 0 (by omega) 0 _ rfl)
   rwa [zbY] at this
  refine ⟨x, rfl, hlt, hB _ hlt, zkE (zqi _) (zn0 _) fun j u hj => ?_⟩
  obtain ⟨i, f, hi, rfl, hf⟩ := znZ _ j u hj
  have e : (zs.take len).getD i r00 = zs.getD i r00 := by simp [List.getElem?_take, show i < len by omega]
  rw [e] at hf
  exact h4 i (by omega) f u hf
end Go.Proofs.YtibedaeefnjjlaaGreat
namespace Go.Proofs.YtibedaeefnjjlaaGreat
open Go.RowKit Go.Ab Go.Wd
theorem Rw.w4 {x : Rw} (h : x.lim) : W4 x.z := by unfold W4; rw [x.z_abs]; exact h
theorem zms (x y : Rw) (hx : x.lim) (hy : y.lim) : zan Tryz.prog 94 [.ag (vsA (x.vs ++ y.vs))] [] (.r (.v (.bool (decide (x.ok ∧ y.ok ∧ VR x.z y.z))))) [] := by
 by_cases h1 : x.ok
 ·by_cases h2 : y.ok
  ·have e : decide (x.ok ∧ y.ok ∧ VR x.z y.z) = decide (VR x.z y.z) := by simp [h1, h2]
   rw [e, Rw.ok_vs h1, Rw.ok_vs h2]
   exact zfe x.z y.z (Rw.w4 hx) (Rw.w4 hy)
  ·rw [decide_eq_false (fun h => h2 h.2.1)]
   have e2 := Rw.no h2
   subst e2
   obtain ⟨b, n⟩ := x
   have v1 := zf3 b n hx
   have h1' : vW b n = true := h1
   rw [h1'] at v1
   have v2 : zan Tryz.prog 125 [wd true 0] [] (.r (.v (.bool false))) [] := zf3 true 0 B64p
   clear h1 h2 hx hy
   show zan Tryz.prog 94 [.ag (vsA (wdVs b n ++ wdVs true 0))] [] _ []
   unfold wd at *
   refine zap Tryz.func94 rfl (Nat.le_of_ble_eq_true rfl) rfl rfl ?_
   (repeat' (first | refine zai ?_ | (refine is_f 125 ?_; refine zah (v1) ?_) | (refine is_f 125 ?_; refine zah (v2) ?_) | (refine zac (fun hb => ?_) (fun hb => ?_) <;> (try (exfalso; omega))) | fail))
   all_goals (first | (exfalso; omega) | exact ret1 [] (.bool rfl) rfl rfl rfl)
 ·rw [decide_eq_false (fun h => h1 h.1)]
  have e1 := Rw.no h1
  subst e1
  obtain ⟨b, n⟩ := y
  have v1 : zan Tryz.prog 125 [wd true 0] [] (.r (.v (.bool false))) [] := zf3 true 0 B64p
  clear h1 hx hy
  show zan Tryz.prog 94 [.ag (vsA (wdVs true 0 ++ wdVs b n))] [] _ []
  unfold wd at *
  refine zap Tryz.func94 rfl (Nat.le_of_ble_eq_true rfl) rfl rfl ?_
  (repeat' (first | refine zai ?_ | (refine is_f 125 ?_; refine zah (v1) ?_) | (refine zac (fun hb => ?_) (fun hb => ?_) <;> (try (exfalso; omega))) | fail))
  all_goals (first | (exfalso; omega) | exact ret1 [] (.bool rfl) rfl rfl rfl)
theorem zjL (x : Rp) (hx : x.lim) : zan Tryz.prog 64 [x.cA] [] (.r (.v (.bool (decide x.cv)))) [] := by
 obtain ⟨ix, ct, ky, o, a, b, c, d⟩ := x
 cases o
 ·have v1 := zms a b hx.1 hx.2.1
  have v2 := zms c d hx.2.2.1 hx.2.2.2
  by_cases h1 : a.ok ∧ b.ok ∧ VR a.z b.z
  ·by_cases h2 : c.ok ∧ d.ok ∧ VR c.z d.z
   ·have e : decide (Rp.cv ⟨ix, ct, ky, false, a, b, c, d⟩) = decide (cmpZ (a.z * d.z) (c.z * b.z) ≤ 0) := by
     rw [Bool.eq_iff_iff, decide_eq_true_eq, decide_eq_true_eq, zeU]
     unfold Rp.cv VC
     simp [h1, h2]
    have cC := zgv a.z b.z c.z d.z h1.2.2 h2.2.2
    rw [e]
    rw [decide_eq_true h1] at v1
    rw [decide_eq_true h2] at v2
    show zan Tryz.prog 64 [.ag (vsA (.bool false :: ((a.vs ++ b.vs) ++ (c.vs ++ d.vs))))] [] _ []
    rw [Rw.ok_vs h1.1, Rw.ok_vs h1.2.1] at v1 ⊢
    rw [Rw.ok_vs h2.1, Rw.ok_vs h2.2.1] at v2 ⊢
    generalize cmpZ (a.z * d.z) (c.z * b.z) = k at *
    generalize a.z = p at *
    generalize b.z = q at *
    generalize c.z = r at *
    generalize d.z = s at *
    clear e h1 h2 hx
    change zan Tryz.prog 94 [rt p q] [] _ [] at v1
    change zan Tryz.prog 94 [rt r s] [] _ [] at v2
    show zan Tryz.prog 64 [cn false p q r s] [] _ []
    refine zap Tryz.func64 rfl (Nat.le_of_ble_eq_true rfl) rfl rfl ?_
    (repeat' (first | refine zai ?_ | (refine is_f 94 ?_; refine zah (v1) ?_) | (refine is_f 94 ?_; refine zah (v2) ?_) | (refine is_f 95 ?_; refine zah (cC) ?_) | (refine zac (fun hb => ?_) (fun hb => ?_) <;> (try (exfalso; omega))) | fail))
    all_goals (first | (exfalso; omega) | exact ret1 [] (.bool rfl) rfl rfl rfl | exact ret1 [] (.bool (decide_eq_true hb).symm) rfl rfl rfl | exact ret1 [] (.bool (decide_eq_false hb).symm) rfl rfl rfl)
   ·rw [decide_eq_false (show ¬ Rp.cv ⟨ix, ct, ky, false, a, b, c, d⟩ from fun h => h2 (by unfold Rp.cv VC at h; exact ⟨h.2.2.1, h.2.2.2.1, h.2.2.2.2.2.1⟩))]
    rw [decide_eq_true h1] at v1
    rw [decide_eq_false h2] at v2
    clear h1 h2 hx
    obtain ⟨a1, a2⟩ := a; obtain ⟨b1, b2⟩ := b; obtain ⟨c1, c2⟩ := c; obtain ⟨d1, d2⟩ := d
    refine zap Tryz.func64 rfl (Nat.le_of_ble_eq_true rfl) rfl rfl ?_
    (repeat' (first | refine zai ?_ | (refine is_f 94 ?_; refine zah (v1) ?_) | (refine is_f 94 ?_; refine zah (v2) ?_) | (refine zac (fun hb => ?_) (fun hb => ?_) <;> (try (exfalso; omega))) | fail))
    all_goals (first | (exfalso; omega) | exact ret1 [] (.bool rfl) rfl rfl rfl)
  ·rw [decide_eq_false (show ¬ Rp.cv ⟨ix, ct, ky, false, a, b, c, d⟩ from fun h => h1 (by unfold Rp.cv VC at h; exact ⟨h.1, h.2.1, h.2.2.2.2.1⟩))]
   rw [decide_eq_false h1] at v1
   clear h1 hx v2
   obtain ⟨a1, a2⟩ := a; obtain ⟨b1, b2⟩ := b; obtain ⟨c1, c2⟩ := c; obtain ⟨d1, d2⟩ := d
   refine zap Tryz.func64 rfl (Nat.le_of_ble_eq_true rfl) rfl rfl ?_
   (repeat' (first | refine zai ?_ | (refine is_f 94 ?_; refine zah (v1) ?_) | (refine zac (fun hb => ?_) (fun hb => ?_) <;> (try (exfalso; omega))) | fail))
   all_goals (first | (exfalso; omega) | exact ret1 [] (.bool rfl) rfl rfl rfl)
 ·have e : decide (Rp.cv ⟨ix, ct, ky, true, a, b, c, d⟩) = decide (Rp.nul ⟨ix, ct, ky, true, a, b, c, d⟩) := by unfold Rp.cv; simp
  rw [e]
  obtain ⟨bb, hbb⟩ : ∃ bb, decide (Rp.nul ⟨ix, ct, ky, true, a, b, c, d⟩) = bb := ⟨_, rfl⟩
  rw [hbb]
  clear e
  obtain ⟨a1, a2⟩ := a; obtain ⟨b1, b2⟩ := b; obtain ⟨c1, c2⟩ := c; obtain ⟨d1, d2⟩ := d
  have ho : (Rp.mk ix ct ky true ⟨a1, a2⟩ ⟨b1, b2⟩ ⟨c1, c2⟩ ⟨d1, d2⟩).o = true := rfl
  refine zap Tryz.func64 rfl (Nat.le_of_ble_eq_true rfl) rfl rfl ?_
  (repeat' (first | (refine zbP ?_; refine zbl ?_; refine zag rfl zab (zov hx ho hbb rfl rfl) ?_) | refine zai ?_ | (refine is_f 93 ?_; refine zah (zg2) ?_) | (refine zac (fun hb => ?_) (fun hb => ?_) <;> (try (exfalso; omega))) | fail))
  all_goals exact ret1 [] (.bool rfl) rfl rfl rfl
end Go.Proofs.YtibedaeefnjjlaaGreat
