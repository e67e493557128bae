/- Texts of the second layer in one: Jn1 Sm1. -/
import Derived.Test.YtibedaeefnjjlaaGreatG30
import Derived.Test.YtibedaeefnjjlaaGreatG7
set_option maxHeartbeats 8000000
set_option maxRecDepth 100000
set_option linter.unusedVariables false
set_option linter.unusedSimpArgs false
namespace Go.Proofs.YtibedaeefnjjlaaGreat
open Go.RowKit Go.Ab Go.Wd
structure Gr where
 ky : Int
 ss : List Int
 c : Cn
 deriving Inhabited
def grR (g : Gr) (v : Value) : List RV := .v (.int .i64 g.ky) :: ((rtVs 0 0).map RV.v ++ .v v :: (cnVs g.c.o g.c.p g.c.q g.c.r g.c.s).map RV.v)
def jnTo (g : Gr) (x : Pc) : Option Gr := match zco g.c x.c with | some c => if g.ky = x.ky then some ⟨g.ky, g.ss ++ [x.ix], c⟩ else none | none => none
def newG (x : Pc) : Gr := ⟨x.ky, [x.ix], x.c⟩
def jn (gs : List Gr) (x : Pc) : List Gr := match gs.getLast? with | some g => (match jnTo g x with | some g' => gs.dropLast ++ [g'] | none => gs ++ [newG x]) | none => gs ++ [newG x]
def jnR (ps : List (Gr × Value)) : List (List RV) := ps.map fun p => grR p.1 p.2
def jnF (ps : List (Gr × Value)) : Fam := ps.map fun p => (p.2, .row 3 1 (nums .i64 p.1.ss))
def jS1 (s : List Pc) (y : Nat × List (Gr × Value)) : St := ⟨[(4, .ow 0), (16, .r (.sl 24 (pcs s))), (17, .r (.v (.int .i64 (s.length : Int)))), (18, .r (.v (.int .i64 (y.1 : Int))))], [(0, some (.row 87 33 (jnR y.2)))], 1⟩
theorem zs4 (g : Gr) (v : Value) : (grR g v).map AV.r = gwC g.ky (.r (.v v)) g.c := by
 simp [grR, gwC, vsA, Function.comp_def]
theorem zkF {H : Nat → Option Blk} {ρ : Nat → Nat} {G : List Nat} {g : Gr} {v : Value} : CfL H ρ G (gwC g.ky (.r (.v v)) g.c) ((grR g v).map AV.r) := by
 rw [zs4]; exact znz
theorem zgJ (q : Nat) (v : Value) : ∀ (vs : List Value) (cs : List AV), AV.lits q v (vsA vs ++ cs) = vsA vs ++ AV.lits q v cs
 | [], cs => rfl
 | u :: vs, cs => by
  show AV.lits q v (.r (.v u) :: (vsA vs ++ cs)) = _
  rw [AV.lits, zgJ q v vs cs]; rfl
theorem zhg (q : Nat) (v : Value) (vs : List Value) : AV.lits q v (vsA vs) = vsA vs := by
 have := zgJ q v vs []
 rw [List.append_nil] at this
 rw [this, AV.lits, List.append_nil]
theorem zkT (q : Nat) (v : Value) (ky : Int) (c : Cn) : AV.lits q v (gwC ky (.ow q) c) = gwC ky (.r (.v v)) c := by
 unfold gwC
 rw [AV.lits, zgJ, AV.lits, zhg]
 simp [AV.lit]
theorem zjV {g : Gr} {x : Pc} (h : jnTo g x = none) : ∀ c', zco g.c x.c = some c' → g.ky ≠ x.ky := by
 intro c' hc hk
 unfold jnTo at h
 rw [hc] at h
 simp [hk] at h
theorem zhf {g g' : Gr} {x : Pc} (h : jnTo g x = some g') : ∃ c, zco g.c x.c = some c ∧ g.ky = x.ky ∧ g' = ⟨g.ky, g.ss ++ [x.ix], c⟩ := by
 unfold jnTo at h
 split at h
 ·rename_i c hc
  split at h
  ·rename_i hk; injection h with h; exact ⟨c, hc, hk, h.symm⟩
  ·cases h
 ·cases h
theorem zoa (x : Pc) : jn [] x = [newG x] := rfl
theorem zgd (gs : List Gr) (g : Gr) (x : Pc) : jn (gs ++ [g]) x = match jnTo g x with | some g' => gs ++ [g'] | none => gs ++ [g] ++ [newG x] := by
 unfold jn
 rw [List.getLast?_append]
 simp only [List.getLast?_singleton, Option.some_or, List.dropLast_concat]
theorem zjW : ∀ (s : List Pc) (_ : ∀ x ∈ s, x.c.ok) (gs : List Gr) (m : Nat), (∀ g ∈ gs, g.c.ok ∧ g.ss.length ≤ m) → ∀ g ∈ s.foldl jn gs, g.c.ok ∧ g.ss.length ≤ m + s.length
 | [], _, gs, m, h => h
 | x :: s, hs, gs, m, h => by
  have hx := hs x (List.mem_cons_self ..)
  intro g hg
  have := zjW s (fun y hy => hs y (List.mem_cons_of_mem _ hy)) (jn gs x) (m + 1) (by
   rcases List.eq_nil_or_concat gs with rfl | ⟨gs', g', rfl⟩
   ·rw [zoa]; intro g hg; rw [List.mem_singleton] at hg; subst hg; exact ⟨hx, by simp [newG]⟩
   ·rw [List.concat_eq_append] at *
    rw [zgd]
    intro q hq
    have h1 : ∀ q ∈ gs' ++ [g'], q.c.ok ∧ q.ss.length ≤ m + 1 := fun q hq => ⟨(h q hq).1, by have := (h q hq).2; omega⟩
    split at hq
    ·rename_i g2 hg2
     obtain ⟨c, hc, hk, rfl⟩ := zhf hg2
     rcases List.mem_append.1 hq with hq | hq
     ·exact h1 q (List.mem_append_left _ hq)
     ·rw [List.mem_singleton] at hq; subst hq
      have h2 := h g' (by simp)
      exact ⟨zgK h2.1 hx hc, by simp; exact h2.2⟩
    ·rcases List.mem_append.1 hq with hq | hq
     ·exact h1 q hq
     ·rw [List.mem_singleton] at hq; subst hq; exact ⟨hx, by simp [newG]⟩) g hg
  rw [List.length_cons]
  exact ⟨this.1, by have := this.2; omega⟩
theorem zic : ∀ (s : List Pc) (gs : List Gr), (s.foldl jn gs).length ≤ gs.length + s.length
 | [], gs => Nat.le_refl _
 | x :: s, gs => by
  have h1 : (jn gs x).length ≤ gs.length + 1 := by
   rcases List.eq_nil_or_concat gs with rfl | ⟨gs', g', rfl⟩
   ·simp [zoa]
   ·rw [List.concat_eq_append, zgd]; split <;> simp
  have := zic s (jn gs x)
  rw [List.foldl_cons, List.length_cons]; omega
def chC (c : Cn) : Int × Int := if c.o then (0, 1) else btw c.p c.q c.r c.s
theorem znD {c : Cn} (h : c.ok) : zan Tryz.prog 39 [c.A] [] (rt (chC c).1 (chC c).2) [] := by
 obtain ⟨o, p, q, r, s⟩ := c
 unfold Cn.A chC
 rcases h with ⟨h1, h2, h3, h4, h5⟩ | ⟨h1, h2⟩ <;> dsimp only at * <;> subst h1
 ·subst h2 h3 h4 h5; exact ziR
 ·exact zjI p q r s h2
def gwS (ky : Int) (p q : Int) (s : AV) (c : Cn) : List AV := .r (.v (.int .i64 ky)) :: (vsA (rtVs p q) ++ s :: vsA (cnVs c.o c.p c.q c.r c.s))
theorem zrl {H : Nat → Option Blk} {ρ : Nat → Nat} {G : List Nat} {ky p q : Int} {i j : Nat} {c : Cn} (e : ρ i = j) : CfL H ρ G (gwS ky p q (.ow j) c) (gwS ky p q (.ow i) c) := by
 subst e
 exact .cons _ _ _ _ (.r _) (zdW _ (.cons _ _ _ _ (.ow _) (zaL _)))
theorem zpF {H : Nat → Option Blk} {ρ : Nat → Nat} {G : List Nat} {ky p q : Int} {v : Value} {c : Cn} : CfL H ρ G (gwS ky p q (.r (.v v)) c) (gwS ky p q (.r (.v v)) c) :=
 .cons _ _ _ _ (.r _) (zdW _ (.cons _ _ _ _ (.r _) (zaL _)))
theorem zpW (n : Nat) (v : Value) (ky p q : Int) (c : Cn) : AV.lits n v (gwS ky p q (.ow n) c) = gwS ky p q (.r (.v v)) c := by
 unfold gwS
 rw [AV.lits, zgJ, AV.lits, zhg]
 simp [AV.lit]
def oR (g : Gr) (v : Value) : List RV := .v (.int .i64 g.ky) :: ((rtVs (chC g.c).1 (chC g.c).2).map RV.v ++ [.v v])
def oRs (ds : List (Gr × Value)) : List (List RV) := ds.map fun p => oR p.1 p.2
def oF (ds : List (Gr × Value)) : Fam := ds.map fun p => (p.2, .row 3 1 (nums .i64 (zcJ p.1.ss)))
def zRv : List RV := .v (.int .i64 0) :: ([.bool false, .int .u64 0, .int .u64 0, .int .u64 0, .int .u64 0, .bool false, .int .u64 0, .int .u64 0, .int .u64 0, .int .u64 0, .slice none 0 0] : List Value).map RV.v
def grO (g : Gr) : List RV := .v (.int .i64 g.ky) :: ((rtVs (chC g.c).1 (chC g.c).2).map RV.v ++ [.sl 1 (nums .i64 (zcJ g.ss))])
theorem fz_o : ∀ (ds : List (Gr × Value)) (F : Fam), (∀ p ∈ ds, (p.2, Blk.row 3 1 (nums .i64 (zcJ p.1.ss))) ∈ F) → FzL F (oRs ds).flatten (ds.map fun p => grO p.1).flatten
 | [], F, _ => .nil
 | (g, v) :: ds, F, h => by
  show FzL F (oR g v ++ (oRs ds).flatten) (grO g ++ (ds.map fun p => grO p.1).flatten)
  refine .append ?_ (fz_o ds F fun p hp => h p (List.mem_cons_of_mem _ hp))
  exact .same _ _ _ (.append (FzL.refl _ _) (.sl v _ 1 (nums .i64 (zcJ g.ss)) [] [] (h (g, v) (List.mem_cons_self ..)) .nil))
def jS2 (ps : List (Gr × Value)) (y : Nat × List (Gr × Value)) : St := ⟨[(50, .ow 0), (51, .r (.v (.int .i64 (ps.length : Int)))), (52, .r (.v (.int .i64 (y.1 : Int)))), (8, .ow 1)], [(0, some (.row 87 33 (jnR ps))), (1, some (.row 51 12 (oRs y.2 ++ List.replicate (ps.length - y.1) zRv)))], 2⟩
theorem zqM (l : List Pc) (hl : l.length ≤ 1000000) (h : PcOk l) : zan Tryz.prog 15 [.r (.sl 24 (pcs l))] [] (.tu [.fr 51 12 (((zdP l).foldl jn []).map grO), .r (.v (.int .i64 0))]) [] := by
 have c1 := zsB l hl h
 have c2 := zqB l
 have c3 := zkr l hl h
 have hps : PcOk (zdP l) := h.perm (zca l)
 have hsl : (pcs (zdP l)).length = (zdP l).length := zcZ _
 have hll : (zdP l).length = l.length := (zca l).length_eq
 generalize zdP l = s at *
 refine zap Tryz.func15 rfl (Nat.le_of_ble_eq_true rfl) rfl rfl ?_
 refine zrf ?_
 have h00 : ([] : List (List RV)) = jnR [] := rfl
 unfold itA cpF at *
 refine zbe (T := ⟨[(0, .r (.sl 24 (pcs l)))], [], 0⟩) rfl (by
  (repeat' (first | refine zai ?_ | (refine zac (fun hb => ?_) (fun hb => ?_) <;> (try (exfalso; omega))) | fail))
  exact ⟨rfl, by (refine LeX.mk [] [] zaj zaC zav)⟩) ?_
 refine zbe (T := ⟨[(0, .r (.sl 24 (pcs l)))], [], 0⟩) rfl (by
  (repeat' (first | refine zai ?_ | (refine is_f 33 ?_; refine zah (c1) ?_) | (refine zac (fun hb => ?_) (fun hb => ?_) <;> (try (exfalso; omega))) | fail))
  exact ⟨rfl, by (refine LeX.mk [] [] zaj zaC zav)⟩) ?_
 refine zbe (T := ⟨[(0, .r (.sl 24 (pcs l))), (4, .r (.v (.slice none 0 0)))], [], 0⟩) rfl (by
  (repeat' (first | refine zai ?_ | (refine zac (fun hb => ?_) (fun hb => ?_) <;> (try (exfalso; omega))) | fail))
  exact ⟨rfl, by (refine LeX.mk [] [] zaj zaC zav)⟩) ?_
 refine zcL (zbe (T := jS1 s (0, [])) rfl (by
  refine zh4 4 87 33 rfl rfl ?_
  change awp _ _ _ _ _ ⟨[(4, .ow 0), (0, .r (.sl 24 (pcs l))), (4, .r (.v (.slice none 0 0)))], [(0, some (.row 87 33 []))], 1⟩
  (repeat' (first | refine zai ?_ | (refine is_f 35 ?_; refine zah (c2) ?_) | (refine is_f 34 ?_; refine zah (c3) ?_) | (refine zac (fun hb => ?_) (fun hb => ?_) <;> (try (exfalso; omega))) | fail))
  refine ⟨rfl, ?_⟩
  unfold jS1
  dsimp only
  exact by (refine LeX.mk [] [1] zaj zaC zav)) ?_)
 refine zeQ (zjz (jS1 s) (fun y => jnF y.2) (fun y => y.1 ≤ s.length ∧ y.2.map (·.1) = (s.take y.1).foldl jn []) (fun y => s.length - y.1) (0, []) ⟨Nat.zero_le _, rfl⟩ (fun C a w hl hs => hs) ?_)
 rintro ⟨k, ps⟩ ⟨hk, hfold⟩
 dsimp only at hk hfold ⊢
 unfold jS1
 dsimp only
 have hjl : (jnR ps).length = ps.length := by simp [jnR]
 by_cases hlt : k < s.length
 ·obtain ⟨x, hx⟩ : ∃ x, s[k]? = some x := ⟨_, List.getElem?_eq_getElem hlt⟩
  have hgx := zeh hx
  have hstep : (s.take (k + 1)).foldl jn [] = jn ((s.take k).foldl jn []) x := by
   rw [List.take_add_one, hx, List.foldl_append]; rfl
  refine zbe (T := ⟨[(4, .ow 0), (16, .r (.sl 24 (pcs s))), (17, .r (.v (.int .i64 (s.length : Int)))), (18, .r (.v (.int .i64 (k : Int)))), (19, .r (.v (.bool true)))], [(0, some (.row 87 33 (jnR ps)))], 1⟩) rfl (by
   (repeat' (first | refine zai ?_ | (refine zac (fun hb => ?_) (fun hb => ?_) <;> (try (exfalso; omega))) | fail))
   all_goals exact ⟨rfl, by (refine LeX.mk [] [] zaj zaC zav)⟩) ?_
  refine zcL (zdc (b := true) rfl (fun _ => zfH ?_) (fun h => nomatch h))
  show awpX _ _ _ _ _ _
  refine zcL (zeQ ?_)
  refine zbe (T := ⟨[(4, .ow 0), (16, .r (.sl 24 (pcs s))), (17, .r (.v (.int .i64 (s.length : Int)))), (18, .r (.v (.int .i64 (k : Int)))), (6, .pt 1 0)], [(0, some (.row 87 33 (jnR ps))), (1, some (.var 42 (vsA (pcVs x))))], 2⟩) rfl (by
   (repeat' (first | refine zai ?_ | (refine zac (fun hb => ?_) (fun hb => ?_) <;> (try (exfalso; omega))) | fail))
   all_goals exact ⟨rfl, by (refine LeX.mk [] [] zaj zaC zav)⟩) ?_
  refine znm (fun ps2 : List (Gr × Value) => ps2.map (·.1) = ps.map (·.1) ∧ jn (ps.map (·.1)) x = ps.map (·.1) ++ [newG x]) (fun ps2 => ⟨[(4, .ow 0), (16, .r (.sl 24 (pcs s))), (17, .r (.v (.int .i64 (s.length : Int)))), (18, .r (.v (.int .i64 (k : Int)))), (6, .pt 1 0)], [(0, some (.row 87 33 (jnR ps2))), (1, some (.var 42 (vsA (pcVs x))))], 2⟩) jnF ?_ ?_
  ·refine zbe (T := ⟨[(4, .ow 0), (16, .r (.sl 24 (pcs s))), (17, .r (.v (.int .i64 (s.length : Int)))), (18, .r (.v (.int .i64 (k : Int)))), (6, .pt 1 0), (7, .r (.v (.int .i64 (ps.length : Int))))], [(0, some (.row 87 33 (jnR ps))), (1, some (.var 42 (vsA (pcVs x))))], 2⟩) rfl (by
    (repeat' (first | refine zai ?_ | (refine zac (fun hb => ?_) (fun hb => ?_) <;> (try (exfalso; omega))) | fail))
    all_goals exact ⟨rfl, by (refine LeX.mk [] [] zaj zaC zav)⟩) ?_
   rcases List.eq_nil_or_concat ps with rfl | ⟨ps', ⟨g, v⟩, rfl⟩
   ·have hz : ¬ (0 : Int) < ((([] : List (Gr × Value)).length : Nat) : Int) := by simp
    refine zbe (T := ⟨[(4, .ow 0), (16, .r (.sl 24 (pcs s))), (17, .r (.v (.int .i64 (s.length : Int)))), (18, .r (.v (.int .i64 (k : Int)))), (6, .pt 1 0), (33, .r (.v (.bool false)))], [(0, some (.row 87 33 (jnR []))), (1, some (.var 42 (vsA (pcVs x))))], 2⟩) rfl (by
     (repeat' (first | refine zai ?_ | (refine zac (fun hb => ?_) (fun hb => ?_) <;> (try (exfalso; omega))) | fail))
     all_goals exact ⟨rfl, by (refine LeX.mk [] [] zaj zaC zav)⟩) ?_
    exact zdc (b := false) rfl (fun h => nomatch h) (fun _ => zdT (S' := ⟨[(4, .ow 0), (16, .r (.sl 24 (pcs s))), (17, .r (.v (.int .i64 (s.length : Int)))), (18, .r (.v (.int .i64 (k : Int)))), (6, .pt 1 0)], [(0, some (.row 87 33 (jnR []))), (1, some (.var 42 (vsA (pcVs x))))], 2⟩) (by (refine LeX.mk [] [] zaj zaC zav)) (zfH ⟨[], ⟨rfl, rfl⟩, rfl, rfl⟩))
   ·rw [List.concat_eq_append] at *
    have hR : jnR (ps' ++ [(g, v)]) = jnR ps' ++ [grR g v] := by simp [jnR]
    have hF : jnF (ps' ++ [(g, v)]) = jnF ps' ++ (v, .row 3 1 (nums .i64 g.ss)) :: [] := by simp [jnF]
    have hjl' : (jnR ps').length = ps'.length := by simp [jnR]
    have hL2 : (ps' ++ [(g, v)]).length = ps'.length + 1 := by simp
    have hgi : g.c.ok ∧ g.ss.length ≤ 0 + (s.take k).length := zjW (s.take k) (fun y hy => hps.c y (List.mem_of_mem_take hy)) [] 0 (fun _ h => nomatch h) g (by rw [← hfold]; simp)
    have hgl : g.ss.length ≤ 1000000 := by have := hgi.2; rw [List.length_take] at this; omega
    rw [hR, hF, hL2]
    refine znl (i := 0) (es := jnR ps') (e := grR g v) rfl ?_
    refine zjA (n := 2) (F2 := []) (E := [(4, .ow 0), (16, .r (.sl 24 (pcs s))), (17, .r (.v (.int .i64 (s.length : Int)))), (18, .r (.v (.int .i64 (k : Int)))), (6, .pt 1 0), (7, .r (.v (.int .i64 ((ps'.length + 1 : Nat) : Int))))]) (H := [(0, some (.rowo 87 33 (jnR ps') (gwC g.ky (.ow 2) g.c))), (0, some (.row 87 33 (jnR ps' ++ [grR g v]))), (1, some (.var 42 (vsA (pcVs x))))]) rfl ?_
    have hpl : ps'.length + 1 ≤ 1000000 := by
     have h1 := zic (s.take k) []
     rw [← hfold, List.length_map, hL2, List.length_nil, List.length_take] at h1
     omega
    have hwn : IntKind.i64.wrap (((ps'.length + 1 : Nat) : Int) - 1) = ((ps'.length : Nat) : Int) := by
     rw [show ((ps'.length + 1 : Nat) : Int) - 1 = ((ps'.length : Nat) : Int) by omega]
     rw [IntKind.wrap_i64]; omega
    have hjc : ((ps'.length : Nat) : Int) = ((jnR ps').length : Int) := by rw [hjl']
    have hxc := hps.c x (List.mem_of_getElem? hx)
    refine zdT (S' := ⟨[(4, .ow 0), (16, .r (.sl 24 (pcs s))), (17, .r (.v (.int .i64 (s.length : Int)))), (18, .r (.v (.int .i64 (k : Int)))), (6, .pt 1 0), (7, .r (.v (.int .i64 ((ps'.length + 1 : Nat) : Int))))], [(0, some (.rowo 87 33 (jnR ps') (gwC g.ky (.ow 2) g.c))), (1, some (.var 42 (vsA (pcVs x)))), (2, some (.row 3 1 (nums .i64 g.ss)))], 3⟩) (by
     refine LeX.mk [] [] rfl (by (repeat' (first | exact zaX | refine zbQ ?_ | refine le_r ?_ rfl rfl | refine za9 ?_ (by omega) rfl | refine zbR ?_ rfl rfl | refine zbS ?_ rfl rfl | refine zbH ?_ rfl zaN rfl rfl | refine zbX ?_ rfl rfl | refine zbW ?_ rfl rfl | refine zbZ ?_ ?_ rfl | refine zb0 ?_ ?_ rfl | refine za4 ?_ rfl | refine zbt ?_ rfl | refine zbi ?_ rfl | exact CfL.nil))) ?_
     exact ⟨⟨_, rfl, .rowo _ _ _ _ _ (zg1 rfl)⟩, ⟨_, rfl, .var _ _ _ (zaL _)⟩, ⟨_, rfl, .row _ _ _⟩, trivial⟩) ?_
    cases hj : jnTo g x with
    | none =>
     have hj' := zjV hj
     refine zbe (T := ⟨[(4, .ow 0), (16, .r (.sl 24 (pcs s))), (17, .r (.v (.int .i64 (s.length : Int)))), (18, .r (.v (.int .i64 (k : Int)))), (6, .pt 1 0), (33, .r (.v (.bool false)))], [(0, some (.rowo 87 33 (jnR ps') (gwC g.ky (.ow 2) g.c))), (1, some (.var 42 (vsA (pcVs x)))), (2, some (.row 3 1 (nums .i64 g.ss)))], 3⟩) rfl (by
      (repeat' (first | refine zai ?_ | (refine zac (fun hb => ?_) (fun hb => ?_) <;> (try (exfalso; omega))) | fail))
      refine zsI hgi.1 hxc hj' rfl rfl rfl rfl rfl (by first | exact .inl ⟨rfl, rfl⟩ | exact zb7 rfl rfl rfl rfl) ?_
      (repeat' (first | refine zai ?_ | (refine zac (fun hb => ?_) (fun hb => ?_) <;> (try (exfalso; omega))) | fail))
      refine ⟨rfl, LeX.mk [] [] rfl (by (repeat' (first | exact zaX | refine zbQ ?_ | refine le_r ?_ rfl rfl | refine za9 ?_ (by omega) rfl | refine zbR ?_ rfl rfl | refine zbS ?_ rfl rfl | refine zbH ?_ rfl zaN rfl rfl | refine zbX ?_ rfl rfl | refine zbW ?_ rfl rfl | refine zbZ ?_ ?_ rfl | refine zb0 ?_ ?_ rfl | refine za4 ?_ rfl | refine zbt ?_ rfl | refine zbi ?_ rfl | exact CfL.nil))) ?_⟩
      exact ⟨⟨_, rfl, .rowo _ _ _ _ _ (zg1 rfl)⟩, ⟨_, rfl, .var _ _ _ (zaL _)⟩, ⟨_, rfl, .row _ _ _⟩, trivial⟩) ?_
     refine zdc (b := false) rfl (fun h => nomatch h) (fun _ => ?_)
     refine zgF (q := 2) (b := .row 3 1 (nums .i64 g.ss)) (F1 := jnF ps') (F2 := []) rfl rfl fun v' => ?_
     refine zdT (S' := ⟨[(4, .ow 0), (16, .r (.sl 24 (pcs s))), (17, .r (.v (.int .i64 (s.length : Int)))), (18, .r (.v (.int .i64 (k : Int)))), (6, .pt 1 0)], [(0, some (.row 87 33 (jnR (ps' ++ [(g, v')])))), (1, some (.var 42 (vsA (pcVs x))))], 2⟩) (by
      refine LeX.mk [] [] rfl (by (repeat' (first | exact zaX | refine zbQ ?_ | refine le_r ?_ rfl rfl | refine za9 ?_ (by omega) rfl | refine zbR ?_ rfl rfl | refine zbS ?_ rfl rfl | refine zbH ?_ rfl zaN rfl rfl | refine zbX ?_ rfl rfl | refine zbW ?_ rfl rfl | refine zbZ ?_ ?_ rfl | refine zb0 ?_ ?_ rfl | refine za4 ?_ rfl | refine zbt ?_ rfl | refine zbi ?_ rfl | exact CfL.nil))) ?_
      exact zfl (es := jnR ps') (zc4 zbq (zaL _) (by rw [← zhg 2 v' (pcVs x)]; rfl)) (zkF (g := g) (v := v')) (by simp [jnR]) (by rw [← zkT 2 v' g.ky g.c]; rfl)) ?_
     exact zfH ⟨ps' ++ [(g, v')], ⟨by simp, by
      rw [List.map_append]
      show jn (_ ++ [g]) x = _ ++ [g] ++ _
      rw [zgd, hj]⟩, rfl, by simp [jnF]⟩
    | some g' =>
     obtain ⟨c', hc', hk', rfl⟩ := zhf hj
     refine zbe (T := ⟨[(4, .ow 0), (16, .r (.sl 24 (pcs s))), (17, .r (.v (.int .i64 (s.length : Int)))), (18, .r (.v (.int .i64 (k : Int)))), (6, .pt 1 0), (33, .r (.v (.bool true)))], [(0, some (.rowo 87 33 (jnR ps') (gwC g.ky (.ow 3) c'))), (1, some (.var 42 (vsA (pcVs x)))), (3, some (.row 3 1 (nums .i64 (g.ss ++ [x.ix]))))], 4⟩) rfl (by
      (repeat' (first | refine zai ?_ | (refine zac (fun hb => ?_) (fun hb => ?_) <;> (try (exfalso; omega))) | fail))
      refine zsJ hgl hgi.1 hxc hc' hk' rfl rfl rfl rfl rfl (by first | exact .inl ⟨rfl, rfl⟩ | exact zb7 rfl rfl rfl rfl) ?_
      (repeat' (first | refine zai ?_ | (refine zac (fun hb => ?_) (fun hb => ?_) <;> (try (exfalso; omega))) | fail))
      refine ⟨rfl, LeX.mk [] [] rfl (by (repeat' (first | exact zaX | refine zbQ ?_ | refine le_r ?_ rfl rfl | refine za9 ?_ (by omega) rfl | refine zbR ?_ rfl rfl | refine zbS ?_ rfl rfl | refine zbH ?_ rfl zaN rfl rfl | refine zbX ?_ rfl rfl | refine zbW ?_ rfl rfl | refine zbZ ?_ ?_ rfl | refine zb0 ?_ ?_ rfl | refine za4 ?_ rfl | refine zbt ?_ rfl | refine zbi ?_ rfl | exact CfL.nil))) ?_⟩
      exact ⟨⟨_, rfl, .rowo _ _ _ _ _ (zg1 rfl)⟩, ⟨_, rfl, .var _ _ _ (zaL _)⟩, ⟨_, rfl, .row _ _ _⟩, trivial⟩) ?_
     refine zdc (b := true) rfl (fun _ => ?_) (fun h => nomatch h)
     refine zgF (q := 3) (b := .row 3 1 (nums .i64 (g.ss ++ [x.ix]))) (F1 := jnF ps') (F2 := []) rfl rfl fun v' => ?_
     refine zdT (S' := ⟨[(4, .ow 0), (16, .r (.sl 24 (pcs s))), (17, .r (.v (.int .i64 (s.length : Int)))), (18, .r (.v (.int .i64 (k : Int))))], [(0, some (.row 87 33 (jnR (ps' ++ [(⟨g.ky, g.ss ++ [x.ix], c'⟩, v')]))))], 1⟩) (by
      refine LeX.mk [] [] rfl (by (repeat' (first | exact zaX | refine zbQ ?_ | refine le_r ?_ rfl rfl | refine za9 ?_ (by omega) rfl | refine zbR ?_ rfl rfl | refine zbS ?_ rfl rfl | refine zbH ?_ rfl zaN rfl rfl | refine zbX ?_ rfl rfl | refine zbW ?_ rfl rfl | refine zbZ ?_ ?_ rfl | refine zb0 ?_ ?_ rfl | refine za4 ?_ rfl | refine zbt ?_ rfl | refine zbi ?_ rfl | exact CfL.nil))) ?_
      exact zfl (es := jnR ps') zbq (zkF (g := ⟨g.ky, g.ss ++ [x.ix], c'⟩) (v := v')) (by simp [jnR]) (by rw [← zkT 3 v' g.ky c']; rfl)) ?_
     refine zgX ?_
     show awpX _ _ _ _ _ _
     refine zgY rfl ?_
     (repeat' (first | refine zai ?_ | (refine zac (fun hb => ?_) (fun hb => ?_) <;> (try (exfalso; omega))) | fail))
     intro C a w hl hs
     refine ⟨(k + 1, ps' ++ [(⟨g.ky, g.ss ++ [x.ix], c'⟩, v')]), ⟨hlt, ?_⟩, (by show s.length - (k + 1) < s.length - k; omega), ?_⟩
     ·show List.map _ (ps' ++ [(⟨g.ky, g.ss ++ [x.ix], c'⟩, v')]) = _
      rw [hstep, ← hfold, List.map_append, List.map_append]
      show _ = jn (_ ++ [g]) x
      rw [zgd, hj]; rfl
     ·have hq : jnF (ps' ++ [(⟨g.ky, g.ss ++ [x.ix], c'⟩, v')]) = jnF ps' ++ [(v', Blk.row 3 1 (nums .i64 (g.ss ++ [x.ix])))] := by simp [jnF]
      show SimX C _ (jnF (ps' ++ [(⟨g.ky, g.ss ++ [x.ix], c'⟩, v')])) a w
      rw [hq]
      exact LeX.mk [] [] rfl (by (repeat' (first | exact zaX | refine zbQ ?_ | refine le_r ?_ rfl rfl | refine za9 ?_ (by omega) rfl | refine zbR ?_ rfl rfl | refine zbS ?_ rfl rfl | refine zbH ?_ rfl zaN rfl rfl | refine zbX ?_ rfl rfl | refine zbW ?_ rfl rfl | refine zbZ ?_ ?_ rfl | refine zb0 ?_ ?_ rfl | refine za4 ?_ rfl | refine zbt ?_ rfl | refine zbi ?_ rfl | exact CfL.nil))) (zby zbq rfl rfl) C _ a w hl hs
  ·rintro ps2 ⟨hps2, hjnew⟩
   have hjl2 : (jnR ps2).length = ps2.length := by simp [jnR]
   have hpl2 : ps2.length ≤ 1000000 := by
    have h1 := zic (s.take k) []
    rw [← hfold, ← hps2, List.length_map, List.length_nil, List.length_take] at h1
    omega
   refine zgY rfl ?_
   (repeat' (first | refine zai ?_ | (refine zac (fun hb => ?_) (fun hb => ?_) <;> (try (exfalso; omega))) | fail))
   refine zb8 ?_
   refine zag rfl (by first | exact .inl ⟨rfl, rfl⟩ | exact zb7 rfl rfl rfl rfl) (zef (cs := .r (.v (.int .i64 x.ky)) :: (vsA (rtVs 0 0) ++ [.ow 2])) [(2, .row 3 1 [[.v (.int .i64 x.ix)]])] rfl rfl (fun i b h => by
    simp only [List.mem_cons, List.not_mem_nil, or_false, Prod.mk.injEq] at h
    obtain ⟨rfl, rfl⟩ := h
    rfl)) ?_
   (repeat' (first | refine zai ?_ | (refine zac (fun hb => ?_) (fun hb => ?_) <;> (try (exfalso; omega))) | fail))
   show awpX _ _ _ _ _ _
   refine zdT (S' := ⟨[(4, .ow 1), (16, .r (.sl 24 (pcs s))), (17, .r (.v (.int .i64 (s.length : Int)))), (18, .r (.v (.int .i64 (k : Int))))], [(1, some (.rowo 87 33 (jnR ps2) (gwC x.ky (.ow 0) x.c))), (0, some (.row 3 1 (nums .i64 [x.ix])))], 2⟩) (by
    refine LeX.mk [(0, 2), (1, 4)] [] rfl (by (repeat' (first | exact zaX | refine zbQ ?_ | refine le_r ?_ rfl rfl | refine za9 ?_ (by omega) rfl | refine zbR ?_ rfl rfl | refine zbS ?_ rfl rfl | refine zbH ?_ rfl zaN rfl rfl | refine zbX ?_ rfl rfl | refine zbW ?_ rfl rfl | refine zbZ ?_ ?_ rfl | refine zb0 ?_ ?_ rfl | refine za4 ?_ rfl | refine zbt ?_ rfl | refine zbi ?_ rfl | exact CfL.nil))) ?_
    exact ⟨⟨_, rfl, .rowo _ _ _ _ _ (show CfL _ _ _ (gwC x.ky (.ow 2) x.c) _ from zg1 rfl)⟩, ⟨_, rfl, .row _ _ _⟩, trivial⟩) ?_
   rw [show jnF ps2 = jnF ps2 ++ [] from (List.append_nil _).symm]
   refine zgF (q := 0) (b := .row 3 1 (nums .i64 [x.ix])) (F1 := jnF ps2) (F2 := []) rfl rfl fun v' => ?_
   refine zdT (S' := ⟨[(4, .ow 0), (16, .r (.sl 24 (pcs s))), (17, .r (.v (.int .i64 (s.length : Int)))), (18, .r (.v (.int .i64 (k : Int))))], [(0, some (.row 87 33 (jnR (ps2 ++ [(newG x, v')]))))], 1⟩) (by
    refine LeX.mk [(0, 1)] [] rfl (by (repeat' (first | exact zaX | refine zbQ ?_ | refine le_r ?_ rfl rfl | refine za9 ?_ (by omega) rfl | refine zbR ?_ rfl rfl | refine zbS ?_ rfl rfl | refine zbH ?_ rfl zaN rfl rfl | refine zbX ?_ rfl rfl | refine zbW ?_ rfl rfl | refine zbZ ?_ ?_ rfl | refine zb0 ?_ ?_ rfl | refine za4 ?_ rfl | refine zbt ?_ rfl | refine zbi ?_ rfl | exact CfL.nil))) ?_
    exact zfl (es := jnR ps2) zbq (zkF (g := newG x) (v := v')) (by simp [jnR]) (by rw [← zkT 0 v' (newG x).ky (newG x).c]; rfl)) ?_
   refine zgY rfl ?_
   (repeat' (first | refine zai ?_ | (refine zac (fun hb => ?_) (fun hb => ?_) <;> (try (exfalso; omega))) | fail))
   intro C a w hl hs
   refine ⟨(k + 1, ps2 ++ [(newG x, v')]), ⟨hlt, ?_⟩, (by show s.length - (k + 1) < s.length - k; omega), ?_⟩
   ·show List.map _ (ps2 ++ [(newG x, v')]) = _
    rw [hstep, ← hfold, hjnew, List.map_append, hps2]; rfl
   ·have hq : jnF (ps2 ++ [(newG x, v')]) = jnF ps2 ++ [(v', Blk.row 3 1 (nums .i64 [x.ix]))] := by simp [jnF, newG]
    show SimX C _ (jnF (ps2 ++ [(newG x, v')])) a w
    rw [hq]
    exact LeX.mk [] [] rfl (by (repeat' (first | exact zaX | refine zbQ ?_ | refine le_r ?_ rfl rfl | refine za9 ?_ (by omega) rfl | refine zbR ?_ rfl rfl | refine zbS ?_ rfl rfl | refine zbH ?_ rfl zaN rfl rfl | refine zbX ?_ rfl rfl | refine zbW ?_ rfl rfl | refine zbZ ?_ ?_ rfl | refine zb0 ?_ ?_ rfl | refine za4 ?_ rfl | refine zbt ?_ rfl | refine zbi ?_ rfl | exact CfL.nil))) (zby zbq rfl rfl) C _ a w hl hs
 ·have hke : k = s.length := by omega
  rw [hke, List.take_length] at hfold
  refine zbe (T := ⟨[(4, .ow 0), (19, .r (.v (.bool false)))], [(0, some (.row 87 33 (jnR ps)))], 1⟩) rfl (by
   (repeat' (first | refine zai ?_ | (refine zac (fun hb => ?_) (fun hb => ?_) <;> (try (exfalso; omega))) | fail))
   all_goals exact ⟨rfl, by (refine LeX.mk [] [] zaj zaC zav)⟩) ?_
  refine zcL (zdc (b := false) rfl (fun h => nomatch h) (fun _ => zgX ?_))
  show awpX _ _ _ _ _ _
  have hpl : ps.length ≤ 1000000 := by
   have h1 := zic s []
   rw [← hfold, List.length_map, List.length_nil] at h1
   omega
  clear hlt hke hk
  refine zbe (T := ⟨[(4, .ow 0), (8, .ow 1)], [(0, some (.row 87 33 (jnR ps))), (1, some (.row 51 12 (List.replicate ps.length zRv)))], 2⟩) rfl (by
   (repeat' (first | refine zai ?_ | (refine zac (fun hb => ?_) (fun hb => ?_) <;> (try (exfalso; omega))) | fail))
   refine ⟨rfl, LeX.mk [] [] rfl (by (repeat' (first | exact zaX | refine zbQ ?_ | refine le_r ?_ rfl rfl | refine za9 ?_ (by omega) rfl | refine zbR ?_ rfl rfl | refine zbS ?_ rfl rfl | refine zbH ?_ rfl zaN rfl rfl | refine zbX ?_ rfl rfl | refine zbW ?_ rfl rfl | refine zbZ ?_ ?_ rfl | refine zb0 ?_ ?_ rfl | refine za4 ?_ rfl | refine zbt ?_ rfl | refine zbi ?_ rfl | exact CfL.nil))) (zby (zby zbq (by rw [hjl]; rfl) rfl) rfl rfl)⟩) ?_
  refine zcL (zbe (T := jS2 ps (0, [])) rfl (by
   (repeat' (first | refine zai ?_ | (refine zac (fun hb => ?_) (fun hb => ?_) <;> (try (exfalso; omega))) | fail))
   refine ⟨rfl, ?_⟩
   unfold jS2
   exact LeX.mk [] [] rfl (by (repeat' (first | exact zaX | refine zbQ ?_ | refine le_r ?_ rfl rfl | refine za9 ?_ (by omega) rfl | refine zbR ?_ rfl rfl | refine zbS ?_ rfl rfl | refine zbH ?_ rfl zaN rfl rfl | refine zbX ?_ rfl rfl | refine zbW ?_ rfl rfl | refine zbZ ?_ ?_ rfl | refine zb0 ?_ ?_ rfl | refine za4 ?_ rfl | refine zbt ?_ rfl | refine zbi ?_ rfl | exact CfL.nil))) (zby (zby zbq rfl rfl) rfl rfl)) ?_)
  refine zeQ (zjz (jS2 ps) (fun y => oF y.2 ++ jnF (ps.drop y.1)) (fun y => y.1 ≤ ps.length ∧ y.2.map (·.1) = (ps.take y.1).map (·.1)) (fun y => ps.length - y.1) (0, []) ⟨Nat.zero_le _, rfl⟩ (fun C a w hl hs => hs) ?_)
  rintro ⟨i, ds⟩ ⟨hi, hds⟩
  dsimp only at hi hds ⊢
  unfold jS2
  dsimp only
  have hdl : ds.length = i := by
   have := congrArg List.length hds
   rw [List.length_map, List.length_map, List.length_take] at this; omega
  by_cases hlt : i < ps.length
  ·obtain ⟨⟨g, v⟩, hg⟩ : ∃ p, ps[i]? = some p := ⟨_, List.getElem?_eq_getElem hlt⟩
   have hgR : (jnR ps)[i]? = some (grR g v) := by unfold jnR; rw [List.getElem?_map, hg]; rfl
   have hgi : g.c.ok ∧ g.ss.length ≤ 0 + s.length := zjW s (fun y hy => hps.c y hy) [] 0 (fun _ h => nomatch h) g (by rw [← hfold]; exact List.mem_map.2 ⟨(g, v), List.mem_of_getElem? hg, rfl⟩)
   have hgl : g.ss.length ≤ 1000000 := by have := hgi.2; omega
   have hdrop : ps.drop i = (g, v) :: ps.drop (i + 1) := by
    rw [List.drop_eq_getElem_cons hlt]
    congr 1
    rw [List.getElem?_eq_getElem hlt] at hg
    injection hg
   rw [hdrop]
   show awpX _ _ _ _ _ (oF ds ++ (v, .row 3 1 (nums .i64 g.ss)) :: jnF (ps.drop (i + 1)))
   refine zjy (fun C a w hs => hs.slice) ?_
   rintro ⟨va, vm, vc, rfl⟩
   refine zbe (T := ⟨[(50, .ow 0), (51, .r (.v (.int .i64 (ps.length : Int)))), (52, .r (.v (.int .i64 (i : Int)))), (8, .ow 1), (53, .r (.v (.bool true)))], [(0, some (.row 87 33 (jnR ps))), (1, some (.row 51 12 (oRs ds ++ List.replicate (ps.length - i) zRv)))], 2⟩) rfl (by
    (repeat' (first | refine zai ?_ | (refine zac (fun hb => ?_) (fun hb => ?_) <;> (try (exfalso; omega))) | fail))
    all_goals exact ⟨rfl, by (refine LeX.mk [] [] zaj zaC zav)⟩) ?_
   refine zcL (zdc (b := true) rfl (fun _ => zfH ?_) (fun h => nomatch h))
   show awpX _ _ _ _ _ _
   refine zcL (zeQ ?_)
   refine zbe (T := ⟨[(50, .ow 0), (51, .r (.v (.int .i64 (ps.length : Int)))), (52, .r (.v (.int .i64 (i : Int)))), (8, .ow 1), (9, .r (.v (.int .i64 (i : Int)))), (10, .pt 2 0)], [(0, some (.row 87 33 (jnR ps))), (1, some (.row 51 12 (oRs ds ++ List.replicate (ps.length - i) zRv))), (2, some (.var 87 (gwC g.ky (.r (.v (.slice va vm vc))) g.c)))], 3⟩) rfl (by
    (repeat' (first | refine zai ?_ | (refine zac (fun hb => ?_) (fun hb => ?_) <;> (try (exfalso; omega))) | fail))
    all_goals refine ⟨rfl, LeX.mk [] [] rfl (by (repeat' (first | exact zaX | refine zbQ ?_ | refine le_r ?_ rfl rfl | refine za9 ?_ (by omega) rfl | refine zbR ?_ rfl rfl | refine zbS ?_ rfl rfl | refine zbH ?_ rfl zaN rfl rfl | refine zbX ?_ rfl rfl | refine zbW ?_ rfl rfl | refine zbZ ?_ ?_ rfl | refine zb0 ?_ ?_ rfl | refine za4 ?_ rfl | refine zbt ?_ rfl | refine zbi ?_ rfl | exact CfL.nil))) ?_⟩
    all_goals exact zby (zby (zc4 zbq (show CfL _ _ _ (gwC g.ky (.r (.v (.slice va vm vc))) g.c) _ from znz) rfl) rfl rfl) rfl rfl) ?_
   refine zjA (n := 3) (E := [(50, .ow 0), (51, .r (.v (.int .i64 (ps.length : Int)))), (52, .r (.v (.int .i64 (i : Int)))), (8, .ow 1), (9, .r (.v (.int .i64 (i : Int)))), (10, .pt 2 0)]) (H := [(0, some (.row 87 33 (jnR ps))), (1, some (.row 51 12 (oRs ds ++ List.replicate (ps.length - i) zRv))), (2, some (.var 87 (gwC g.ky (.ow 3) g.c)))]) rfl ?_
   have cS := zsz g.ss hgl
   refine zbe (T := ⟨[(50, .ow 0), (51, .r (.v (.int .i64 (ps.length : Int)))), (52, .r (.v (.int .i64 (i : Int)))), (8, .ow 1), (9, .r (.v (.int .i64 (i : Int)))), (10, .pt 2 0)], [(0, some (.row 87 33 (jnR ps))), (1, some (.row 51 12 (oRs ds ++ List.replicate (ps.length - i) zRv))), (2, some (.var 87 (gwC g.ky (.ow 3) g.c))), (3, some (.row 3 1 (nums .i64 (zcJ g.ss))))], 4⟩) rfl (by
    (repeat' (first | refine zai ?_ | (refine is_f 38 ?_; refine zp9 (cS) ?_) | (refine zac (fun hb => ?_) (fun hb => ?_) <;> (try (exfalso; omega))) | fail))
    exact ⟨rfl, LeX.mk [] [] rfl (by (repeat' (first | exact zaX | refine zbQ ?_ | refine le_r ?_ rfl rfl | refine za9 ?_ (by omega) rfl | refine zbR ?_ rfl rfl | refine zbS ?_ rfl rfl | refine zbH ?_ rfl zaN rfl rfl | refine zbX ?_ rfl rfl | refine zbW ?_ rfl rfl | refine zbZ ?_ ?_ rfl | refine zb0 ?_ ?_ rfl | refine za4 ?_ rfl | refine zbt ?_ rfl | refine zbi ?_ rfl | exact CfL.nil))) (zby (zby (zc4 (zby zbq rfl rfl) (zg1 rfl) rfl) rfl rfl) rfl rfl)⟩) ?_
   have cC := znD hgi.1
   refine zbe (T := ⟨[(50, .ow 0), (51, .r (.v (.int .i64 (ps.length : Int)))), (52, .r (.v (.int .i64 (i : Int)))), (8, .ow 1), (9, .r (.v (.int .i64 (i : Int)))), (10, .pt 2 0)], [(0, some (.row 87 33 (jnR ps))), (1, some (.row 51 12 (oRs ds ++ List.replicate (ps.length - i) zRv))), (2, some (.var 87 (gwS g.ky (chC g.c).1 (chC g.c).2 (.ow 3) g.c))), (3, some (.row 3 1 (nums .i64 (zcJ g.ss))))], 4⟩) rfl (by
    (repeat' (first | refine zai ?_ | (refine is_f 39 ?_; refine zah (cC) ?_) | (refine zac (fun hb => ?_) (fun hb => ?_) <;> (try (exfalso; omega))) | fail))
    exact ⟨rfl, LeX.mk [] [] rfl (by (repeat' (first | exact zaX | refine zbQ ?_ | refine le_r ?_ rfl rfl | refine za9 ?_ (by omega) rfl | refine zbR ?_ rfl rfl | refine zbS ?_ rfl rfl | refine zbH ?_ rfl zaN rfl rfl | refine zbX ?_ rfl rfl | refine zbW ?_ rfl rfl | refine zbZ ?_ ?_ rfl | refine zb0 ?_ ?_ rfl | refine za4 ?_ rfl | refine zbt ?_ rfl | refine zbi ?_ rfl | exact CfL.nil))) (zby (zby (zc4 (zby zbq rfl rfl) (show CfL _ _ _ (gwS g.ky (chC g.c).1 (chC g.c).2 (.ow 3) g.c) _ from zrl rfl) rfl) rfl rfl) rfl rfl)⟩) ?_
   refine zgF (q := 3) (b := .row 3 1 (nums .i64 (zcJ g.ss))) (F1 := oF ds) (F2 := jnF (ps.drop (i + 1))) rfl rfl fun v' => ?_
   refine zjy (fun C a w hs => hs.slice) ?_
   rintro ⟨va', vm', vc', rfl⟩
   refine zdT (S' := ⟨[(50, .ow 0), (51, .r (.v (.int .i64 (ps.length : Int)))), (52, .r (.v (.int .i64 (i : Int)))), (8, .ow 1), (9, .r (.v (.int .i64 (i : Int)))), (10, .pt 2 0)], [(0, some (.row 87 33 (jnR ps))), (1, some (.row 51 12 (oRs ds ++ List.replicate (ps.length - i) zRv))), (2, some (.var 87 (gwS g.ky (chC g.c).1 (chC g.c).2 (.r (.v (.slice va' vm' vc'))) g.c)))], 3⟩) (by
    refine LeX.mk [] [] rfl (by (repeat' (first | exact zaX | refine zbQ ?_ | refine le_r ?_ rfl rfl | refine za9 ?_ (by omega) rfl | refine zbR ?_ rfl rfl | refine zbS ?_ rfl rfl | refine zbH ?_ rfl zaN rfl rfl | refine zbX ?_ rfl rfl | refine zbW ?_ rfl rfl | refine zbZ ?_ ?_ rfl | refine zb0 ?_ ?_ rfl | refine za4 ?_ rfl | refine zbt ?_ rfl | refine zbi ?_ rfl | exact CfL.nil))) ?_
    exact zby (zby (zc4 zbq zpF (by rw [← zpW 3 (.slice va' vm' vc')]; rfl)) rfl rfl) rfl rfl) ?_
   have hoi : (oRs ds ++ List.replicate (ps.length - i) zRv)[i]? = some zRv := by
    rw [List.getElem?_append_right (by simp [oRs, hdl]), List.getElem?_replicate, if_pos (by simp [oRs, hdl]; omega)]
   have hol : (oRs ds ++ List.replicate (ps.length - i) zRv).length = ps.length := by simp [oRs, hdl]; omega
   refine zh3 (T := ⟨[(50, .ow 0), (51, .r (.v (.int .i64 (ps.length : Int)))), (52, .r (.v (.int .i64 (i : Int)))), (8, .ow 1)], [(0, some (.row 87 33 (jnR ps))), (1, some (.row 51 12 (oRs (ds ++ [(g, .slice va' vm' vc')]) ++ List.replicate (ps.length - (i + 1)) zRv)))], 2⟩) rfl (by
    (repeat' (first | refine zai ?_ | (refine zac (fun hb => ?_) (fun hb => ?_) <;> (try (exfalso; omega))) | fail))
    have hset : (oRs ds ++ List.replicate (ps.length - i) zRv).set i (oR g (.slice va' vm' vc')) = oRs (ds ++ [(g, .slice va' vm' vc')]) ++ List.replicate (ps.length - (i + 1)) zRv := by
     have h1 : (oRs ds).length = i := by simp [oRs, hdl]
     rw [List.set_append_right _ _ (by omega), h1, Nat.sub_self, show ps.length - i = (ps.length - (i + 1)) + 1 by omega, List.replicate_succ, List.set_cons_zero]
     simp [oRs]
    exact ⟨rfl, LeX.mk [] [] rfl (by (repeat' (first | exact zaX | refine zbQ ?_ | refine le_r ?_ rfl rfl | refine za9 ?_ (by omega) rfl | refine zbR ?_ rfl rfl | refine zbS ?_ rfl rfl | refine zbH ?_ rfl zaN rfl rfl | refine zbX ?_ rfl rfl | refine zbW ?_ rfl rfl | refine zbZ ?_ ?_ rfl | refine zb0 ?_ ?_ rfl | refine za4 ?_ rfl | refine zbt ?_ rfl | refine zbi ?_ rfl | exact CfL.nil))) (zby (zby zbq hset rfl) rfl rfl)⟩) ?_
   show awpX _ _ _ _ _ _
   have hwi : IntKind.i64.wrap ((i : Int) + 1) = ((i + 1 : Nat) : Int) := zaT i (by omega)
   refine zgY rfl ?_
   (repeat' (first | refine zai ?_ | (refine zac (fun hb => ?_) (fun hb => ?_) <;> (try (exfalso; omega))) | fail))
   intro C a w hl hs
   refine ⟨(i + 1, ds ++ [(g, .slice va' vm' vc')]), ⟨hlt, ?_⟩, (by show ps.length - (i + 1) < ps.length - i; omega), ?_⟩
   ·show List.map _ (ds ++ [(g, .slice va' vm' vc')]) = List.map _ (ps.take (i + 1))
    rw [List.take_add_one, hg, List.map_append, List.map_append, hds]; rfl
   ·have hq : oF (ds ++ [(g, .slice va' vm' vc')]) ++ jnF (ps.drop (i + 1)) = oF ds ++ (.slice va' vm' vc', Blk.row 3 1 (nums .i64 (zcJ g.ss))) :: jnF (ps.drop (i + 1)) := by simp [oF]
    show SimX C _ (oF (ds ++ [(g, .slice va' vm' vc')]) ++ jnF (ps.drop (i + 1))) a w
    rw [hq]
    exact LeX.mk [] [] rfl (by (repeat' (first | exact zaX | refine zbQ ?_ | refine le_r ?_ rfl rfl | refine za9 ?_ (by omega) rfl | refine zbR ?_ rfl rfl | refine zbS ?_ rfl rfl | refine zbH ?_ rfl zaN rfl rfl | refine zbX ?_ rfl rfl | refine zbW ?_ rfl rfl | refine zbZ ?_ ?_ rfl | refine zb0 ?_ ?_ rfl | refine za4 ?_ rfl | refine zbt ?_ rfl | refine zbi ?_ rfl | exact CfL.nil))) (zby (zby zbq rfl rfl) rfl rfl) C _ a w hl hs
  ·have hie : i = ps.length := by omega
   subst hie
   rw [List.take_length] at hds
   rw [List.drop_length, Nat.sub_self]
   refine zbe (T := ⟨[(8, .ow 0), (53, .r (.v (.bool false)))], [(0, some (.row 51 12 (oRs ds)))], 1⟩) rfl (by
    (repeat' (first | refine zai ?_ | (refine zac (fun hb => ?_) (fun hb => ?_) <;> (try (exfalso; omega))) | fail))
    all_goals refine ⟨rfl, LeX.mk [(0, 1)] [] rfl (by (repeat' (first | exact zaX | refine zbQ ?_ | refine le_r ?_ rfl rfl | refine za9 ?_ (by omega) rfl | refine zbR ?_ rfl rfl | refine zbS ?_ rfl rfl | refine zbH ?_ rfl zaN rfl rfl | refine zbX ?_ rfl rfl | refine zbW ?_ rfl rfl | refine zbZ ?_ ?_ rfl | refine zb0 ?_ ?_ rfl | refine za4 ?_ rfl | refine zbt ?_ rfl | refine zbi ?_ rfl | exact CfL.nil))) (zby zbq (List.append_nil _) rfl)⟩) ?_
   refine zcL (zdc (b := false) rfl (fun h => nomatch h) (fun _ => zgX ?_))
   show awpX _ _ _ _ _ _
   have hgrs : ds.map (fun p => grO p.1) = (s.foldl jn []).map grO := by
    rw [← hfold, ← hds, List.map_map]; rfl
   refine zpD (S' := ⟨[(8, .ow 0), (53, .r (.v (.bool false)))], [(0, some (.row 51 12 ((s.foldl jn []).map grO))), (0, some (.row 51 12 (oRs ds)))], 1⟩) (fun C a w hl hs => ?_) ?_
   ·refine hs.dissolve hl (i := 0) (es := oRs ds) rfl (by rw [← hgrs]; simp [oRs]) ?_ ?_
    ·intro e he
     obtain ⟨g, _, rfl⟩ := List.mem_map.1 he
     rfl
    ·rw [← hgrs]
     exact fz_o ds _ fun p hp => List.mem_append_left _ (List.mem_map.2 ⟨p, hp, rfl⟩)
   ·(repeat' (first | refine zai ?_ | (refine zac (fun hb => ?_) (fun hb => ?_) <;> (try (exfalso; omega))) | fail))
    exact ⟨rfl, ret2 [] (.fr 0 _ _ _ rfl) (.r _) rfl rfl rfl rfl⟩
def grOs (gs : List Gr) : List (List RV) := gs.map grO
section
variable {env : Nat → AV} {H : Nat → Option Blk} {d : Option Tmp} {ty : TypeId} {pos : String} {af : Array Edge} {g : Option (Nat × Bool)} {u : TypeId} {x y : Operand}
theorem zr6 (p q : Int) (h1 : W4 p) (h2 : W4 q) (hx : evA env x = rt p q) (hy : evA env y = rt p q) : zax Tryz.prog ⟨d, .binOp .neq 38 x y u, ty, pos, af, g⟩ env H [] (.r (.v (.bool false))) := by
 have h := ztn (H := H) (d := d) (ty := ty) (pos := pos) (af := af) (g := g) (u := u) (x := x) (y := y) (vs := rtVs p q) (us := rtVs p q) (by kernel_rfl) (zlF (d := 9996) h1 h2 h1 h2) hx hy
 simpa using h
end
def smO (gs : List Gr) (i : Nat) : St := ⟨[(0, .r (.sl 12 (grOs gs))), (1, .r (.sl 12 (grOs gs))), (5, .r (.v (.int .i64 (i : Int))))], [], 0⟩
def smI (gs : List Gr) (i k : Nat) : St := ⟨[(0, .r (.sl 12 (grOs gs))), (1, .r (.sl 12 (grOs gs))), (5, .r (.v (.int .i64 (i : Int)))), (6, .r (.v (.int .i64 (k : Int))))], [], 0⟩
theorem zq0 (gs : List Gr) (hl : gs.length ≤ 1000000) (hs : ∀ g ∈ gs, g.ss.length ≤ 1000000 ∧ W4 (chC g.c).1 ∧ W4 (chC g.c).2) : zan Tryz.prog 17 [.r (.sl 12 (grOs gs)), .r (.sl 12 (grOs gs))] [] (.r (.v (.bool true))) [] := by
 have hlen : (grOs gs).length = gs.length := by simp [grOs]
 refine zap Tryz.func17 rfl (Nat.le_of_ble_eq_true rfl) rfl rfl ?_
 (repeat' (first | refine zai ?_ | (refine zac (fun hb => ?_) (fun hb => ?_) <;> (try (exfalso; omega))) | fail))
 refine zas (smO gs) (fun i => i ≤ gs.length) (fun i => gs.length - i) 0 (Nat.zero_le _) (by (refine Le.mk [] [] zaj zaC zav zal)) fun i hi => ?_
 rcases Nat.lt_or_ge i gs.length with hlt | hge
 ·obtain ⟨g, hg⟩ : ∃ g, gs[i]? = some g := ⟨_, List.getElem?_eq_getElem hlt⟩
  obtain ⟨hg1, hg2, hg3⟩ := hs g (List.mem_of_getElem? hg)
  have hgO : (grOs gs)[i]? = some (grO g) := by unfold grOs; rw [List.getElem?_map, hg]; rfl
  have hsl : (nums .i64 (zcJ g.ss)).length = g.ss.length := by rw [zbz]; exact (List.mergeSort_perm _ _).length_eq
  have hwi : IntKind.i64.wrap ((i : Int) + 1) = ((i + 1 : Nat) : Int) := zaT i (by omega)
  (repeat' (first | (refine zbP ?_; refine zbM ?_; refine zag rfl zab (zr6 _ _ hg2 hg3 rfl rfl) ?_) | (refine zea ?_; refine zag rfl zab (zl4 rfl (Nat.le_of_ble_eq_true rfl)) ?_) | refine zai ?_ | (refine zac (fun hb => ?_) (fun hb => ?_) <;> (try (exfalso; omega))) | fail))
  refine zas (smI gs i) (fun k => k ≤ g.ss.length) (fun k => g.ss.length - k) 0 (Nat.zero_le _) (by (refine Le.mk [] [] zaj zaC zav zal)) fun k hk => ?_
  have hzl : (zcJ g.ss).length = g.ss.length := (List.mergeSort_perm _ _).length_eq
  rcases Nat.lt_or_ge k g.ss.length with hlt2 | hge2
  ·obtain ⟨z, hz⟩ : ∃ z, (zcJ g.ss)[k]? = some z := ⟨_, List.getElem?_eq_getElem (by omega)⟩
   have hzO : (nums .i64 (zcJ g.ss))[k]? = some [.v (.int .i64 z)] := by unfold nums; rw [List.getElem?_map, hz]; rfl
   have hwk : IntKind.i64.wrap ((k : Int) + 1) = ((k + 1 : Nat) : Int) := zaT k (by omega)
   (repeat' (first | refine zai ?_ | (refine zac (fun hb => ?_) (fun hb => ?_) <;> (try (exfalso; omega))) | fail))
   all_goals (first | (exfalso; omega) | exact ⟨k + 1, hlt2, by (refine Le.mk [] [] zaj zaC zav zal), by show g.ss.length - (k + 1) < g.ss.length - k; omega⟩)
  ·(repeat' (first | refine zai ?_ | (refine zac (fun hb => ?_) (fun hb => ?_) <;> (try (exfalso; omega))) | fail))
   all_goals (first | (exfalso; omega) | exact ⟨i + 1, hlt, by (refine Le.mk [] [] zaj zaC zav zal), by show gs.length - (i + 1) < gs.length - i; omega⟩)
 ·(repeat' (first | refine zai ?_ | (refine zac (fun hb => ?_) (fun hb => ?_) <;> (try (exfalso; omega))) | fail))
  all_goals (first | (exfalso; omega) | exact ret1 [] (.bool rfl) rfl rfl rfl)
end Go.Proofs.YtibedaeefnjjlaaGreat
